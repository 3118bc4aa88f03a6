/- The operations of bytes: the program's Decode. -/
import Derived.Test.YtniokdflljchgaaScrD3
import Derived.Test.YtniokdflljchgaaOps
namespace Go.Proofs.Ytniokdflljchgaa
open Go.RowKit Go.Sort

set_option maxHeartbeats 2000000 in
set_option maxRecDepth 100000 in
theorem sdec_c (v : Value) (l : List UInt8) (w : World) (h : RdL byF 1 w v l) (hc : ∀ a n c, v = .slice a n c → n ≤ c) : Calls Try.prog 16 #[v] w (DecOP l w) := by
  obtain ⟨a, c, rfl⟩ := h.shape
  have hlc := hc _ _ _ rfl
  obtain ⟨n, l1, e1, X⟩ : ∃ n l1 e1, numF 4096 4 l 0 = (n, l1, e1) := ⟨_, _, _, rfl⟩
  have hn : n ≤ 4096 := by have := (numF_w (most := 4096) (over := 4) (l := l) (e := 0)).2; rw [X] at this; exact this
  have HD := Lib.hid (show decOp l = opsD n l1 e1 by unfold decOp; rw [X])
  have C1 := Lib.hid fun w' g (h : Rdr w.heap.size w' g l 0) => X ▸ snum_c w.heap.size g 4096 4 l 0 w' h (by omega) (by omega)
  have H := Lib.hid h
  clear h hc X
  go_enter Try.func16, Try.ntmps16
  go_upto_region 3 with fail
  have Bb := Blk.new w #[.slice a l.length c, .int .i64 0] 82
  have gb := World.grownBy_alloc w (.cells #[.slice a l.length c, .int .i64 0] 82) none
  have zb : (w.alloc (.cells #[.slice a l.length c, .int .i64 0] 82)).heap.size = w.heap.size + 1 := by simp
  have HR := Lib.hid (Rdr.new H.out hlc Bb gb (Nat.le_refl _))
  generalize w.alloc (.cells #[.slice a l.length c, .int .i64 0] 82) = wb at *
  obtain ⟨g, hg⟩ : ∃ g, w.heap.size = g := ⟨_, rfl⟩
  have HG := Lib.hid hg
  rw [hg] at HR C1 zb Bb
  rw [hg]
  clear hg Bb
  go_upto_region 4 with (go_at_call 49; refine (C1.out _ _ HR.out).mono ?_; rintro en wx ⟨rfl, Rx, gx⟩)
  have Rx' := Lib.hid Rx
  have Gx := Lib.hid (grownBy_new gb gx (by rw [HG.out]; exact Nat.le_refl _))
  have zx : g + 1 ≤ wx.heap.size := by have := gx.size; omega
  clear Rx gx gb HR C1 zb
  go_loopw [11, 5] (fun s11 s5 wk => ∃ (j : Nat) (L : List OpR), j ≤ n ∧ s11 = .int .i64 j ∧ OpsG (g + 1) wk s5 L ∧ L.map opC = (opsD j l1 e1).1.map opC ∧ Rdr g wk g (opsD j l1 e1).2.1 (opsD j l1 e1).2.2 ∧ w.grownBy wk none ∧ g + 1 ≤ wk.heap.size) (fun s11 _ _ => n - (intOf s11).toNat)
  case atStart => exact ⟨0, [], by omega, rfl, OpsG.nil _ _, rfl, Rx'.out, Gx.out, zx⟩
  case round =>
    clear Rx' Gx zx
    obtain ⟨j, L, hj, rfl, hO, hL, hR, hg, hz⟩ := hrel
    have HGr := Lib.hid hg
    have HR := Lib.hid hR
    by_cases hlt : j < n
    · have hLl : L.length = j := by have := congrArg List.length hL; simpa [ops_len] using this
      have HS := Lib.hid (show ((opsD j l1 e1).1 ++ [(opD (opsD j l1 e1).2.1 (opsD j l1 e1).2.2).1], (opD (opsD j l1 e1).2.1 (opsD j l1 e1).2.2).2) = opsD (j + 1) l1 e1 from rfl)
      have HL := Lib.hid hL
      have HO := Lib.hid hO
      obtain ⟨oa, oc, rfl⟩ := hO.own.shape
      have hb1 : (L.length + 1) * 88 ≤ 140737488355328 := by omega
      have hb2 : L.length + 1 ≤ 9223372036854775807 := by omega
      have HLl := Lib.hid hLl
      clear hLl hL hO hR hg
      generalize opsD j l1 e1 = OD at *
      have Ck := Lib.hid fun w' (h : Rdr g w' g OD.2.1 OD.2.2) => sop_c g g _ _ w' h
      generalize opD OD.2.1 OD.2.2 = F at *
      go_upto_region 6 with (first
        | (go_at_call 50; refine (Ck.out _ HR.out).mono ?_; rintro en w2 ⟨vd, vp, rfl, d2, i2, i3, R2, g2⟩; obtain ⟨da, dc, hvd⟩ := d2.data.shape; obtain ⟨pa, pc, hvp⟩ := d2.picks.shape; dsimp only at hvd hvp; subst hvd hvp; have O2 := HO.out.kept g2 (fun k e => by cases e; omega); have hz2 : g + 1 ≤ w2.heap.size := Nat.le_trans hz g2.size)
        | (at_builtin; refine app_oneV elt_op opF_len O2.own ⟨F.1.kind, .slice da F.1.data.length dc, F.1.time, F.1.shard, F.1.key, .slice pa F.1.picks.length pc, F.1.data, F.1.picks⟩ one_op hb1 hb2 hz2 (by rfl) rfl _ _ (by rfl) (by rfl) (by rfl) ?_; intro v3 w3 o3 g3 l3))
      have O3 := O2.snoc (o := ⟨F.1.kind, .slice da F.1.data.length dc, F.1.time, F.1.shard, F.1.key, .slice pa F.1.picks.length pc, F.1.data, F.1.picks⟩) (n := wr.heap.size) d2 ⟨i2, i3⟩ hz (fun k hk => (HO.out.own.lt k hk).2) o3 g3 l3
      have hlo : ∀ k, (Value.slice oa L.length oc).ownBlock = some k → g + 1 ≤ k := fun k hk => (HO.out.own.lt k hk).1
      have R3 := R2.kept g3 (fun e => by have := hlo _ e; omega) (fun k e => by have := hlo _ e; omega)
      have G3 : w.grownBy w3 none := by
        have h5 := grownBy_new HGr.out g2 (by rw [HG.out]; exact Nat.le_refl _)
        cases hv : (Value.slice oa L.length oc).ownBlock with
        | none => rw [hv] at g3; exact grownBy_trans h5 g3
        | some k => rw [hv] at g3; exact grownBy_new h5 g3 (by have := hlo k hv; have := HG.out; omega)
      have z3 := g3.size
      have H3 := Lib.hid (And.intro O3 (And.intro R3 G3))
      clear O3 R3 G3 o3 g3 l3 O2 R2 g2 d2 i2 i3 Ck
      go_wp2_with fail
      exact ⟨⟨j + 1, _, by omega, by go_num, H3.out.1, by rw [← HS.out, List.map_append, List.map_append, HL.out]; rfl, by rw [← HS.out]; exact H3.out.2.1, H3.out.2.2, by omega⟩, by simp [intOf]; omega⟩
    · obtain rfl : j = n := by omega
      clear hlt hj
      have HO := Lib.hid hO
      obtain ⟨oa, oc, rfl⟩ := hO.own.shape
      have hE := Lib.hid (show decOE l = if (opsD j l1 e1).2.2 ≠ 0 then (opsD j l1 e1).2.2 else if (opsD j l1 e1).2.1 ≠ [] then 3 else 0 by unfold decOE; rw [HD.out])
      have hF := Lib.hid (p := decOE l = 0 → L.map opC = (decO l).map opC) (fun h => by unfold decO; rw [if_pos h, HD.out]; exact hL)
      clear hL hO hR HD
      generalize opsD j l1 e1 = OD at *
      obtain ⟨az, cz, hbz, -, -, -⟩ := HR.out.ex
      have bc := hbz.cell
      have bf := hbz.free
      clear hbz
      obtain ⟨OL, LZ, ez⟩ := OD
      dsimp only at *
      by_cases hez : ez = 0
      · subst hez
        cases LZ with
        | cons b0 lz =>
          have HE := Lib.hid (show decOE l = 3 by rw [hE.out]; simp)
          have hp : (0 : Int) < ((b0 :: lz).length : Int) := by simp
          generalize b0 :: lz = LZ at *
          have S4 := HR.out.setE 3
          go_upto_region 10 with fail
          clear bc bf
          have HK := Lib.hid (grownBy_new HGr.out S4.2 (by rw [HG.out]; exact Nat.le_refl _))
          obtain ⟨az, cz, hbz, -, -, -⟩ := S4.1.ex
          have bc := hbz.cell
          clear hbz S4
          generalize wr.setCell ⟨g, 1, none⟩ (.int .i64 3) = ws at *
          go_quiet (fail)
          go_wp2_with fail
          go_ret2
          exact decOP_no HE.out (by decide) (grownBy_drewN HK.out _)
        | nil =>
          have HE := Lib.hid (show decOE l = 0 by rw [hE.out]; simp)
          go_wp2_with fail
          go_ret2
          exact ⟨_, L, by rw [HE.out]; rfl, HO.out.base (by have := HG.out; omega), hF.out HE.out, HGr.out⟩
      · have hez2 : (ez == 0) = false := by simpa using hez
        have hez3 : (ez != 0) = true := by simpa using hez
        have HE := Lib.hid (show decOE l = ez by rw [hE.out]; simp [hez])
        have HE0 := Lib.hid hez
        clear hez
        go_upto_region 10 with fail
        go_quiet (fail)
        go_wp2_with fail
        go_ret2
        exact decOP_no HE.out HE0.out (grownBy_drewN HGr.out _)
end Go.Proofs.Ytniokdflljchgaa
