/- Several texts in one file; each begins with a comment that says what is proved in it. -/
import Derived.Test.YtniokdflljchgaaBuxA
import Derived.Test.YtniokdflljchgaaScrD3
import Derived.Test.YtniokdflljchgaaOps
import Derived.Test.YtniokdflljchgaaScr
import Derived.Test.YtniokdflljchgaaDeck
import Derived.Laws.Bits128
import Derived.Test.YtniokdflljchgaaBlk
import Derived.Maps.OwnSet
import Derived.Test.YtniokdflljchgaaIns
import Derived.Test.YtniokdflljchgaaLawSA
import Derived.Test.YtniokdflljchgaaRdr
import Derived.Test.YtniokdflljchgaaOpS
import Derived.Test.YtniokdflljchgaaRet

/- The operations of bytes: the reference's Decode. -/
namespace Go.Proofs.Ytniokdflljchgaa
open Go.RowKit Go.Sort

set_option maxHeartbeats 4000000 in
set_option maxRecDepth 100000 in
theorem sdecR_c (v : Value) (l : List UInt8) (w : World) (h : RdL byF 1 w v l) (hc : ∀ a n c, v = .slice a n c → n ≤ c) : Calls Try.prog 17 #[v] w (DecOP l w) := by
  obtain ⟨a, c, rfl⟩ := h.shape
  have hlc := hc _ _ _ rfl
  obtain ⟨n, l1, e1, X⟩ : ∃ n l1 e1, numF 4096 4 l 0 = (n, l1, e1) := ⟨_, _, _, rfl⟩
  have hn : n ≤ 4096 := by have := (numF_w (most := 4096) (over := 4) (l := l) (e := 0)).2; rw [X] at this; exact this
  have HD := Lib.hid (show decOp l = opsD n l1 e1 by unfold decOp; rw [X])
  have C1 := Lib.hid fun w' g (h : Rdr w.heap.size w' g l 0) => X ▸ rupto_c w.heap.size g 4096 4 l 0 w' h (by omega) (by omega)
  have H := Lib.hid h
  clear h hc X
  go_enter Try.func17, Try.ntmps17
  go_upto_region 3 with fail
  have Bb := Blk.new w #[.slice a l.length c, .int .i64 0] 87
  have gb := World.grownBy_alloc w (.cells #[.slice a l.length c, .int .i64 0] 87) none
  have zb : (w.alloc (.cells #[.slice a l.length c, .int .i64 0] 87)).heap.size = w.heap.size + 1 := by simp
  have HR := Lib.hid (Rdr.new H.out hlc Bb gb (Nat.le_refl _))
  generalize w.alloc (.cells #[.slice a l.length c, .int .i64 0] 87) = wb at *
  obtain ⟨g, hg⟩ : ∃ g, w.heap.size = g := ⟨_, rfl⟩
  have HG := Lib.hid hg
  rw [hg] at HR C1 zb Bb
  rw [hg]
  clear hg Bb
  go_upto_region 4 with (go_at_call 51; refine (C1.out _ _ HR.out).mono ?_; rintro en wx ⟨rfl, Rx, gx⟩)
  have Rx' := Lib.hid Rx
  have Gx := Lib.hid (grownBy_new gb gx (by rw [HG.out]; exact Nat.le_refl _))
  have zx : g + 1 ≤ wx.heap.size := by have := gx.size; omega
  clear Rx gx gb HR C1 zb
  go_loopw [6, 5] (fun s6 s5 wk => ∃ (j : Nat) (L : List OpR) (m : Int), j ≤ n ∧ s6 = .int .i64 m ∧ m = (n : Int) - (j : Int) ∧ OpsG (g + 1) wk s5 L ∧ L.map opC = (opsD j l1 e1).1.map opC ∧ Rdr g wk g (opsD j l1 e1).2.1 (opsD j l1 e1).2.2 ∧ w.grownBy wk none ∧ g + 1 ≤ wk.heap.size) (fun s6 _ _ => (intOf s6).toNat)
  case atStart => exact ⟨0, [], n, by omega, rfl, by omega, OpsG.nil _ _, rfl, Rx'.out, Gx.out, zx⟩
  case round =>
    clear Rx' Gx zx
    obtain ⟨j, L, m, hj, rfl, hm, hO, hL, hR, hg, hz⟩ := hrel
    have HGr := Lib.hid hg
    have HR := Lib.hid hR
    have hLl : L.length = j := by have := congrArg List.length hL; simpa [ops_len] using this
    have HL := Lib.hid hL
    have HO := Lib.hid hO
    have hm1 : m ≤ 4096 := by omega
    have hm2 : 0 ≤ m := by omega
    have Hm := Lib.hid hm
    obtain ⟨oa, oc, rfl⟩ := hO.own.shape
    have hb1 : (L.length + 1) * 88 ≤ 140737488355328 := by omega
    have hb2 : L.length + 1 ≤ 9223372036854775807 := by omega
    by_cases hgo : j < n ∧ (opsD j l1 e1).2.2 = 0
    · obtain ⟨hlt, he0⟩ := hgo
      have hm3 : 0 < m := by omega
      have HS := Lib.hid (show ((opsD j l1 e1).1 ++ [(opD (opsD j l1 e1).2.1 (opsD j l1 e1).2.2).1], (opD (opsD j l1 e1).2.1 (opsD j l1 e1).2.2).2) = opsD (j + 1) l1 e1 from rfl)
      clear hLl hL hO hR hg hm
      generalize opsD j l1 e1 = OD at *
      obtain ⟨OL, L0, E0⟩ := OD
      dsimp only at *
      subst he0
      obtain ⟨k, l2, e2, X⟩ : ∃ k l2 e2, numF 5 3 L0 0 = (k, l2, e2) := ⟨_, _, _, rfl⟩
      have hk5 : k ≤ 5 := by have := (numF_w (most := 5) (over := 3) (l := L0) (e := 0)).2; rw [X] at this; exact this
      have HZ := Lib.hid (p := e2 ≠ 0 → k = 0) (fun h => by have := numF_0 (most := 5) (over := 3) (l := L0) (e := 0); rw [X] at this; exact this h)
      have HD2 := Lib.hid (show opD L0 0 = if e2 ≠ 0 then (opZ 0, l2, e2) else opK k l2 by unfold opD; rw [X])
      have C1 := Lib.hid fun w' (h : Rdr g w' g L0 0) => X ▸ rupto_c g g 5 3 L0 0 w' h (by omega) (by omega)
      obtain ⟨κ, hκ⟩ : ∃ κ : Int, (k : Int) = κ := ⟨_, rfl⟩
      have Hκ := Lib.hid hκ
      obtain ⟨az, cz, hbz, -, -, -⟩ := HR.out.ex
      have bc := hbz.cell
      clear X hκ hbz
      go_upto_region 7 with (refine alloc_op rfl rfl ?_; intro wa Aa ga za)
      (try simp only [Act.put, List.setIfInBounds_toArray, List.set_cons_zero, List.set_cons_succ])
      clear bc
      have HRa := Lib.hid (HR.out.same ga)
      have hgw : g < wr.heap.size := by omega
      have D0 := Lib.hid (show OpS g g wr.heap.size [] wr ⟨0, .slice none 0 0, 0, 0, ⟨#[]⟩, .slice none 0 0, [], []⟩ L0 0 wa from
        ⟨by simp, Aa, HRa.out, (Own.nil byF 1 5 0 wa).rd, inB_nil _ _ _ _, fun a n c e => by cases e; omega, Own.nil _ _ _ _ _, fun k hk => by simp [Value.ownBlock] at hk, grownBy_some ga (some g), hgw, Nat.le_refl _⟩)
      clear Aa ga za HRa
      obtain ⟨bx, hbx⟩ : ∃ bx, wr.heap.size = bx := ⟨_, rfl⟩
      have HBX := Lib.hid hbx
      rw [hbx] at D0 hgw
      rw [hbx]
      have hzb : g + 1 ≤ bx := by omega
      have HOlt := Lib.hid (fun k hk => hbx ▸ (HO.out.own.lt k hk).2 : ∀ k, (Value.slice oa L.length oc).ownBlock = some k → k < bx)
      clear hbx
      go_upto_region 8 with (go_at_call 51; refine (C1.out _ D0.out.rdr).mono ?_; rintro en wx ⟨hen, Rx, gx⟩; obtain rfl : en = .returned (.int .i64 κ) := hen.trans (by rw [← Hκ.out]); have Dx := D0.out.call Rx gx; have ac := Dx.box.cell; have af := Dx.box.free)
      have D1 := Lib.hid (Dx.set ⟨κ, .slice none 0 0, 0, 0, ⟨#[]⟩, .slice none 0 0, [], []⟩ 0 (.int .i64 κ) rfl Dx.od Dx.oi Dx.oc Dx.op Dx.ap)
      clear Dx Rx gx ac af C1 D0 hen
      generalize wx.setCell ⟨bx, 0, none⟩ (.int .i64 κ) = wd at *
      clear wx
      have bxc := D1.out.box.cell
      obtain ⟨az, cz, hbz, -, -, -⟩ := D1.out.rdr.ex
      have bc := hbz.cell
      have bf := hbz.free
      clear hbz
      by_cases he : e2 = 0
      · subst he
        have HD3 := Lib.hid (HD2.out.trans (if_neg (by simp)))
        clear HD2 HZ
        rcases (show k = 0 ∨ k = 1 ∨ k = 2 ∨ k = 3 ∨ k = 4 ∨ k = 5 by omega) with rfl | rfl | rfl | rfl | rfl | rfl
        · obtain rfl : κ = 0 := Hκ.out.symm
          go_upto_region 27 with fail
          have D2 := Lib.hid (D1.out.setE 3)
          clear bc bf bxc D1
          generalize wd.setCell ⟨g, 1, none⟩ (.int .i64 3) = w1 at *
          have HFk := Lib.hid HD3.out
          have HBx := Lib.hid (D2).out.box
          have O2 := HO.out.kept (D2).out.G (fun k e => by cases e; omega)
          have hz2 : g + 1 ≤ (w1).heap.size := Nat.le_trans hz (D2).out.G.size
          have d2 := (D2).out.rd
          have hlo2 := (D2).out.hw
          go_upto_region 5 with (first
            | (refine load_op rfl _ rfl _ rfl HBx.out ?_)
            | (at_builtin; refine app_oneV elt_op opF_len O2.own ⟨0, .slice none 0 0, 0, 0, ⟨#[]⟩, .slice none 0 0, [], []⟩ one_op hb1 hb2 hz2 (by rfl) rfl _ _ (by rfl) (by rfl) (by rfl) ?_; intro v3 w3 o3 g3 l3))
          have O3 := O2.snoc (o := ⟨0, .slice none 0 0, 0, 0, ⟨#[]⟩, .slice none 0 0, [], []⟩) (n := bx) d2.1 ⟨d2.2.1.wide (by omega) (Nat.le_refl _), d2.2.2.wide (by omega) (Nat.le_refl _)⟩ hzb HOlt.out o3 g3 l3
          have hlo : ∀ k, (Value.slice oa L.length oc).ownBlock = some k → g + 1 ≤ k := fun k hk => (HO.out.own.lt k hk).1
          have R3 := (D2).out.rdr.kept g3 (fun e => by have := hlo _ e; omega) (fun k e => by have := hlo _ e; omega)
          have G3 : w.grownBy w3 none := by
            have h5 := grownBy_new HGr.out (D2).out.G (by rw [HG.out]; exact Nat.le_refl _)
            cases hv : (Value.slice oa L.length oc).ownBlock with
            | none => rw [hv] at g3; exact grownBy_trans h5 g3
            | some k => rw [hv] at g3; exact grownBy_new h5 g3 (by have := hlo k hv; have := HG.out; omega)
          have z3 := g3.size
          have H3 := Lib.hid (And.intro O3 (And.intro R3 G3))
          clear O3 R3 G3 o3 g3 l3 O2 d2 HBx
          go_wp2_with fail
          exact ⟨⟨j + 1, _, m - 1, by omega, rfl, by have := Hm.out; omega, H3.out.1, by rw [← HS.out, List.map_append, List.map_append, HL.out, HFk.out]; try rfl, by rw [← HS.out, HFk.out]; exact H3.out.2.1, H3.out.2.2, by omega⟩, by simp [intOf]; omega⟩
        · obtain rfl : κ = 1 := Hκ.out.symm
          obtain ⟨tx, l3, e3, X1⟩ : ∃ tx l3 e3, textD 4096 l2 0 = (tx, l3, e3) := ⟨_, _, _, rfl⟩
          have HFk := Lib.hid (show opD L0 0 = (⟨1, .slice none 0 0, 0, 0, ⟨#[]⟩, .slice none 0 0, tx, []⟩, l3, e3) by rw [HD3.out, opK1, X1]; rfl)
          have Ct := Lib.hid fun w' (h : Rdr g w' g l2 0) => X1 ▸ rtextG_c g g 4096 l2 0 w' h (by omega)
          have htl : tx.length ≤ 4096 := by have := textD_len (most := 4096) (l := l2) (e := 0); rw [X1] at this; exact this
          have hsz : (⟨tx.toArray⟩ : ByteArray).size ≤ 9223372036854775807 := by simp [ByteArray.size]; omega
          clear X1 HD3
          cases tx with
          | nil =>
            go_upto_region 27 with (go_at_call 52; refine (Ct.out _ D1.out.rdr).mono ?_; rintro en wx ⟨rfl, Rx, gx⟩)
            have D2 := Lib.hid (D1.out.call Rx gx)
            clear bc bf bxc D1 Rx gx
            have HBx := Lib.hid (D2).out.box
            have O2 := HO.out.kept (D2).out.G (fun k e => by cases e; omega)
            have hz2 : g + 1 ≤ (wx).heap.size := Nat.le_trans hz (D2).out.G.size
            have d2 := (D2).out.rd
            have hlo2 := (D2).out.hw
            go_upto_region 5 with (first
              | (refine load_op rfl _ rfl _ rfl HBx.out ?_)
              | (at_builtin; refine app_oneV elt_op opF_len O2.own ⟨1, .slice none 0 0, 0, 0, ⟨#[]⟩, .slice none 0 0, [], []⟩ one_op hb1 hb2 hz2 (by rfl) rfl _ _ (by rfl) (by rfl) (by rfl) ?_; intro v3 w3 o3 g3 l3))
            have O3 := O2.snoc (o := ⟨1, .slice none 0 0, 0, 0, ⟨#[]⟩, .slice none 0 0, [], []⟩) (n := bx) d2.1 ⟨d2.2.1.wide (by omega) (Nat.le_refl _), d2.2.2.wide (by omega) (Nat.le_refl _)⟩ hzb HOlt.out o3 g3 l3
            have hlo : ∀ k, (Value.slice oa L.length oc).ownBlock = some k → g + 1 ≤ k := fun k hk => (HO.out.own.lt k hk).1
            have R3 := (D2).out.rdr.kept g3 (fun e => by have := hlo _ e; omega) (fun k e => by have := hlo _ e; omega)
            have G3 : w.grownBy w3 none := by
              have h5 := grownBy_new HGr.out (D2).out.G (by rw [HG.out]; exact Nat.le_refl _)
              cases hv : (Value.slice oa L.length oc).ownBlock with
              | none => rw [hv] at g3; exact grownBy_trans h5 g3
              | some k => rw [hv] at g3; exact grownBy_new h5 g3 (by have := hlo k hv; have := HG.out; omega)
            have z3 := g3.size
            have H3 := Lib.hid (And.intro O3 (And.intro R3 G3))
            clear O3 R3 G3 o3 g3 l3 O2 d2 HBx
            go_wp2_with fail
            exact ⟨⟨j + 1, _, m - 1, by omega, rfl, by have := Hm.out; omega, H3.out.1, by rw [← HS.out, List.map_append, List.map_append, HL.out, HFk.out]; try rfl, by rw [← HS.out, HFk.out]; exact H3.out.2.1, H3.out.2.2, by omega⟩, by simp [intOf]; omega⟩
          | cons b0 tx =>
            have hne : (b0 :: tx).isEmpty = false := rfl
            generalize b0 :: tx = tx at *
            go_upto_region 27 with (first
              | (go_at_call 52; refine (Ct.out _ D1.out.rdr).mono ?_; rintro en wx ⟨rfl, Rx, gx⟩; have Dx := D1.out.call Rx gx)
              | (refine conv_arm hsz rfl _ rfl rfl ?_; intro cc wy ry hc gy zy; have Dy := Dx.same gy; have yc := Dy.box.cell; have yf := Dy.box.free))
            have hxl := Dx.box.lt
            have D2 := Lib.hid (Dy.set ⟨1, .slice (some ⟨wx.heap.size, 0, none⟩) tx.length cc, 0, 0, ⟨#[]⟩, .slice none 0 0, tx, []⟩ 1 (.slice (some ⟨wx.heap.size, 0, none⟩) tx.length cc) rfl ry (fun a n c e => by cases e; show bx + 1 ≤ wx.heap.size ∧ wx.heap.size < wy.heap.size; omega) (fun a n c e => by cases e; exact hc) Dy.op (fun k hk => by simp [Value.ownBlock] at hk))
            clear bc bf bxc D1 Ct Rx gx Dx ry hc gy zy Dy yc yf
            generalize wy.setCell ⟨bx, 1, none⟩ (.slice (some ⟨wx.heap.size, 0, none⟩) tx.length cc) = w1 at *
            have HBx := Lib.hid (D2).out.box
            have O2 := HO.out.kept (D2).out.G (fun k e => by cases e; omega)
            have hz2 : g + 1 ≤ (w1).heap.size := Nat.le_trans hz (D2).out.G.size
            have d2 := (D2).out.rd
            have hlo2 := (D2).out.hw
            go_upto_region 5 with (first
              | (refine load_op rfl _ rfl _ rfl HBx.out ?_)
              | (at_builtin; refine app_oneV elt_op opF_len O2.own ⟨1, .slice (some ⟨wx.heap.size, 0, none⟩) tx.length cc, 0, 0, ⟨#[]⟩, .slice none 0 0, tx, []⟩ one_op hb1 hb2 hz2 (by rfl) rfl _ _ (by rfl) (by rfl) (by rfl) ?_; intro v3 w3 o3 g3 l3))
            have O3 := O2.snoc (o := ⟨1, .slice (some ⟨wx.heap.size, 0, none⟩) tx.length cc, 0, 0, ⟨#[]⟩, .slice none 0 0, tx, []⟩) (n := bx) d2.1 ⟨d2.2.1.wide (by omega) (Nat.le_refl _), d2.2.2.wide (by omega) (Nat.le_refl _)⟩ hzb HOlt.out o3 g3 l3
            have hlo : ∀ k, (Value.slice oa L.length oc).ownBlock = some k → g + 1 ≤ k := fun k hk => (HO.out.own.lt k hk).1
            have R3 := (D2).out.rdr.kept g3 (fun e => by have := hlo _ e; omega) (fun k e => by have := hlo _ e; omega)
            have G3 : w.grownBy w3 none := by
              have h5 := grownBy_new HGr.out (D2).out.G (by rw [HG.out]; exact Nat.le_refl _)
              cases hv : (Value.slice oa L.length oc).ownBlock with
              | none => rw [hv] at g3; exact grownBy_trans h5 g3
              | some k => rw [hv] at g3; exact grownBy_new h5 g3 (by have := hlo k hv; have := HG.out; omega)
            have z3 := g3.size
            have H3 := Lib.hid (And.intro O3 (And.intro R3 G3))
            clear O3 R3 G3 o3 g3 l3 O2 d2 HBx
            go_wp2_with fail
            exact ⟨⟨j + 1, _, m - 1, by omega, rfl, by have := Hm.out; omega, H3.out.1, by rw [← HS.out, List.map_append, List.map_append, HL.out, HFk.out]; try rfl, by rw [← HS.out, HFk.out]; exact H3.out.2.1, H3.out.2.2, by omega⟩, by simp [intOf]; omega⟩
        · obtain rfl : κ = 2 := Hκ.out.symm
          obtain ⟨t, l3, e3, X1⟩ : ∃ t l3 e3, numF 1099511627776 1 l2 0 = (t, l3, e3) := ⟨_, _, _, rfl⟩
          obtain ⟨n2, l4, e4, X2⟩ : ∃ n2 l4 e4, numF 8 4 l3 e3 = (n2, l4, e4) := ⟨_, _, _, rfl⟩
          have HFk := Lib.hid (show opD L0 0 = (⟨2, .slice none 0 0, t, 0, ⟨#[]⟩, .slice none 0 0, [], (picksD n2 l4 e4).1⟩, (picksD n2 l4 e4).2) by rw [HD3.out, opK2]; simp only [timeF, X1, X2]; rfl)
          have Ct := Lib.hid fun w' (h : Rdr g w' g l2 0) => X1 ▸ rupto_c g g 1099511627776 1 l2 0 w' h (by omega) (by omega)
          have Cn := Lib.hid fun w' (h : Rdr g w' g l3 e3) => X2 ▸ rupto_c g g 8 4 l3 e3 w' h (by omega) (by omega)
          have hn8 : n2 ≤ 8 := by have := (numF_w (most := 8) (over := 4) (l := l3) (e := e3)).2; rw [X2] at this; exact this
          clear X1 X2 HD3
          go_upto_region 17 with (go_at_call 51; refine ((Ct).out _ (D1).out.rdr).mono ?_; rintro en wx ⟨rfl, Rx, gx⟩; have Dx := (D1).out.call Rx gx; have ac := Dx.box.cell; have af := Dx.box.free)
          have D2 := Lib.hid (Dx.set ⟨2, .slice none 0 0, t, 0, ⟨#[]⟩, .slice none 0 0, [], []⟩ 2 (.int .i64 t) rfl Dx.od Dx.oi Dx.oc Dx.op Dx.ap)
          clear Dx Rx gx ac af Ct D1
          generalize wx.setCell ⟨bx, 2, none⟩ (.int .i64 t) = w1 at *
          clear wx
          clear bxc bc bf
          go_upto_region 18 with (go_at_call 51; refine (Cn.out _ D2.out.rdr).mono ?_; rintro en wy ⟨rfl, Ry, gy⟩)
          have D3 := Lib.hid (D2.out.call Ry gy)
          clear Ry gy D2 Cn
          go_loopw [9] (fun s9 wk => ∃ (i : Nat) (vp : Value) (r : Int), i ≤ n2 ∧ s9 = .int .i64 r ∧ r = (n2 : Int) - (i : Int) ∧ OpS g g bx [] wr ⟨2, .slice none 0 0, t, 0, ⟨#[]⟩, vp, [], (picksD i l4 e4).1⟩ (picksD i l4 e4).2.1 (picksD i l4 e4).2.2 wk) (fun s9 _ => (intOf s9).toNat)
          case atStart => exact ⟨0, _, n2, by omega, rfl, by omega, D3.out⟩
          case round =>
            clear D3
            obtain ⟨i, vp, r, hi, rfl, hr, hD⟩ := hrel
            have HDk := Lib.hid hD
            have hr1 : r ≤ 8 := by omega
            have hr2 : 0 ≤ r := by omega
            have Hr := Lib.hid hr
            clear hD
            by_cases hlt2 : i < n2
            · have hr3 : 0 < r := by omega
              have hlen := picks_len i l4 e4
              have HS2 := Lib.hid (show ((picksD i l4 e4).1 ++ [((numF 1099511627776 1 (picksD i l4 e4).2.1 (picksD i l4 e4).2.2).1 : Int)], (numF 1099511627776 1 (picksD i l4 e4).2.1 (picksD i l4 e4).2.2).2) = picksD (i + 1) l4 e4 from rfl)
              generalize picksD i l4 e4 = LD at *
              obtain ⟨y, ly, ey, hXk⟩ : ∃ y r e, numF 1099511627776 1 LD.2.1 LD.2.2 = (y, r, e) := ⟨_, _, _, rfl⟩
              have Ck := Lib.hid fun w' (h : Rdr g w' g LD.2.1 LD.2.2) => hXk ▸ rupto_c g g 1099511627776 1 _ _ w' h (by omega) (by omega)
              rw [hXk] at HS2
              clear hXk hr
              have Dd := HDk.out.same (w' := World.drew _) (by exact grownBy_drew (grownBy_refl _ _))
              have ac := Dd.box.cell
              have HDd := Lib.hid Dd
              have hb3 : (LD.1.length + 1) * 8 ≤ 140737488355328 := by omega
              have hb4 : LD.1.length + 1 ≤ 9223372036854775807 := by omega
              have Hcs := Lib.hid (show (#[Value.int .i64 (y : Int)] : Array Value).toList = intF y from rfl)
              have tok := Lib.hid hr3
              have Hlen := Lib.hid hlen
              clear Dd HDk hlen
              go_wp2_with fail
              go_region_law (first
                | (have _t := tok; refine step_app_one elt_intI one_intI intF_len Dx.op (y : Int) hb3 hb4 hbase Hcs.out (by rfl) _ _ (by rfl) (by rfl) (by rfl) ?_; intro v3 w3 o3 g3 l3'; clear tok; obtain ⟨a3, c3, rfl⟩ := o3.shape; obtain ⟨b3, D3⟩ := Dx.app o3 g3 l3'; have ac3 := b3.cell; have af3 := b3.free)
                | (go_simp; go_at_call 51; refine (Ck.out _ HDd.out.rdr).mono ?_; rintro en wx ⟨rfl, Rx, gx⟩; have Dx := HDd.out.call Rx gx; have axc := Dx.box.cell; have axd := (Dx.same (World.grownBy_alloc wx (.cells #[.int .i64 (y : Int)] 3) none)).box.cell; have hbase : bx + 1 ≤ wx.heap.size := Dx.box.lt))
              all_goals
                have HD3 := Lib.hid D3
                clear D3 ac3 af3 b3 l3' o3 g3 axc axd Rx gx Dx ac HDd Ck
                go_wp2_with fail
                have D4 := HD3.out
                simp only [List.length_append, List.length_singleton] at D4
                exact ⟨⟨i + 1, _, r - 1, by omega, rfl, by have := Hr.out; omega, by rw [← HS2.out]; exact D4⟩, by simp [intOf]; omega⟩
            · obtain rfl : i = n2 := by omega
              have hr3 : r = 0 := by omega
              subst hr3
              clear hlt2 hi hr
              generalize picksD i l4 e4 = LD at *
              have hsh := HDk.out.op.shape
              dsimp only at hsh
              obtain ⟨pa, pc, rfl⟩ := hsh
              go_upto_region 27 with fail
              have HBx := Lib.hid (HDk).out.box
              have O2 := HO.out.kept (HDk).out.G (fun k e => by cases e; omega)
              have hz2 : g + 1 ≤ (wr).heap.size := Nat.le_trans hz (HDk).out.G.size
              have d2 := (HDk).out.rd
              have hlo2 := (HDk).out.hw
              go_upto_region 5 with (first
                | (refine load_op rfl _ rfl _ rfl HBx.out ?_)
                | (at_builtin; refine app_oneV elt_op opF_len O2.own ⟨2, .slice none 0 0, t, 0, ⟨#[]⟩, .slice pa LD.1.length pc, [], LD.1⟩ one_op hb1 hb2 hz2 (by rfl) rfl _ _ (by rfl) (by rfl) (by rfl) ?_; intro v3 w3 o3 g3 l3))
              have O3 := O2.snoc (o := ⟨2, .slice none 0 0, t, 0, ⟨#[]⟩, .slice pa LD.1.length pc, [], LD.1⟩) (n := bx) d2.1 ⟨d2.2.1.wide (by omega) (Nat.le_refl _), d2.2.2.wide (by omega) (Nat.le_refl _)⟩ hzb HOlt.out o3 g3 l3
              have hlo : ∀ k, (Value.slice oa L.length oc).ownBlock = some k → g + 1 ≤ k := fun k hk => (HO.out.own.lt k hk).1
              have R3 := (HDk).out.rdr.kept g3 (fun e => by have := hlo _ e; omega) (fun k e => by have := hlo _ e; omega)
              have G3 : w.grownBy w3 none := by
                have h5 := grownBy_new HGr.out (HDk).out.G (by rw [HG.out]; exact Nat.le_refl _)
                cases hv : (Value.slice oa L.length oc).ownBlock with
                | none => rw [hv] at g3; exact grownBy_trans h5 g3
                | some k => rw [hv] at g3; exact grownBy_new h5 g3 (by have := hlo k hv; have := HG.out; omega)
              have z3 := g3.size
              have H3 := Lib.hid (And.intro O3 (And.intro R3 G3))
              clear O3 R3 G3 o3 g3 l3 O2 d2 HBx
              go_wp2_with fail
              exact ⟨⟨j + 1, _, m - 1, by omega, rfl, by have := Hm.out; omega, H3.out.1, by rw [← HS.out, List.map_append, List.map_append, HL.out, HFk.out]; try rfl, by rw [← HS.out, HFk.out]; exact H3.out.2.1, H3.out.2.2, by omega⟩, by simp [intOf]; omega⟩
        · obtain rfl : κ = 3 := Hκ.out.symm
          obtain ⟨t, l3, e3, X1⟩ : ∃ t l3 e3, numF 1099511627776 1 l2 0 = (t, l3, e3) := ⟨_, _, _, rfl⟩
          have HFk := Lib.hid (show opD L0 0 = (⟨3, .slice none 0 0, 0, t, ⟨#[]⟩, .slice none 0 0, [], []⟩, l3, e3) by rw [HD3.out, opK3]; simp only [timeF, X1]; rfl)
          have Ct := Lib.hid fun w' (h : Rdr g w' g l2 0) => X1 ▸ rupto_c g g 1099511627776 1 l2 0 w' h (by omega) (by omega)
          clear X1 HD3
          go_upto_region 27 with (go_at_call 51; refine ((Ct).out _ (D1).out.rdr).mono ?_; rintro en wx ⟨rfl, Rx, gx⟩; have Dx := (D1).out.call Rx gx; have ac := Dx.box.cell; have af := Dx.box.free)
          have D2 := Lib.hid (Dx.set ⟨3, .slice none 0 0, 0, t, ⟨#[]⟩, .slice none 0 0, [], []⟩ 3 (.int .i64 t) rfl Dx.od Dx.oi Dx.oc Dx.op Dx.ap)
          clear Dx Rx gx ac af Ct D1
          generalize wx.setCell ⟨bx, 3, none⟩ (.int .i64 t) = w1 at *
          clear wx
          clear bxc bc bf
          have HBx := Lib.hid (D2).out.box
          have O2 := HO.out.kept (D2).out.G (fun k e => by cases e; omega)
          have hz2 : g + 1 ≤ (w1).heap.size := Nat.le_trans hz (D2).out.G.size
          have d2 := (D2).out.rd
          have hlo2 := (D2).out.hw
          go_upto_region 5 with (first
            | (refine load_op rfl _ rfl _ rfl HBx.out ?_)
            | (at_builtin; refine app_oneV elt_op opF_len O2.own ⟨3, .slice none 0 0, 0, t, ⟨#[]⟩, .slice none 0 0, [], []⟩ one_op hb1 hb2 hz2 (by rfl) rfl _ _ (by rfl) (by rfl) (by rfl) ?_; intro v3 w3 o3 g3 l3))
          have O3 := O2.snoc (o := ⟨3, .slice none 0 0, 0, t, ⟨#[]⟩, .slice none 0 0, [], []⟩) (n := bx) d2.1 ⟨d2.2.1.wide (by omega) (Nat.le_refl _), d2.2.2.wide (by omega) (Nat.le_refl _)⟩ hzb HOlt.out o3 g3 l3
          have hlo : ∀ k, (Value.slice oa L.length oc).ownBlock = some k → g + 1 ≤ k := fun k hk => (HO.out.own.lt k hk).1
          have R3 := (D2).out.rdr.kept g3 (fun e => by have := hlo _ e; omega) (fun k e => by have := hlo _ e; omega)
          have G3 : w.grownBy w3 none := by
            have h5 := grownBy_new HGr.out (D2).out.G (by rw [HG.out]; exact Nat.le_refl _)
            cases hv : (Value.slice oa L.length oc).ownBlock with
            | none => rw [hv] at g3; exact grownBy_trans h5 g3
            | some k => rw [hv] at g3; exact grownBy_new h5 g3 (by have := hlo k hv; have := HG.out; omega)
          have z3 := g3.size
          have H3 := Lib.hid (And.intro O3 (And.intro R3 G3))
          clear O3 R3 G3 o3 g3 l3 O2 d2 HBx
          go_wp2_with fail
          exact ⟨⟨j + 1, _, m - 1, by omega, rfl, by have := Hm.out; omega, H3.out.1, by rw [← HS.out, List.map_append, List.map_append, HL.out, HFk.out]; try rfl, by rw [← HS.out, HFk.out]; exact H3.out.2.1, H3.out.2.2, by omega⟩, by simp [intOf]; omega⟩
        · obtain rfl : κ = 4 := Hκ.out.symm
          have HFk := Lib.hid (show opD L0 0 = (⟨4, .slice none 0 0, 0, 0, ⟨#[]⟩, .slice none 0 0, [], []⟩, l2, 0) by rw [HD3.out, opK4]; rfl)
          go_upto_region 27 with fail
          clear HD3 bc bf bxc
          have HBx := Lib.hid (D1).out.box
          have O2 := HO.out.kept (D1).out.G (fun k e => by cases e; omega)
          have hz2 : g + 1 ≤ (wd).heap.size := Nat.le_trans hz (D1).out.G.size
          have d2 := (D1).out.rd
          have hlo2 := (D1).out.hw
          go_upto_region 5 with (first
            | (refine load_op rfl _ rfl _ rfl HBx.out ?_)
            | (at_builtin; refine app_oneV elt_op opF_len O2.own ⟨4, .slice none 0 0, 0, 0, ⟨#[]⟩, .slice none 0 0, [], []⟩ one_op hb1 hb2 hz2 (by rfl) rfl _ _ (by rfl) (by rfl) (by rfl) ?_; intro v3 w3 o3 g3 l3))
          have O3 := O2.snoc (o := ⟨4, .slice none 0 0, 0, 0, ⟨#[]⟩, .slice none 0 0, [], []⟩) (n := bx) d2.1 ⟨d2.2.1.wide (by omega) (Nat.le_refl _), d2.2.2.wide (by omega) (Nat.le_refl _)⟩ hzb HOlt.out o3 g3 l3
          have hlo : ∀ k, (Value.slice oa L.length oc).ownBlock = some k → g + 1 ≤ k := fun k hk => (HO.out.own.lt k hk).1
          have R3 := (D1).out.rdr.kept g3 (fun e => by have := hlo _ e; omega) (fun k e => by have := hlo _ e; omega)
          have G3 : w.grownBy w3 none := by
            have h5 := grownBy_new HGr.out (D1).out.G (by rw [HG.out]; exact Nat.le_refl _)
            cases hv : (Value.slice oa L.length oc).ownBlock with
            | none => rw [hv] at g3; exact grownBy_trans h5 g3
            | some k => rw [hv] at g3; exact grownBy_new h5 g3 (by have := hlo k hv; have := HG.out; omega)
          have z3 := g3.size
          have H3 := Lib.hid (And.intro O3 (And.intro R3 G3))
          clear O3 R3 G3 o3 g3 l3 O2 d2 HBx
          go_wp2_with fail
          exact ⟨⟨j + 1, _, m - 1, by omega, rfl, by have := Hm.out; omega, H3.out.1, by rw [← HS.out, List.map_append, List.map_append, HL.out, HFk.out]; try rfl, by rw [← HS.out, HFk.out]; exact H3.out.2.1, H3.out.2.2, by omega⟩, by simp [intOf]; omega⟩
        · obtain rfl : κ = 5 := Hκ.out.symm
          obtain ⟨tx, l3, e3, X1⟩ : ∃ tx l3 e3, textD 255 l2 0 = (tx, l3, e3) := ⟨_, _, _, rfl⟩
          obtain ⟨t, l4, e4, X2⟩ : ∃ t l4 e4, numF 1099511627776 1 l3 e3 = (t, l4, e4) := ⟨_, _, _, rfl⟩
          have HFk := Lib.hid (show opD L0 0 = (⟨5, .slice none 0 0, t, 0, ⟨tx.toArray⟩, .slice none 0 0, [], []⟩, l4, e4) by rw [HD3.out, opK5]; simp only [timeF, X1, X2]; rfl)
          have Ct := Lib.hid fun w' (h : Rdr g w' g l2 0) => X1 ▸ rtextG_c g g 255 l2 0 w' h (by omega)
          have Cn := Lib.hid fun w' (h : Rdr g w' g l3 e3) => X2 ▸ rupto_c g g 1099511627776 1 l3 e3 w' h (by omega) (by omega)
          clear X1 X2 HD3
          go_upto_region 26 with (go_at_call 52; refine ((Ct).out _ (D1).out.rdr).mono ?_; rintro en wx ⟨rfl, Rx, gx⟩; have Dx := (D1).out.call Rx gx; have ac := Dx.box.cell; have af := Dx.box.free)
          have D2 := Lib.hid (Dx.set ⟨5, .slice none 0 0, 0, 0, ⟨tx.toArray⟩, .slice none 0 0, [], []⟩ 4 (.string ⟨tx.toArray⟩) rfl Dx.od Dx.oi Dx.oc Dx.op Dx.ap)
          clear Dx Rx gx ac af Ct D1
          generalize wx.setCell ⟨bx, 4, none⟩ (.string ⟨tx.toArray⟩) = w1 at *
          clear wx
          go_upto_region 27 with (go_at_call 51; refine ((Cn).out _ (D2).out.rdr).mono ?_; rintro en wx ⟨rfl, Rx, gx⟩; have Dx := (D2).out.call Rx gx; have ac := Dx.box.cell; have af := Dx.box.free)
          have D3 := Lib.hid (Dx.set ⟨5, .slice none 0 0, t, 0, ⟨tx.toArray⟩, .slice none 0 0, [], []⟩ 2 (.int .i64 t) rfl Dx.od Dx.oi Dx.oc Dx.op Dx.ap)
          clear Dx Rx gx ac af Cn D2
          generalize wx.setCell ⟨bx, 2, none⟩ (.int .i64 t) = w2 at *
          clear wx
          clear bxc bc bf
          have HBx := Lib.hid (D3).out.box
          have O2 := HO.out.kept (D3).out.G (fun k e => by cases e; omega)
          have hz2 : g + 1 ≤ (w2).heap.size := Nat.le_trans hz (D3).out.G.size
          have d2 := (D3).out.rd
          have hlo2 := (D3).out.hw
          go_upto_region 5 with (first
            | (refine load_op rfl _ rfl _ rfl HBx.out ?_)
            | (at_builtin; refine app_oneV elt_op opF_len O2.own ⟨5, .slice none 0 0, t, 0, ⟨tx.toArray⟩, .slice none 0 0, [], []⟩ one_op hb1 hb2 hz2 (by rfl) rfl _ _ (by rfl) (by rfl) (by rfl) ?_; intro v3 w3 o3 g3 l3))
          have O3 := O2.snoc (o := ⟨5, .slice none 0 0, t, 0, ⟨tx.toArray⟩, .slice none 0 0, [], []⟩) (n := bx) d2.1 ⟨d2.2.1.wide (by omega) (Nat.le_refl _), d2.2.2.wide (by omega) (Nat.le_refl _)⟩ hzb HOlt.out o3 g3 l3
          have hlo : ∀ k, (Value.slice oa L.length oc).ownBlock = some k → g + 1 ≤ k := fun k hk => (HO.out.own.lt k hk).1
          have R3 := (D3).out.rdr.kept g3 (fun e => by have := hlo _ e; omega) (fun k e => by have := hlo _ e; omega)
          have G3 : w.grownBy w3 none := by
            have h5 := grownBy_new HGr.out (D3).out.G (by rw [HG.out]; exact Nat.le_refl _)
            cases hv : (Value.slice oa L.length oc).ownBlock with
            | none => rw [hv] at g3; exact grownBy_trans h5 g3
            | some k => rw [hv] at g3; exact grownBy_new h5 g3 (by have := hlo k hv; have := HG.out; omega)
          have z3 := g3.size
          have H3 := Lib.hid (And.intro O3 (And.intro R3 G3))
          clear O3 R3 G3 o3 g3 l3 O2 d2 HBx
          go_wp2_with fail
          exact ⟨⟨j + 1, _, m - 1, by omega, rfl, by have := Hm.out; omega, H3.out.1, by rw [← HS.out, List.map_append, List.map_append, HL.out, HFk.out]; try rfl, by rw [← HS.out, HFk.out]; exact H3.out.2.1, H3.out.2.2, by omega⟩, by simp [intOf]; omega⟩
      · have he2 : (e2 != 0) = true := by simpa using he
        have he3 : (e2 == 0) = false := by simpa using he
        obtain rfl := HZ.out he
        obtain rfl : κ = 0 := Hκ.out.symm
        have HFk := Lib.hid (HD2.out.trans (if_pos he))
        clear HD2 HZ he
        go_upto_region 27 with fail
        clear bc bf bxc
        have HBx := Lib.hid (D1).out.box
        have O2 := HO.out.kept (D1).out.G (fun k e => by cases e; omega)
        have hz2 : g + 1 ≤ (wd).heap.size := Nat.le_trans hz (D1).out.G.size
        have d2 := (D1).out.rd
        have hlo2 := (D1).out.hw
        go_upto_region 5 with (first
          | (refine load_op rfl _ rfl _ rfl HBx.out ?_)
          | (at_builtin; refine app_oneV elt_op opF_len O2.own ⟨0, .slice none 0 0, 0, 0, ⟨#[]⟩, .slice none 0 0, [], []⟩ one_op hb1 hb2 hz2 (by rfl) rfl _ _ (by rfl) (by rfl) (by rfl) ?_; intro v3 w3 o3 g3 l3))
        have O3 := O2.snoc (o := ⟨0, .slice none 0 0, 0, 0, ⟨#[]⟩, .slice none 0 0, [], []⟩) (n := bx) d2.1 ⟨d2.2.1.wide (by omega) (Nat.le_refl _), d2.2.2.wide (by omega) (Nat.le_refl _)⟩ hzb HOlt.out o3 g3 l3
        have hlo : ∀ k, (Value.slice oa L.length oc).ownBlock = some k → g + 1 ≤ k := fun k hk => (HO.out.own.lt k hk).1
        have R3 := (D1).out.rdr.kept g3 (fun e => by have := hlo _ e; omega) (fun k e => by have := hlo _ e; omega)
        have G3 : w.grownBy w3 none := by
          have h5 := grownBy_new HGr.out (D1).out.G (by rw [HG.out]; exact Nat.le_refl _)
          cases hv : (Value.slice oa L.length oc).ownBlock with
          | none => rw [hv] at g3; exact grownBy_trans h5 g3
          | some k => rw [hv] at g3; exact grownBy_new h5 g3 (by have := hlo k hv; have := HG.out; omega)
        have z3 := g3.size
        have H3 := Lib.hid (And.intro O3 (And.intro R3 G3))
        clear O3 R3 G3 o3 g3 l3 O2 d2 HBx
        go_wp2_with fail
        exact ⟨⟨j + 1, _, m - 1, by omega, rfl, by have := Hm.out; omega, H3.out.1, by rw [← HS.out, List.map_append, List.map_append, HL.out, HFk.out]; try rfl, by rw [← HS.out, HFk.out]; exact H3.out.2.1, H3.out.2.2, by omega⟩, by simp [intOf]; omega⟩
    · have HFin := Lib.hid (show (opsD n l1 e1).2 = (opsD j l1 e1).2 ∧ (decOE l = 0 → L.map opC = (decO l).map opC) by
        rcases Nat.lt_or_ge j n with h1 | h1
        · have h2 : (opsD j l1 e1).2.2 ≠ 0 := fun h => hgo ⟨h1, h⟩
          have h3 := ops_stay h2 n hj
          refine ⟨h3, fun h => ?_⟩
          exfalso
          unfold decOE at h
          rw [HD.out, h3, if_pos h2] at h
          exact h2 h
        · obtain rfl : j = n := by omega
          exact ⟨rfl, fun h => by unfold decO; rw [if_pos h, HD.out]; exact hL⟩)
      have hE := Lib.hid (show decOE l = endE (opsD j l1 e1).2.1 (opsD j l1 e1).2.2 by unfold decOE endE; rw [HD.out, HFin.out.1])
      have hcond := Lib.hid hgo
      have HF := Lib.hid HFin.out.2
      clear hL hLl HFin HL hm hO hR hg
      generalize opsD j l1 e1 = OD at *
      obtain ⟨OL, LZ, ez⟩ := OD
      dsimp only at *
      have Ce := Lib.hid (rend_c g g LZ ez wr HR.out)
      obtain ⟨az, cz, hbz, -, -, -⟩ := HR.out.ex
      have bc := hbz.cell
      obtain ⟨EE, hEE⟩ : ∃ EE, endE LZ ez = EE := ⟨_, rfl⟩
      rw [hEE] at hE Ce
      clear hbz
      clear hEE
      by_cases hm3 : 0 < m
      · have hez : ez ≠ 0 := fun h => hcond.out ⟨by have := Hm.out; omega, h⟩
        have hez2 : (ez == 0) = false := by simpa using hez
        clear hez
        by_cases h0 : EE = 0
        · subst h0
          go_wp2_with (go_at_call 53; refine Ce.out.mono ?_; rintro en we ⟨rfl, Re, ge⟩)
          go_ret2
          exact ⟨_, L, by rw [hE.out]; rfl, (HO.out.kept ge (fun k e => by cases e; omega)).base (by have := HG.out; omega), HF.out hE.out, grownBy_new HGr.out ge (by rw [HG.out]; exact Nat.le_refl _)⟩
        · have h1 : (EE != 0) = true := by simpa using h0
          have h2 : (EE == 0) = false := by simpa using h0
          have H0 := Lib.hid h0
          clear h0
          go_wp2_with (go_at_call 53; refine Ce.out.mono ?_; rintro en we ⟨rfl, Re, ge⟩)
          go_ret2
          exact decOP_no hE.out H0.out (grownBy_new HGr.out ge (by rw [HG.out]; exact Nat.le_refl _))
      · obtain rfl : m = 0 := by omega
        clear hm3
        by_cases h0 : EE = 0
        · subst h0
          go_wp2_with (go_at_call 53; refine Ce.out.mono ?_; rintro en we ⟨rfl, Re, ge⟩)
          go_ret2
          exact ⟨_, L, by rw [hE.out]; rfl, (HO.out.kept ge (fun k e => by cases e; omega)).base (by have := HG.out; omega), HF.out hE.out, grownBy_new HGr.out ge (by rw [HG.out]; exact Nat.le_refl _)⟩
        · have h1 : (EE != 0) = true := by simpa using h0
          have h2 : (EE == 0) = false := by simpa using h0
          have H0 := Lib.hid h0
          clear h0
          go_wp2_with (go_at_call 53; refine Ce.out.mono ?_; rintro en we ⟨rfl, Re, ge⟩)
          go_ret2
          exact decOP_no hE.out H0.out (grownBy_new HGr.out ge (by rw [HG.out]; exact Nat.le_refl _))
end Go.Proofs.Ytniokdflljchgaa

/- The low bits of a number. -/
namespace Go.Proofs.Ytniokdflljchgaa
open Go.RowKit

theorem and_low (n : Int) (k : Nat) (hk : k ≤ 62) : bits .and .i64 n (2 ^ k - 1) = n % 2 ^ k := by
  have h2 : (BitVec.ofInt 64 (2 ^ k - 1)).toNat = 2 ^ k - 1 := by
    have hp : (2 : Nat) ^ k ≤ 2 ^ 62 := Nat.pow_le_pow_right (by omega) hk
    have h0 : 0 < (2 : Nat) ^ k := Nat.two_pow_pos k
    rw [BitVec.toNat_ofInt]
    have e : ((2 : Int) ^ k - 1) = ((2 ^ k - 1 : Nat) : Int) := by rw [Int.natCast_sub h0]; simp
    rw [e, show ((2 ^ 64 : Nat) : Int) = 18446744073709551616 by decide]
    omega
  have key : (BitVec.ofInt 64 n &&& BitVec.ofInt 64 (2 ^ k - 1)).toNat = (n % ((2 ^ 64 : Nat) : Int)).toNat % 2 ^ k := by
    rw [BitVec.toNat_and, BitVec.toNat_ofInt, h2, Nat.and_two_pow_sub_one_eq_mod]
  show IntKind.i64.wrap ((BitVec.ofInt 64 n &&& BitVec.ofInt 64 (2 ^ k - 1)).toNat : Nat) = n % 2 ^ k
  rw [key, IntKind.wrap_i64]
  have hp : (2 : Nat) ^ k ≤ 2 ^ 62 := Nat.pow_le_pow_right (by omega) hk
  have h0 : 0 < (2 : Nat) ^ k := Nat.two_pow_pos k
  have hdv : ((2 : Int) ^ k) ∣ ((2 ^ 64 : Nat) : Int) := by
    refine ⟨2 ^ (64 - k), ?_⟩
    rw [← Int.pow_add, show k + (64 - k) = 64 by omega]; rfl
  have hmm : n % ((2 ^ 64 : Nat) : Int) % 2 ^ k = n % 2 ^ k := Int.emod_emod_of_dvd n hdv
  have hn : 0 ≤ n % ((2 ^ 64 : Nat) : Int) := Int.emod_nonneg _ (by decide)
  have e2 : (((n % ((2 ^ 64 : Nat) : Int)).toNat % 2 ^ k : Nat) : Int) = n % 2 ^ k := by
    rw [Int.natCast_emod, Int.toNat_of_nonneg hn]
    rw [← hmm]; simp
  rw [e2]
  have b1 := Int.emod_nonneg n (show (2 : Int) ^ k ≠ 0 by have : (0 : Int) < 2 ^ k := Int.pow_pos (by omega); omega)
  have b2 := Int.emod_lt_of_pos n (show (0 : Int) < 2 ^ k from Int.pow_pos (by omega))
  have b3 : (2 : Int) ^ k ≤ 4611686018427387904 := by
    have : (((2 : Nat) ^ k : Nat) : Int) ≤ ((2 ^ 62 : Nat) : Int) := Int.ofNat_le.2 hp
    simpa using this
  omega

end Go.Proofs.Ytniokdflljchgaa

/- Worlds that have changed in some blocks (S) and have grown. -/
namespace Go.Proofs.Ytniokdflljchgaa
open Go.RowKit

structure GrownS (S : Nat → Prop) (w w' : World) : Prop where
  os : w'.os = w.os
  tape : w'.tape = w.tape
  output : w'.output = w.output
  size : w.heap.size ≤ w'.heap.size
  block : ∀ i, i < w.heap.size → ¬ S i → w'.heap[i]? = w.heap[i]?
theorem GrownS.refl (S : Nat → Prop) (w : World) : GrownS S w w := ⟨rfl, rfl, rfl, Nat.le_refl _, fun _ _ _ => rfl⟩
/-- The second step may touch what the first has made. -/
theorem GrownS.trans {S T : Nat → Prop} {a b c : World} (h : GrownS S a b) (k : GrownS T b c) (hT : ∀ i, T i → i < a.heap.size → S i) : GrownS S a c :=
  ⟨k.os.trans h.os, k.tape.trans h.tape, k.output.trans h.output, Nat.le_trans h.size k.size, fun i hi hn => (k.block i (Nat.lt_of_lt_of_le hi h.size) (fun ht => hn (hT i ht hi))).trans (h.block i hi hn)⟩
theorem GrownS.mono {S T : Nat → Prop} {a b : World} (h : GrownS S a b) (hT : ∀ i, S i → i < a.heap.size → T i) : GrownS T a b := ⟨h.os, h.tape, h.output, h.size, fun i hi hn => h.block i hi (fun hs => hn (hT i hs hi))⟩
theorem GrownS.of {S : Nat → Prop} {w w' : World} {r : Option Nat} (h : w.grownBy w' r) (hr : ∀ k, r = some k → S k) : GrownS S w w' :=
  ⟨h.os, h.tape, h.output, h.size, fun i hi hn => h.block i hi (fun e => hn (hr i e.symm))⟩
theorem GrownS.none_ {S : Nat → Prop} {w w' : World} (h : w.grownBy w' none) : GrownS S w w' := GrownS.of h (by simp)
theorem GrownS.base {S : Nat → Prop} {w0 w w' : World} (h : w0.grownBy w none) (k : GrownS S w w') (hS : ∀ i, S i → w0.heap.size ≤ i) : w0.grownBy w' none :=
  ⟨k.os.trans h.os, k.tape.trans h.tape, k.output.trans h.output, Nat.le_trans h.size k.size, fun i hi hn => (k.block i (Nat.lt_of_lt_of_le hi h.size) (fun hs => by have := hS i hs; omega)).trans (h.block i hi hn)⟩
theorem GrownS.back {S : Nat → Prop} {w w' : World} (k : GrownS S w w') (hS : ∀ i, i < w.heap.size → ¬ S i) : w.grownBy w' none := ⟨k.os, k.tape, k.output, k.size, fun i hi _ => k.block i hi (hS i hi)⟩
theorem Blk.keptS {S : Nat → Prop} {w w' : World} {g : Nat} {cs : Array Value} (h : Blk w g cs) (k : GrownS S w w') (hS : ¬ S g) : Blk w' g cs := by
  have hl := h.lt
  obtain ⟨t, h⟩ := h.blk
  exact ⟨t, (k.block g hl hS).trans h⟩
theorem Own.keptS {α : Type} {f : α → List Value} {s : Nat} {e : TypeId} {B : Nat} {w w' : World} {v : Value} {l : List α} {S : Nat → Prop} (h : Own f s e B w v l) (k : GrownS S w w') (hS : ∀ g, v.ownBlock = some g → ¬ S g) : Own f s e B w' v l := by
  refine ⟨h.1, ?_⟩
  rcases h.2 with h0 | ⟨g, cap, cur, rfl, h1, h2, h3⟩
  · exact .inl h0
  · exact .inr ⟨g, cap, cur, rfl, h1, (k.block g (Array.getElem?_eq_some_iff.1 h2).1 (hS g rfl)).trans h2, h3⟩
theorem Rd.keptS {w w' : World} {size : Nat} {v : Value} {n : Nat} {xs : List Value} {S : Nat → Prop} (h : Rd w size v n xs) (k : GrownS S w w') (hS : 0 < n → ∀ a n' c, v = .slice (some a) n' c → ¬ S a.block) : Rd w' size v n xs := by
  obtain ⟨h1, h0, h2⟩ := h
  refine ⟨h1, h0, ?_⟩
  rcases h2 with h2 | ⟨g, off, cap, hv, hlt, hc⟩
  · exact .inl h2
  · rcases Nat.eq_zero_or_pos n with hn | hn
    · exact .inl ⟨hn, some ⟨g, off, none⟩, cap, by rw [hv, hn]⟩
    · refine .inr ⟨g, off, cap, hv, Nat.lt_of_lt_of_le hlt k.size, fun j u hu => ?_⟩
      rw [World.cell?_of_block (a := ⟨g, off + j, none⟩) (k.block g hlt (hS hn _ _ _ hv))]
      exact hc j u hu
theorem RdL.keptS {α : Type} {f : α → List Value} {s : Nat} {w w' : World} {v : Value} {l : List α} {S : Nat → Prop} (h : RdL f s w v l) (k : GrownS S w w') (hS : 0 < l.length → ∀ a n' c, v = .slice (some a) n' c → ¬ S a.block) : RdL f s w' v l := Rd.keptS h k hS
theorem ownsMap_keptS {H : Type} {P : Program} {kt : TypeId} {R : Value → Option (DataW H × List MemPlace)} {w w' : World} {b n : Nat} {D : DataW H} {S : Nat → Prop} (h : w.ownsMap P kt R b n D) (k : GrownS S w w') (hS : ¬ S b) : w'.ownsMap P kt R b n D := by
  have hl := h.lt
  obtain ⟨es, clock, hb, h⟩ := h
  exact ⟨es, clock, (k.block b hl hS).trans hb, h⟩
end Go.Proofs.Ytniokdflljchgaa

/- append that keeps what lies there: a class of worlds for regions that make a slice anew by several appends. -/
namespace Go.Proofs.Ytniokdflljchgaa
open Go.RowKit

/-- In place, or in a new block. -/
theorem run_app2 {w : World} {st e ty : TypeId} {z : Value} {size bytes : Nat} (E : Elt st e z size bytes) {base : Nat} {v : Value} {n : Nat} {xs : List Value} (hown : w.ownsRow base e size v n xs)
    {A : Option Addr} {m c : Nat} {news : List Value} (hr : Rd w size (.slice A m c) m news) (h1 : ∀ u ∈ news, u.oneCell' = true) (h63 : n + m ≤ maxLen) (hb : (n + m) * bytes ≤ 140737488355328) (hbase : base ≤ w.heap.size) :
    ∃ v' w', (Builtin.append_ #[st, st] ty #[v, .slice A m c]).run Try.prog w = .ok v' w' ∧ w'.ownsRow base e size v' (n + m) (xs ++ news) ∧ w.grownBy w' v.ownBlock ∧
      ((∃ g cap cur, v = .slice (some ⟨g, 0, none⟩) n cap ∧ v' = .slice (some ⟨g, 0, none⟩) (n + m) cap ∧ w.heap[g]? = some (.cells cur e (0, 0)) ∧ w'.heap[g]? = some (.cells (cur.toList.take (n * size) ++ news ++ cur.toList.drop (n * size + news.length)).toArray e (0, 0))) ∨ w.grownBy w' none) := by
  obtain ⟨i, hi, hz0, hz1, hz2⟩ := info_parts E.info
  obtain ⟨v', w', hrun, h2, h3, h4⟩ := run_app (ty := ty) E hown hr h1 h63 hb hbase
  refine ⟨v', w', hrun, h2, h3, ?_⟩
  have key : ∀ ad : Addr, (∀ j u, news[j]? = some u → w.cell? (ad.add j) = some u) → A = some ad → (∃ g cap cur, v = .slice (some ⟨g, 0, none⟩) n cap ∧ v' = .slice (some ⟨g, 0, none⟩) (n + m) cap ∧ w.heap[g]? = some (.cells cur e (0, 0)) ∧ w'.heap[g]? = some (.cells (cur.toList.take (n * size) ++ news ++ cur.toList.drop (n * size + news.length)).toArray e (0, 0))) ∨ w.grownBy w' none := by
    intro ad hc e
    subst e
    have hl := hr.1
    rcases hown.2 with ⟨rfl, rfl⟩ | ⟨g, cap, cur, rfl, hbg, hg, hnc, hcm, hcs, htake⟩
    · exact .inr h3
    · by_cases hroom : n + m ≤ cap
      · have hfit : n * i.size + news.length ≤ cur.size := by rw [hz1, hl, hcs, ← Nat.add_mul]; exact Nat.mul_le_mul_right _ hroom
        have hr2 := run_append_room (P := Try.prog) w st ty e i E.ht hi g n cap cur hg ad m c news (by rw [hz1]; exact hl) hc h1 hroom hfit
        rw [hr2] at hrun
        cases hrun
        rw [hz1]
        exact .inl ⟨g, cap, cur, rfl, rfl, hg, setRow_heap w g cur _ e _ hg⟩
      · have holds : ∀ j u, xs[j]? = some u → w.cell? ((⟨g, 0, none⟩ : Addr).add j) = some u := hown.cells (g := g) rfl
        have hr2 := run_append_grow (P := Try.prog) w st ty e i z E.ht hi hz0 ⟨g, 0, none⟩ n cap xs (by rw [hz1]; exact hown.1) holds ad m c news (by rw [hz1]; exact hl) hc (by omega) (by unfold maxLen at h63; omega) (growslice_fits (by omega) (by rw [hz2]; exact hb))
        rw [hr2] at hrun
        cases hrun
        exact .inr (grownBy_new_block (grownBy_drew (grownBy_refl _ _)) _)
  rcases hr.2.2 with ⟨rfl, a, cap, hv⟩ | ⟨g, off, cap, hv, _, hc⟩
  · have hn : news = [] := List.eq_nil_of_length_eq_zero (by simpa using hr.1)
    subst hn
    cases A with
    | none =>
      have hr2 := run_app_nil (ty := ty) E hown c
      rw [hr2] at hrun
      cases hrun
      exact .inr (grownBy_refl _ _)
    | some ad => exact key ad (by simp) rfl
  · cases hv
    refine key _ (fun j u hu => ?_) rfl
    have e : (⟨g, off, none⟩ : Addr).add j = ⟨g, off + j, none⟩ := by unfold Addr.add; split <;> simp_all
    rw [e]; exact hc j u hu

section
variable {α : Type} {f : α → List Value} {st e : TypeId} {z : Value} {size bytes : Nat}
/-- Blocks below N stand; so do the rows from N on that hold what P allows. -/
structure Keep (f : α → List Value) (size : Nat) (e : TypeId) (N : Nat) (P : List α → Prop) (w w' : World) : Prop where
  grown : GrownS (fun i => N ≤ i) w w'
  own : ∀ T v, P T → Own f size e N w v T → Own f size e N w' v T
variable {N : Nat} {P : List α → Prop} {w w' w'' : World}
theorem Keep.refl (f : α → List Value) (size : Nat) (e : TypeId) (N : Nat) (P : List α → Prop) (w : World) : Keep f size e N P w w := ⟨GrownS.refl _ _, fun _ _ _ h => h⟩
theorem Keep.trans (h : Keep f size e N P w w') (k : Keep f size e N P w' w'') : Keep f size e N P w w'' := ⟨h.grown.trans k.grown (fun _ hi _ => hi), fun T v hp ho => k.own T v hp (h.own T v hp ho)⟩
theorem Keep.of (h : w.grownBy w' none) : Keep f size e N P w w' := ⟨GrownS.none_ h, fun _ _ _ ho => ho.same h⟩
theorem Keep.rd {β : Type} {g : β → List Value} {s : Nat} {v : Value} {l : List β} (h : Keep f size e N P w w') (hr : RdL g s w v l) (hv : 0 < l.length → ∀ a n c, v = .slice (some a) n c → a.block < N) : RdL g s w' v l :=
  hr.keptS h.grown fun h0 a n c e h1 => by have := hv h0 a n c e; omega
theorem Keep.blk {g : Nat} {cs : Array Value} (h : Keep f size e N P w w') (hb : Blk w g cs) (hg : g < N) : Blk w' g cs := hb.keptS h.grown (by omega)
/-- What append keeps. -/
theorem own_keeps {v v' : Value} {l l2 T : List α} (hf : ∀ x, (f x).length = size) (hpos : 0 < size) (ho : Own f size e N w v l) (ho' : Own f size e N w' v' (l ++ l2)) (hg : w.grownBy w' v.ownBlock)
    (hc : (∃ g cap cur, v = .slice (some ⟨g, 0, none⟩) l.length cap ∧ v' = .slice (some ⟨g, 0, none⟩) (l.length + l2.length) cap ∧ w.heap[g]? = some (.cells cur e (0, 0)) ∧ w'.heap[g]? = some (.cells (cur.toList.take (l.length * size) ++ cellsOf f l2 ++ cur.toList.drop (l.length * size + (cellsOf f l2).length)).toArray e (0, 0))) ∨ w.grownBy w' none)
    (hT : T.length ≤ l.length ∨ T <+: l ++ l2 ∨ l ++ l2 <+: T)
    {u : Value} (hu : Own f size e N w u T) : Own f size e N w' u T := by
  rcases hc with ⟨g, cap, cur, rfl, rfl, hc1, hc2⟩ | hc
  · by_cases hub : u.ownBlock = some g
    · rcases hu.2 with ⟨rfl, h0⟩ | ⟨g', cap', cur', rfl, hb', hg', hn', hm', hs', ht'⟩
      · simp [Value.ownBlock] at hub
      · have e1 : g' = g := by simpa [Value.ownBlock] using hub
        subst e1
        rw [hc1] at hg'
        cases hg'
        rcases ho.2 with ⟨h0, _⟩ | ⟨g1, cap1, cur1, e1, _, hg1, hn1, _, hs1, ht1⟩
        · cases h0
        · cases e1
          rw [hc1] at hg1
          cases hg1
          rcases ho'.2 with ⟨h0, _⟩ | ⟨g2, cap2, cur2, e2, _, hg2, hn2, hm2, hs2, ht2⟩
          · cases h0
          · obtain ⟨e3, _, e4⟩ := Value.slice.inj e2
            cases e3
            subst e4
            rw [hc2] at hg2
            cases hg2
            have hl2 : (cellsOf f l2).length = l2.length * size := length_cellsOf f size hf l2
            have hroom : l.length * size + l2.length * size ≤ cap * size := by
              rw [← Nat.add_mul, ← List.length_append]; exact Nat.mul_le_mul_right _ hn2
            have hcc : cap' = cap := Nat.eq_of_mul_eq_mul_right hpos (by rw [← hs', hs1])
            subst hcc
            refine ⟨hu.1, .inr ⟨g', cap', _, rfl, hb', hc2, hn', hm', hs2, ?_⟩⟩
            rcases hT with h | ⟨r, hr⟩ | ⟨r, hr⟩
            · have hle : T.length * size ≤ l.length * size := Nat.mul_le_mul_right _ h
              have e9 : cur.toList.length = cur.size := Array.length_toList (xs := cur)
              have hA : l.length * size ≤ cur.toList.length := by omega
              show List.take _ (cur.toList.take _ ++ _ ++ _) = _
              rw [List.append_assoc, List.take_append_of_le_length (by rw [List.length_take]; omega), List.take_take, Nat.min_eq_left hle]
              exact ht'
            · have hlen : (cellsOf f T).length = T.length * size := length_cellsOf f size hf T
              have hle : T.length * size ≤ (cellsOf f l ++ cellsOf f l2).length := by
                rw [← cellsOf_append, ← hr, cellsOf_append, List.length_append, hlen]; omega
              show List.take _ (cur.toList.take _ ++ _ ++ _) = _
              rw [ht1, List.take_append_of_le_length hle, ← cellsOf_append, ← hr, cellsOf_append, ← hlen, List.take_left]
            · have h1 : cur.toList.take (l.length * size + (cellsOf f l2).length) = cellsOf f l ++ cellsOf f l2 := by
                have hle : l.length * size + (cellsOf f l2).length ≤ T.length * size := by
                  rw [hl2, ← Nat.add_mul, ← hr, List.length_append, List.length_append]; exact Nat.mul_le_mul_right _ (by omega)
                have : (cur.toList.take (T.length * size)).take (l.length * size + (cellsOf f l2).length) = cellsOf f l ++ cellsOf f l2 := by
                  rw [ht', ← hr, cellsOf_append, cellsOf_append]
                  have e5 : l.length * size + (cellsOf f l2).length = (cellsOf f l ++ cellsOf f l2).length := by rw [List.length_append, length_cellsOf f size hf l]
                  rw [e5, List.take_left]
                rwa [List.take_take, Nat.min_eq_left hle] at this
              show List.take _ (cur.toList.take _ ++ _ ++ _) = _
              rw [ht1, ← h1, List.take_append_drop]
              exact ht'
    · exact hu.kept hg (fun k hk e => hub (by rw [hk]; simpa [Value.ownBlock] using e.symm))
  · exact hu.same hc
section
variable {v : Value} {l l2 : List α} {A : Option Addr} {m c : Nat}
variable {o : Oper} {a : Act} {ops : Array Oper} {rest : List Oper} {Q : Exit → Act → World → Prop}
theorem app_keep (E : Elt st e z size bytes) (h1 : OneF f) (hf : ∀ x, (f x).length = size) (hown : Own f size e N w v l) (hr : RdL f size w (.slice A m c) l2) (hm : m = l2.length) (hb : (l.length + l2.length) * bytes ≤ 140737488355328) (h63 : l.length + l2.length ≤ 9223372036854775807) (hbase : N ≤ w.heap.size)
    (hP : ∀ T, P T → T.length ≤ l.length ∨ T <+: l ++ l2 ∨ l ++ l2 <+: T)
    (hgd : o.guard = none) (s x : Operand) (ho : o.op = .call { callee := .builtin .append, args := #[s, x], argTypes := #[st, st] }) (hs : a.eval s = v) (hx : a.eval x = .slice A m c)
    (h : ∀ v' w', Own f size e N w' v' (l ++ l2) → Keep f size e N P w w' → wpList Try.prog ops Q rest (a.put o.dst v') w') : wpList Try.prog ops Q (o :: rest) a w := by
  refine wpList_plain hgd fun _ hK => ?_
  subst hm
  obtain ⟨v', w', hrun, h2, h3, h4⟩ := run_app2 (ty := o.type) E hown hr (h1.cells l2) (by unfold maxLen; exact h63) hb hbase
  have h2' : Own f size e N w' v' (l ++ l2) := by unfold Own; rw [cellsOf_append, List.length_append]; exact h2
  unfold Oper.wp execOp
  simp only [ho, resolve, invoke, builtin, Sem.run_bind, Sem.run_pure, Result.andThen_ok, List.map_toArray, List.map_cons, List.map_nil, hs, hx, hrun]
  exact hK _ _ (h v' w' h2' ⟨GrownS.of h3 (fun k hk => (hown.lt k hk).1), fun T u hp hu => own_keeps hf E.pos hown h2' h3 h4 (hP T hp) hu⟩)
end
/-- One element in a new block. -/
theorem own_one' (hf : ∀ x, (f x).length = size) (w0 : World) (hN : N ≤ w0.heap.size) (y : α) (cs : Array Value) (hcs : cs.toList = f y) : Own f size e N (w0.alloc (.cells cs e)) (.slice (some ⟨w0.heap.size, 0, none⟩) 1 1) [y] := by
  have hl : cs.size = size := by rw [← Array.length_toList, hcs, hf]
  refine ⟨by simp [cellsOf, hf], .inr ⟨w0.heap.size, 1, cs, rfl, hN, heap_alloc_new w0 _, Nat.le_refl _, by unfold maxLen; omega, by omega, ?_⟩⟩
  rw [hcs]
  simp only [cellsOf, List.flatMap_cons, List.flatMap_nil, List.append_nil, List.length_cons, List.length_nil, Nat.zero_add, Nat.one_mul]
  rw [← hf y, List.take_length]
end
theorem Blk.manyK {α : Type} {f : α → List Value} {size : Nat} {w : World} {g : Nat} {cs : Array Value} (h : Blk w g cs) (hf : ∀ x, (f x).length = size) (l : List α) (hcs : cs.toList = cellsOf f l) (hl : l.length ≤ 9223372036854775807) : RdL f size w (.slice (some ⟨g, 0, none⟩) l.length l.length) l := by
  refine ⟨length_cellsOf f size hf l, hl, .inr ⟨g, 0, l.length, rfl, h.lt, fun j u hu => ?_⟩⟩
  rw [Nat.zero_add, h.cell j]
  rw [← hcs] at hu
  simpa using hu
end Go.Proofs.Ytniokdflljchgaa

/- The walk of the law ScriptDecode. -/
namespace Go.Proofs.Ytniokdflljchgaa
open Go.RowKit Go.Sort

theorem opE_key {o : OpR} (h : opE o = 0) : o.key.size ≤ 9223372036854775807 := by
  obtain ⟨-, h2, -⟩ := opE_iff.1 h
  simp [longB] at h2
  omega
/-- Bytes, and no error. -/
def EncY (w : World) (e : Ending) (w' : World) : Prop := ∃ (v : Value) (Y : List UInt8), e = .returned (.tuple #[v, .int .i64 0]) ∧ Own byF 1 5 w.heap.size w' v Y ∧ (0 < Y.length ∧ Y.length ≤ 17300000) ∧ w.grownBy w' none
theorem renc_ok (v : Value) (L : List OpR) (w : World) (h : OpsRd w v L) (h0 : ∀ o ∈ L, opE o = 0) (hl : L.length ≤ 9) : Calls Try.prog 14 #[v] w (EncY w) := by
  have hE : encE L = 0 := by unfold encE; rw [if_neg (by omega)]; exact opsE_no h0
  exact (renc_c v L w h fun o ho => opE_key (h0 o ho)).mono fun e w' ⟨v', h1, h2, h3⟩ => ⟨v', encO L, by rw [h1, hE], h2, ⟨encO_pos hE, encO_len L⟩, h3⟩
def sliF (p : Value × List UInt8) : List Value := [p.1]

set_option maxHeartbeats 3200000 in
set_option maxRecDepth 100000 in
theorem sdec_w (ba : Option Addr) (bc : Nat) (bl : List UInt8) (sv : Value) (xs : List Int) (k : Nat) (at_ : Int) (by_ : UInt8) (w : World) (hbv : RdL byF 1 w (.slice ba bl.length bc) bl) (hbc : bl.length ≤ bc)
    (hsv : Rd w 1 sv k (xs.map (fun x => Value.int .i64 x))) :
    Calls Try.prog 4 #[.slice ba bl.length bc, sv, .int .i64 at_, .int .u8 by_.toNat] w (RetBool true w) := by
  have HS := Lib.hid hsv
  obtain ⟨sa, sc, rfl⟩ := hsv.shape
  have HBv := Lib.hid hbv
  have hblt := Lib.hid (fun ad (e : ba = some ad) (h0 : 0 < bl.length) => by subst e; exact Rd.blockLt HBv.out h0 _ _ _ rfl : ∀ ad, ba = some ad → 0 < bl.length → ad.block < w.heap.size)
  clear hsv hbv
  go_enter Try.func4, Try.ntmps4
  by_cases hlen : 300 < bl.length
  · have hl2 : (300 : Int) < (bl.length : Int) := by omega
    go_wp2_with (go_at_call 10; refine (awake33_c _).mono ?_; rintro e w6 ⟨rfl, G6⟩)
    go_ret
    exact retBool rfl G6
  have hl2 : ¬ (300 : Int) < (bl.length : Int) := by omega
  go_upto_region 4 with (first
    | (go_at_call 11; refine (ops33_c _ _ _ _ HS.out).mono ?_; rintro e w1 ⟨v, L, rfl, o1, ok1, hl1, g1⟩)
    | (go_at_call 14; refine (renc_ok v L _ o1.rd ok1 hl1.2).mono ?_; rintro e wa3 ⟨v3, Y, rfl, o3, hYl, ga3⟩; obtain ⟨a3, c3, rfl⟩ := o3.shape))
  obtain ⟨hY0, hYl⟩ := hYl
  have hY1 : ((Y.length : Int) == 0) = false := by rw [beq_eq_false_iff_ne]; omega
  have HO3 := Lib.hid o3
  have hylt := Lib.hid (fun q hq => (o3.lt q hq).2 : ∀ q, (Value.slice a3 Y.length c3).ownBlock = some q → q < wa3.heap.size)
  have HK13 := Lib.hid (grownBy_trans g1 ga3)
  have HK13s := Lib.hid HK13.out.size
  have HB13 := Lib.hid (HBv.out.same HK13.out)
  clear o3 ga3 g1 o1 ok1 hl1 HS HBv
  go_upto_region 6 with fail
  have N := own_lit0 (e := 5) byF 1 (Nat.le_refl wa3.heap.size)
  have R := (HO3.out.same (World.grownBy_alloc wa3 (.cells #[] 5) none)).rd
  have hb1 : Y.length * 1 ≤ 140737488355328 := by omega
  have hb2 : Y.length ≤ 9223372036854775807 := by omega
  go_upto_region 7 with (at_builtin; refine app_lit elt_by one_by N R rfl hb1 hb2 (by simp) (by rfl) _ _ (by rfl) (by rfl) (by rfl) ?_; intro v4 w4 o4 g4 l4; obtain ⟨a4, c4, rfl⟩ := o4.shape)
  have G4 : wa3.grownBy w4 none := grownBy_trans (World.grownBy_alloc wa3 _ none) g4
  have HO4 := Lib.hid (HO3.out.same G4)
  have HK14 := Lib.hid (grownBy_trans HK13.out G4)
  have HB14 := Lib.hid (HB13.out.same G4)
  have HZ := Lib.hid o4
  clear N R g4 l4 HO3 HK13 HB13 o4
  have hand : bits .and .i64 at_ 4095 = at_ % 4096 := and_low at_ 12 (by omega)
  have hm0 := Int.emod_nonneg at_ (show (4096 : Int) ≠ 0 by decide)
  have hm1 := Int.emod_lt_of_pos at_ (show (0 : Int) < 4096 by decide)
  generalize at_ % 4096 = m at *
  have hYp : (0 : Int) < (Y.length : Int) := by omega
  have hmz : ((Y.length : Int) == 0) = false := hY1
  obtain ⟨jj, hjj⟩ : ∃ jj : Nat, m.tmod (Y.length : Int) = (jj : Int) ∧ jj < Y.length := ⟨m.toNat % Y.length, by
    obtain ⟨q, rfl⟩ := Int.eq_ofNat_of_zero_le hm0
    rw [Int.toNat_natCast]; rfl, Nat.mod_lt _ hY0⟩
  obtain ⟨hj1, hj2⟩ := hjj
  obtain ⟨zg, zc, hzv, hzlo, -, -, hzc, hzf⟩ := HZ.out.at_ byF_len hj2
  cases hzv
  have hzc0 := hzc 0 _ rfl
  rw [Nat.mul_one, Nat.add_zero] at hzc0
  clear hzc
  go_upto_region 8 with fail
  have hst := HZ.out.stored byF_len hj2 (j := 0) (by omega) (.int .u8 by_.toNat) by_ rfl
  rw [Nat.mul_one, Nat.add_zero] at hst
  obtain ⟨oz, gz⟩ := hst
  have hsz3 := (HK14.out.size)
  have hzw : w.heap.size ≤ zg := Nat.le_trans HK13s.out hzlo
  have HKs := Lib.hid (grownBy_new HK14.out gz hzw)
  have HOs := Lib.hid (HO4.out.kept gz (fun q hq e => by cases e; have := hylt.out _ hq; omega))
  have HBs := Lib.hid (rd_kept HB14.out gz hblt.out (fun k e => by cases e; exact hzw))
  have HZs := Lib.hid oz
  have hzcap := Lib.hid HZ.out.cap
  clear oz gz HO4 HK14 HB14 HZ hzc0 hzf hsz3 G4 hzlo hylt hblt HK13s hzw
  have hYset : (Y.set jj by_).length = Y.length := List.length_set
  generalize w4.setCell ⟨zg, jj, none⟩ (.int .u8 by_.toNat) = ws at *
  have hyc : Y.length ≤ c3 := HOs.out.cap
  have hj0 : (0 : Int) ≤ (jj : Int) := by omega
  have hj3 : (jj : Int) ≤ (c3 : Int) := by omega
  have hj4 : (Y.length : Int) ≤ (c3 : Int) := by omega
  obtain ⟨NN, hNN⟩ : ∃ NN, ws.heap.size = NN := ⟨_, rfl⟩
  have HNN := Lib.hid hNN
  have RB := Lib.hid HBs.out
  have RY := Lib.hid HOs.out.rd
  have RZ := Lib.hid HZs.out.rd
  have lB := Lib.hid (fun h0 => hNN ▸ Rd.blockLt HBs.out h0 : 0 < bl.length → ∀ a n' c, Value.slice ba bl.length bc = .slice (some a) n' c → a.block < NN)
  have lY := Lib.hid (fun h0 => hNN ▸ Rd.blockLt HOs.out.rd h0 : 0 < Y.length → ∀ a n' c, Value.slice a3 Y.length c3 = .slice (some a) n' c → a.block < NN)
  have lZ := Lib.hid (fun h0 => hNN ▸ Rd.blockLt HZs.out.rd h0 : 0 < (Y.set jj by_).length → ∀ a n' c, Value.slice (some ⟨zg, 0, none⟩) Y.length c4 = .slice (some a) n' c → a.block < NN)
  obtain ⟨P, hP⟩ : ∃ P : List UInt8 → Prop, (fun T => T = [] ∨ T = Y ∨ T = [by_] ∨ T = Y ++ [by_]) = P := ⟨_, rfl⟩
  have HP0 := Lib.hid (show P [] by rw [← hP]; exact .inl rfl)
  have HP1 := Lib.hid (show P Y by rw [← hP]; exact .inr (.inl rfl))
  have HPx := Lib.hid (show P [by_] by rw [← hP]; exact .inr (.inr (.inl rfl)))
  have HP3 := Lib.hid (show P (Y ++ [by_]) by rw [← hP]; exact .inr (.inr (.inr rfl)))
  have HP2 := Lib.hid (show ∀ T, P T → T.length ≤ Y.length ∨ T <+: Y ++ [by_] ∨ Y ++ [by_] <+: T by
    intro T hT
    rw [← hP] at hT
    rcases hT with rfl | rfl | rfl | rfl
    · exact .inl (by simp)
    · exact .inl (Nat.le_refl _)
    · exact .inl (by simp; omega)
    · exact .inr (.inl (List.prefix_refl _)))
  have hb4 : (Y.length + [by_].length) * 1 ≤ 140737488355328 := by simp; omega
  have hb5 : Y.length + [by_].length ≤ 9223372036854775807 := by simp; omega
  have K6 : Keep byF 1 5 NN P ws ws.drew := Keep.of (by (repeat (first | exact grownBy_refl _ _ | assumption | refine grownBy_new_block ?_ _ | refine grownBy_drew ?_ | refine grownBy_drewN ?_ _ | refine grownBy_setNew ?_ (by first | (simp; done) | omega | (simp; omega)) _)))
  clear hP HOs HZs HBs hNN
  refine wp_region_any (by kernel_rfl) ?_
  (refine Tail.take_put 18 64 (.int .i64 0) rfl rfl (by kernel_rfl) (by kernel_rfl) (by kernel_rfl) (fun _ _ _ h => h) (Or.inl ⟨by rfl, fun w => ?_⟩) ?_; · go_simp); simp only [List.setIfInBounds_toArray, List.set_cons_zero, List.set_cons_succ]
  (refine Rg.wpAny_rg 16 #[] #[false, false, false, false, false, false, false, false, false, false, false, false, false, false, false, false, false, false, true] (Keep byF 1 5 NN P) (fun _ _ _ _ _ => False) (by kernel_rfl) (by kernel_rfl) rfl (by kernel_rfl) (by simp only [Rg.tailL, List.drop]; decide) (Keep.refl _ _ _ _ _) (fun _ _ _ h k => h.trans k) (fun _ _ _ _ _ h => h) ?_; simp only [List.take, List.drop, Rg.tailL]; simp (decide := true) only [if_true, if_false])
  (refine Rg.tree_quiet 10 rfl (by first | exact Or.inl rfl | exact Or.inr rfl) ?_; simp only [List.take, List.drop, List.length_cons, List.length_nil, List.replicate, Nat.reduceAdd]; (try simp only [List.cons_append]); (try simp only [List.nil_append]); (repeat (go_big_quiet_step (fail))); refine wpQuiet_nil ?_)
  (refine Rg.tree_op rfl rfl ?_; intro x10 mx10 dx10)
  clear dx10
  have zx10 : NN ≤ x10.heap.size := HNN.out ▸ (K6.trans mx10).grown.size
  go_wp2_with fail
  refine ⟨Keep.of (World.grownBy_alloc _ _ _), ?_⟩
  have N10 := own_lit0 (e := 5) byF 1 zx10
  generalize x10.alloc (.cells #[] 5) = e10 at *
  generalize x10.heap.size = g10 at *
  (refine Rg.tree_quiet 1 rfl (by first | exact Or.inl rfl | exact Or.inr rfl) ?_; simp only [List.take, List.drop, List.length_cons, List.length_nil, List.replicate, Nat.reduceAdd]; (try simp only [List.cons_append]); (try simp only [List.nil_append]); (repeat (go_big_quiet_step (fail))); refine wpQuiet_nil ?_)
  (refine Rg.tree_op rfl rfl ?_; intro x12 mx12 dx12)
  have N12 := (dx12.out 10 (by omega) (by kernel_rfl)).own [] _ HP0.out N10
  have R12 := (K6.trans mx12).rd RY.out lY.out
  have z12 : NN ≤ x12.heap.size := HNN.out ▸ (K6.trans mx12).grown.size
  clear dx12
  go_wp2_with (at_builtin; refine app_lit elt_by one_by N12 R12 rfl hb1 hb2 z12 (by rfl) _ _ (by rfl) (by rfl) (by rfl) ?_; intro v12 e12 o12 g12 l12; have Hg12 := Lib.hid g12; clear g12 l12)
  refine ⟨Keep.of Hg12.out, ?_⟩
  obtain ⟨a12, c12, rfl⟩ := o12.shape
  clear N12 R12 z12 N10 Hg12
  (refine Rg.tree_quiet 1 rfl (by first | exact Or.inl rfl | exact Or.inr rfl) ?_; simp only [List.take, List.drop, List.length_cons, List.length_nil, List.replicate, Nat.reduceAdd]; (try simp only [List.cons_append]); (try simp only [List.nil_append]); (repeat (go_big_quiet_step (fail))); refine wpQuiet_nil ?_)
  (refine Rg.tree_op rfl rfl ?_; intro x14 mx14 dx14)
  clear dx14
  have z14 : NN ≤ x14.heap.size := HNN.out ▸ (K6.trans mx14).grown.size
  go_wp2_with fail
  refine ⟨Keep.of (World.grownBy_alloc _ _ _), ?_⟩
  have N14 : Own byF 1 5 NN (x14.alloc (.cells #[.int .u8 by_.toNat] 5)) (.slice (some ⟨x14.heap.size, 0, none⟩) 1 1) [by_] := own_one' byF_len x14 z14 by_ _ rfl
  generalize x14.alloc (.cells #[.int .u8 by_.toNat] 5) = e14 at *
  generalize x14.heap.size = g14 at *
  (refine Rg.tree_op rfl rfl ?_; intro x15 mx15 dx15)
  have N15 := (dx15.out 12 (by omega) (by kernel_rfl)).own _ _ HP1.out o12
  have R15 := ((dx15.out 14 (by omega) (by kernel_rfl)).own _ _ HPx.out N14).rd
  have z15 : NN ≤ x15.heap.size := HNN.out ▸ (K6.trans mx15).grown.size
  clear dx15
  go_wp2_with (at_builtin; refine app_keep elt_by one_by byF_len N15 R15 rfl hb4 hb5 z15 HP2.out (by rfl) _ _ (by rfl) (by rfl) (by rfl) ?_; intro v15 e15 o15 k15; have Hk15 := Lib.hid k15; clear k15)
  refine ⟨Hk15.out, ?_⟩
  obtain ⟨a15, c15, rfl⟩ := o15.shape
  clear N15 R15 z15 N14 Hk15
  (refine Rg.tree_nil ?_; intro zz mzz dzz czz)
  have o15z := (dzz.out 15 (by omega)).own _ _ HP3.out o15
  have KZ := K6.trans mzz
  have RBz := KZ.rd RB.out lB.out
  have RYz := KZ.rd RY.out lY.out
  have RZz := KZ.rd RZ.out lZ.out
  have RTz := RdL.take byF_len RYz (show jj ≤ Y.length by omega) c3
  have KW2 := grownBy_trans HKs.out (KZ.grown.back fun i hi => by have := HNN.out; omega)
  clear dzz czz mzz mx10 mx12 mx14 mx15 K6 KZ o12 o15 HP0 HP1 HP2 HP3 HPx lB lY lZ RB RY RZ zx10 z14 HKs
  have hc15 := o15z.cap
  have hc4 : Y.length ≤ c4 := hzcap.out
  have R5z := o15z.rd
  clear o15z
  generalize Y ++ [by_] = Y5 at *
  go_upto_region 9 with fail
  have NV := Blk.new zz #[.slice ba bl.length bc, .slice a3 Y.length c3, .slice (some ⟨zg, 0, none⟩) Y.length c4, .slice a3 jj c3, .slice a15 Y5.length c15] 28
  have GV := World.grownBy_alloc zz (.cells #[.slice ba bl.length bc, .slice a3 Y.length c3, .slice (some ⟨zg, 0, none⟩) Y.length c4, .slice a3 jj c3, .slice a15 Y5.length c15] 28) none
  have KV := Lib.hid (grownBy_trans KW2 GV)
  obtain ⟨vs, hvs⟩ : ∃ vs : List (Value × List UInt8), [(Value.slice ba bl.length bc, bl), (.slice a3 Y.length c3, Y), (.slice (some ⟨zg, 0, none⟩) Y.length c4, Y.set jj by_), (.slice a3 jj c3, Y.take jj), (.slice a15 Y5.length c15, Y5)] = vs := ⟨_, rfl⟩
  have HV := Lib.hid (show RdL sliF 1 (zz.alloc (.cells #[.slice ba bl.length bc, .slice a3 Y.length c3, .slice (some ⟨zg, 0, none⟩) Y.length c4, .slice a3 jj c3, .slice a15 Y5.length c15] 28)) (.slice (some ⟨zz.heap.size, 0, none⟩) 5 5) vs by
    have h := blk_rd (f := sliF) (size := 1) NV (fun _ => rfl) vs (by rw [← hvs]; rfl) (by rw [← hvs]; simp)
    have e : vs.length = 5 := by rw [← hvs]; rfl
    rw [e] at h; exact h)
  have HVs := Lib.hid (show ∀ p ∈ vs, RdL byF 1 (zz.alloc (.cells #[.slice ba bl.length bc, .slice a3 Y.length c3, .slice (some ⟨zg, 0, none⟩) Y.length c4, .slice a3 jj c3, .slice a15 Y5.length c15] 28)) p.1 p.2 ∧ ∀ a n c, p.1 = .slice a n c → n ≤ c by
    intro p hp
    rw [← hvs] at hp
    simp only [List.mem_cons, List.not_mem_nil, or_false] at hp
    rcases hp with rfl | rfl | rfl | rfl | rfl
    · exact ⟨RBz.same GV, fun a n c e => by cases e; exact hbc⟩
    · exact ⟨RYz.same GV, fun a n c e => by cases e; exact hyc⟩
    · exact ⟨RZz.same GV, fun a n c e => by cases e; exact hc4⟩
    · exact ⟨RTz.same GV, fun a n c e => by cases e; omega⟩
    · exact ⟨R5z.same GV, fun a n c e => by cases e; exact hc15⟩)
  have HVl := Lib.hid (show vs.length = 5 by rw [← hvs]; rfl)
  clear hvs NV GV KW2 RBz RYz RZz RTz R5z hc15 hc4 hyc
  generalize zz.alloc (.cells #[.slice ba bl.length bc, .slice a3 Y.length c3, .slice (some ⟨zg, 0, none⟩) Y.length c4, .slice a3 jj c3, .slice a15 Y5.length c15] 28) = wv at *
  generalize zz.heap.size = gv at *
  go_loopw [64] (fun s64 wk => ∃ i : Nat, i ≤ 5 ∧ s64 = .int .i64 i ∧ wv.grownBy wk none) (fun s64 _ => 5 - (intOf s64).toNat)
  case atStart => exact ⟨0, by omega, rfl, grownBy_refl _ _⟩
  case round =>
    obtain ⟨i, hi, rfl, hg⟩ := hrel
    by_cases hlt : i < 5
    · have hil : i < vs.length := by rw [HVl.out]; exact hlt
      obtain ⟨gq, oq, cq, hv, hgq, hc⟩ := (HV.out.same hg).at_ (fun _ => rfl) hil
      rw [HVl.out] at hv
      cases hv
      have hc0 := hc 0 _ rfl
      rw [Nat.zero_add, Nat.mul_one, Nat.add_zero] at hc0
      obtain ⟨hr1, hr2⟩ := HVs.out _ (List.getElem_mem hil)
      generalize vs[i] = p at *
      obtain ⟨pv, pl⟩ := p
      dsimp only at hr1 hr2 hc0
      obtain ⟨pa, pc, rfl⟩ := hr1.shape
      have HD1 := Lib.hid fun w' (h : World.grownBy wr w' none) => sdec_c _ pl w' (hr1.same (grownBy_trans hg h)) hr2
      have HD2 := Lib.hid fun w' (h : World.grownBy wr w' none) => sdecR_c _ pl w' (hr1.same (grownBy_trans hg h)) hr2
      have hEE : ((decOE pl) != (decOE pl)) = false := by simp
      have hi0 : (0 : Int) ≤ (i : Int) := by omega
      have hi5 : (i : Int) < 5 := by omega
      clear hr1 hr2 hc hil
      go_wp2_with (first
        | (go_at_call 16; refine (HD1.out _ (grownBy_refl _ _)).mono ?_; rintro e wa2 ⟨v1, L1, rfl, o1, e1, ga2⟩)
        | (go_at_call 17; refine (HD2.out _ ga2).mono ?_; rintro e we2 ⟨v2, L2, rfl, o2, e2, ge2⟩; have Ke2 := grownBy_trans ga2 ge2)
        | (go_at_call 18; refine (sameOps_c _ _ L1 L2 _ (o1.same ge2).rd o2.rd (e1.trans e2.symm)).mono ?_; rintro e wi2 ⟨rfl, gi2⟩; have Ki2 := grownBy_trans Ke2 gi2))
      exact ⟨⟨i + 1, by omega, by go_num, grownBy_trans hg Ki2⟩, by simp [intOf]; omega⟩
    · go_wp2_with (go_at_call 10; refine (awake33_c _).mono ?_; rintro e w6 ⟨rfl, G6⟩)
      go_ret
      exact retBool rfl (grownBy_trans KV.out (grownBy_trans hg G6))
end Go.Proofs.Ytniokdflljchgaa

/- Whether operations are short: a boolean. -/
namespace Go.Proofs.Ytniokdflljchgaa
open Go.RowKit Go.Sort

def plainO (o : OpR) : Bool := decide (o.data.length ≤ 300) && decide (o.key.size ≤ 300) && decide (o.picks.length ≤ 20)
def plainS (l : List OpR) : Bool := decide (l.length ≤ 12) && l.all plainO
theorem plainS_no {l : List OpR} {o : OpR} (h : o ∈ l) (h0 : plainO o = false) : plainS l = false := by
  unfold plainS
  rw [List.all_eq_false.2 ⟨o, h, by simp [h0]⟩, Bool.and_false]
set_option maxHeartbeats 1000000 in
set_option maxRecDepth 100000 in
theorem plain33_c (v : Value) (l : List OpR) (w : World) (h : OpsRd w v l) : Calls Try.prog 9 #[v] w (RetBool (plainS l) w) := by
  obtain ⟨a, c, rfl⟩ := h.rd.shape
  have hm := h.rd.2.1
  have H := Lib.hid h
  clear h
  go_enter Try.func9, Try.ntmps9
  by_cases p1 : (12 : Int) < (l.length : Int)
  · go_wp2_with fail
    go_ret
    exact retBool (by unfold plainS; rw [decide_eq_false (by omega)]; rfl) (grownBy_refl _ _)
  go_upto_region 4 with fail
  go_loopw [10] (fun s10 wr => ∃ k : Nat, k ≤ l.length ∧ s10 = .int .i64 k ∧ (l.take k).all plainO = true ∧ w.grownBy wr none) (fun s10 _ => l.length - (intOf s10).toNat)
  case atStart => exact ⟨0, Nat.zero_le _, rfl, rfl, grownBy_refl _ _⟩
  case round =>
    obtain ⟨i, hi, rfl, hsm, hg⟩ := hrel
    by_cases hlt : i < l.length
    · obtain ⟨gv, off, cap, hv, hgl, hc⟩ := (H.out.rd.same hg).at_ opF_len hlt
      cases hv
      have ho := (H.out.all _ (List.getElem_mem hlt)).same hg
      have Hc := Lib.hid hc
      have HT := Lib.hid (fun h => by rw [List.take_succ_eq_append_getElem hlt, List.all_append, hsm]; simp [h] : plainO l[i] = true → (l.take (i + 1)).all plainO = true)
      have HM := Lib.hid (fun h => plainS_no (List.getElem_mem hlt) h : plainO l[i] = false → plainS l = false)
      generalize l[i] = x at *
      clear hc hsm
      obtain ⟨k, vd, t, s, yk, vp, d, q⟩ := x
      obtain ⟨da, dc, e1⟩ := ho.data.shape
      obtain ⟨pa, pc, e2⟩ := ho.picks.shape
      dsimp only at *
      subst e1 e2
      have hi0 : (0 : Int) ≤ (i : Int) := by omega
      have hi1 : (i : Int) < (l.length : Int) := by omega
      clear ho
      go_upto_region 6 with (first
        | (refine load_op_at rfl _ rfl _ _ rfl Hc.out ?_)
        | (refine alloc_op rfl rfl ?_; intro wa Aa ga za)
        | (refine store_op rfl _ _ rfl _ rfl rfl rfl rfl _ rfl Aa ?_; intro wb Ab gb))
      have Kb := grownBy_new ga gb (Nat.le_refl _)
      clear Aa ga za gb Hc
      generalize wr.heap.size = ga at *
      have a1 := Ab.cell
      by_cases c1 : (300 : Int) < (d.length : Int)
      · go_wp2_with fail
        go_ret
        exact retBool (HM.out (by simp [plainO]; omega)) (grownBy_trans hg Kb)
      by_cases c2 : (300 : Int) < (yk.size : Int)
      · go_wp2_with fail
        go_ret
        exact retBool (HM.out (by simp [plainO]; omega)) (grownBy_trans hg Kb)
      by_cases c3 : (20 : Int) < (q.length : Int)
      · go_wp2_with fail
        go_ret
        exact retBool (HM.out (by simp [plainO]; omega)) (grownBy_trans hg Kb)
      go_wp2_with fail
      exact ⟨⟨i + 1, by omega, by go_num, HT.out (by simp [plainO]; omega), grownBy_trans hg Kb⟩, by simp [intOf]; omega⟩
    · go_wp2_with fail
      go_ret
      have : i = l.length := by omega
      subst this
      rw [List.take_length] at hsm
      exact retBool (by unfold plainS; rw [hsm, decide_eq_true (by omega)]; rfl) hg
end Go.Proofs.Ytniokdflljchgaa
