/- The program's writer of operations: one operation. -/
import Derived.Test.YtniokdflljchgaaScr3
namespace Go.Proofs.Ytniokdflljchgaa
open Go.RowKit Go.Sort

theorem wnumI_c (B g : Nat) (l : List UInt8) (n : Int) (w : World) (h : BufAt B w g l) (h0 : 0 ≤ n) (hn : n < 4611686018427387904) (hl : l.length ≤ 1000000000) (hB : B ≤ w.heap.size) :
    Calls Try.prog 43 #[.pointer (some ⟨g, 0, none⟩), .int .i64 n] w (NumPost w.heap.size w g (l ++ vb n.toNat)) := by
  obtain ⟨m, rfl⟩ := Int.eq_ofNat_of_zero_le h0
  exact wnum_c B g l m w h (by omega) hl hB
theorem kind_of {o : OpR} (h : restB o = true) : o.kind = 1 ∨ o.kind = 2 ∨ o.kind = 3 ∨ o.kind = 4 ∨ o.kind = 5 := by
  unfold restB at h
  by_cases k1 : o.kind = 1
  · exact .inl k1
  by_cases k2 : o.kind = 2
  · exact .inr (.inl k2)
  by_cases k3 : o.kind = 3
  · exact .inr (.inr (.inl k3))
  by_cases k4 : o.kind = 4
  · exact .inr (.inr (.inr (.inl k4)))
  by_cases k5 : o.kind = 5
  · exact .inr (.inr (.inr (.inr k5)))
  · simp [k1, k2, k3, k4, k5] at h
structure OpOk (o : OpR) : Prop where
  kind : o.kind = 1 ∨ o.kind = 2 ∨ o.kind = 3 ∨ o.kind = 4 ∨ o.kind = 5
  data : o.data.length ≤ 4096
  key : o.key.size ≤ 255
  picks : o.picks.length ≤ 8
  time : 0 ≤ o.time ∧ o.time ≤ 1099511627776
  shard : 0 ≤ o.shard ∧ o.shard ≤ 1099511627776
  pick : ∀ p ∈ o.picks, 0 ≤ p ∧ p ≤ 1099511627776
theorem op_ok {o : OpR} (h : opE o = 0) : OpOk o := by
  obtain ⟨h1, h2, h3⟩ := opE_iff.1 h
  simp only [longB, Bool.or_eq_false_iff, decide_eq_false_iff_not] at h2
  simp only [rangeB, Bool.and_eq_true, List.all_eq_true] at h3
  exact ⟨kind_of h1, by omega, by omega, by omega, inR_iff.1 h3.1.1, inR_iff.1 h3.1.2, fun p hp => inR_iff.1 (h3.2 p hp)⟩

set_option maxHeartbeats 2000000 in
set_option maxRecDepth 100000 in
theorem wop_c (B N g : Nat) (l : List UInt8) (k t s : Int) (y : ByteArray) (da pa : Option Addr) (dc pc : Nat) (d : List UInt8) (q : List Int) (w : World) (h : BufAt B w g l) (hl : l.length ≤ 20000000) (hB : B ≤ w.heap.size)
    (hd : RdL byF 1 w (.slice da d.length dc) d) (hq : RdL intF 1 w (.slice pa q.length pc) q) (hda : ∀ ad, da = some ad → 0 < d.length → ad.block < N) (hpa : ∀ ad, pa = some ad → 0 < q.length → ad.block < N) (hN : N ≤ g)
    (hE : OpOk ⟨k, .slice da d.length dc, t, s, y, .slice pa q.length pc, d, q⟩) :
    Calls Try.prog 45 #[.pointer (some ⟨g, 0, none⟩), opV k (.slice da d.length dc) t s y (.slice pa q.length pc)] w (NumPost w.heap.size w g (l ++ opB ⟨k, .slice da d.length dc, t, s, y, .slice pa q.length pc, d, q⟩)) := by
  have hgB := h.lt
  have hgw : g < w.heap.size := by omega
  obtain ⟨hk, e1, e2, e3, e4, e5, e6⟩ := hE
  dsimp only at *
  have HP := Lib.hid e6
  clear e6
  have B1 := Blk.new w (opA k (.slice da d.length dc) t s y (.slice pa q.length pc)) 30
  have G1 := World.grownBy_alloc w (.cells (opA k (.slice da d.length dc) t s y (.slice pa q.length pc)) 30) none
  have z1 : w.heap.size < (w.alloc (.cells (opA k (.slice da d.length dc) t s y (.slice pa q.length pc)) 30)).heap.size := by simp
  have hdm := hd.2.1
  have hqm := hq.2.1
  have HOB := Lib.hid (show opB ⟨k, .slice da d.length dc, t, s, y, .slice pa q.length pc, d, q⟩ = vb k.toNat ++ opT ⟨k, .slice da d.length dc, t, s, y, .slice pa q.length pc, d, q⟩ from rfl)
  have hBx := Lib.hid (h.same G1)
  have HD := Lib.hid (hd.same G1)
  have HQ := Lib.hid (hq.same G1)
  have HA := Lib.hid hda
  have HA2 := Lib.hid hpa
  clear h hd hq hda hpa
  go_enter Try.func45, Try.ntmps45
  go_upto_region 1 with fail
  generalize w.alloc (.cells (opA k (.slice da d.length dc) t s y (.slice pa q.length pc)) 30) = w1 at *
  have hbx : ∃ bx, w.heap.size = bx := ⟨_, rfl⟩
  obtain ⟨bx, hbx⟩ := hbx
  rw [hbx] at B1 z1 hgw hB ⊢
  have HBX := Lib.hid hbx
  clear hbx
  have c1 := B1.cell
  have hk0 : 0 ≤ k ∧ k ≤ 5 := by omega
  have Hk := Lib.hid (wnumI_c B g l k w1 hBx.out hk0.1 (by omega) (by omega) (by omega))
  have hvk := vb_ten (show k.toNat < 18446744073709551616 by omega)
  have hL1 : (l ++ vb k.toNat).length ≤ 30000000 := by rw [List.length_append]; omega
  have HK := Lib.hid hk
  clear hk hk0 hBx
  go_upto_region 2 with (go_at_call 43; refine Hk.out.mono ?_; rintro e w2 ⟨rfl, b2, g2⟩)
  clear Hk c1
  have hne : g ≠ bx := by omega
  have A2 := B1.kept g2 (by simp; omega)
  have R2 := rd_kept HD.out g2 HA.out (fun k e => by cases e; exact hN)
  have S2 := rd_kept HQ.out g2 HA2.out (fun k e => by cases e; exact hN)
  have K2 := Lib.hid (grownBy_trans (grownBy_some G1 (some g)) g2)
  have z2 := g2.size
  have Hb2 := Lib.hid (b2.base (B' := bx) (by omega) hgw)
  have HR2 := Lib.hid R2
  have HS2 := Lib.hid S2
  clear B1 G1 g2 b2 HD HQ R2 S2
  have a2 := A2.cell
  rcases HK.out with rfl | rfl | rfl | rfl | rfl
  · obtain ⟨L, hL⟩ : ∃ L, l ++ vb (1 : Int).toNat = L := ⟨_, rfl⟩
    have HF := Lib.hid (show l ++ opB ⟨1, .slice da d.length dc, t, s, y, .slice pa q.length pc, d, q⟩ = L ++ (vb d.length ++ d) by rw [HOB.out, opT1 rfl, ← hL]; simp only [List.append_assoc])
    rw [hL] at hL1 Hb2
    clear HOB hL
    have hcv := conv_by HR2.out
    have Hc := Lib.hid (wtext_c bx g L ⟨d.toArray⟩ w2 Hb2.out (by simp [ByteArray.size]; omega) (by omega) (by omega))
    go_wp2_with (go_at_call 71; refine Hc.out.mono ?_; rintro e w3 ⟨rfl, b3, g3⟩)
    go_end0
    refine ⟨rfl, ?_, grownBy_trans K2.out g3⟩
    rw [HBX.out, HF.out, ← List.append_assoc]
    exact b3.base (by omega) hgw
  · obtain ⟨L, hL⟩ : ∃ L, l ++ vb (2 : Int).toNat = L := ⟨_, rfl⟩
    have HF := Lib.hid (show l ++ opB ⟨2, .slice da d.length dc, t, s, y, .slice pa q.length pc, d, q⟩ = L ++ (vb t.toNat ++ vb q.length ++ vbs (q.map Int.toNat)) by rw [HOB.out, opT2 rfl, ← hL]; simp only [List.append_assoc])
    rw [hL] at hL1 Hb2
    clear HOB hL
    have hvt := vb_ten (show t.toNat < 18446744073709551616 by omega)
    have hvq := vb_ten (show q.length < 18446744073709551616 by omega)
    have Hc := Lib.hid (wnumI_c bx g L t w2 Hb2.out e4.1 (by omega) (by omega) (by omega))
    go_upto_region 7 with (go_at_call 43; refine Hc.out.mono ?_; rintro e w3 ⟨rfl, b3, g3⟩)
    have A3 := A2.kept g3 (by simp; omega)
    have a3 := A3.cell
    have Hb3 := Lib.hid (b3.base (B' := bx) (by omega) hgw)
    have K3 := Lib.hid (grownBy_trans K2.out g3)
    have HS3 := Lib.hid (rd_kept HS2.out g3 HA2.out (fun k e => by cases e; exact hN))
    have z3 := g3.size
    have hL2 : (L ++ vb t.toNat).length ≤ 30000100 := by rw [List.length_append]; omega
    clear Hc a2 A2 b3 g3 K2 HS2 Hb2
    have Hc := Lib.hid (wnum_c bx g (L ++ vb t.toNat) q.length w3 Hb3.out (by omega) (by omega) (by omega))
    go_upto_region 8 with (go_at_call 43; refine Hc.out.mono ?_; rintro e w4 ⟨rfl, b4, g4⟩)
    have A4 := A3.kept g4 (by simp; omega)
    have a4 := A4.cell
    have Hb4 := Lib.hid (b4.base (B' := bx) (by omega) hgw)
    have K4 := Lib.hid (grownBy_trans K3.out g4)
    have HS4 := Lib.hid (rd_kept HS3.out g4 HA2.out (fun k e => by cases e; exact hN))
    have z4 := g4.size
    obtain ⟨M, hM⟩ : ∃ M, L ++ vb t.toNat ++ vb q.length = M := ⟨_, rfl⟩
    have hL3 : M.length ≤ 30000200 := by rw [← hM, List.length_append]; omega
    have HF2 := Lib.hid (show l ++ opB ⟨2, .slice da d.length dc, t, s, y, .slice pa q.length pc, d, q⟩ = M ++ vbs (q.map Int.toNat) by rw [HF.out, ← hM]; simp only [List.append_assoc])
    rw [hM] at Hb4
    clear Hc a3 A3 b4 g4 K3 HS3 Hb3 HF hM
    go_wp2_with fail
    go_loopw [33, 5] (fun s33 _ wk => ∃ i : Nat, i ≤ q.length ∧ s33 = .int .i64 i ∧ BufAt bx wk g (M ++ vbs ((q.take i).map Int.toNat)) ∧ w4.grownBy wk (some g)) (fun s33 _ _ => q.length - (intOf s33).toNat)
    case atStart => exact ⟨0, Nat.zero_le _, rfl, by simpa [vbs] using Hb4.out, grownBy_refl _ _⟩
    case round =>
      obtain ⟨i, hi, rfl, hb, hg⟩ := hrel
      by_cases hlt : i < q.length
      · obtain ⟨gv, off, cap, hv, hgl, hc⟩ := RdL.one (fun _ => rfl) (rd_kept HS4.out hg HA2.out (fun k e => by cases e; exact hN)) hlt
        cases hv
        have hp := HP.out _ (List.getElem_mem hlt)
        have HS := Lib.hid (show M ++ vbs ((q.take (i + 1)).map Int.toNat) = M ++ vbs ((q.take i).map Int.toNat) ++ vb q[i].toNat by rw [List.take_succ_eq_append_getElem hlt, List.map_append, List.map_singleton, vbs_snoc, List.append_assoc])
        have hlv : (vbs ((q.take i).map Int.toNat)).length ≤ 10 * ((q.take i).map Int.toNat).length := vbs_len (by
          intro n hn
          obtain ⟨x, hx, rfl⟩ := List.mem_map.1 hn
          have := HP.out x (List.mem_of_mem_take hx)
          omega)
        have hll : (M ++ vbs ((q.take i).map Int.toNat)).length ≤ 30001000 := by
          rw [List.length_map, List.length_take] at hlv
          rw [List.length_append]; omega
        have hz := hg.size
        have Hc := Lib.hid (wnumI_c bx g _ q[i] wr hb hp.1 (by omega) (by omega) (by omega))
        generalize M ++ vbs ((q.take i).map Int.toNat) = M2 at *
        generalize q[i] = x at *
        clear hb hlv
        go_wp2_with (go_at_call 43; refine Hc.out.mono ?_; rintro e w5 ⟨rfl, b5, g5⟩)
        exact ⟨⟨i + 1, by omega, by go_num, by rw [HS.out]; exact b5.base (by omega) hgw, grownBy_trans hg g5⟩, by simp [intOf]; omega⟩
      · have e : q.take i = q := List.take_of_length_le (by omega)
        rw [e] at hb
        clear e
        have HBf := Lib.hid hb
        clear hb
        go_wp2_with fail
        go_end0
        exact ⟨rfl, by rw [HBX.out, HF2.out]; exact HBf.out, grownBy_trans K4.out hg⟩
  · obtain ⟨L, hL⟩ : ∃ L, l ++ vb (3 : Int).toNat = L := ⟨_, rfl⟩
    have HF := Lib.hid (show l ++ opB ⟨3, .slice da d.length dc, t, s, y, .slice pa q.length pc, d, q⟩ = L ++ (vb s.toNat) by rw [HOB.out, opT3 rfl, ← hL]; simp only [List.append_assoc])
    rw [hL] at hL1 Hb2
    clear HOB hL
    have Hc := Lib.hid (wnumI_c bx g L s w2 Hb2.out e5.1 (by omega) (by omega) (by omega))
    go_wp2_with (go_at_call 43; refine Hc.out.mono ?_; rintro e w3 ⟨rfl, b3, g3⟩)
    go_end0
    exact ⟨rfl, by rw [HBX.out, HF.out]; exact b3.base (by omega) hgw, grownBy_trans K2.out g3⟩
  · obtain ⟨L, hL⟩ : ∃ L, l ++ vb (4 : Int).toNat = L := ⟨_, rfl⟩
    have HF := Lib.hid (show l ++ opB ⟨4, .slice da d.length dc, t, s, y, .slice pa q.length pc, d, q⟩ = L ++ ([] : List UInt8) by rw [HOB.out, opT4 rfl, ← hL]; simp only [List.append_assoc])
    rw [hL] at hL1 Hb2
    clear HOB hL
    go_wp2_with fail
    go_end0
    exact ⟨rfl, by rw [HBX.out, HF.out, List.append_nil]; exact Hb2.out, K2.out⟩
  · obtain ⟨L, hL⟩ : ∃ L, l ++ vb (5 : Int).toNat = L := ⟨_, rfl⟩
    have HF := Lib.hid (show l ++ opB ⟨5, .slice da d.length dc, t, s, y, .slice pa q.length pc, d, q⟩ = L ++ (vb y.size ++ y.data.toList ++ vb t.toNat) by rw [HOB.out, opT5 rfl, ← hL]; simp only [List.append_assoc])
    rw [hL] at hL1 Hb2
    clear HOB hL
    have hvt := vb_ten (show t.toNat < 18446744073709551616 by omega)
    have hvy := vb_ten (show y.size < 18446744073709551616 by omega)
    have Hc := Lib.hid (wtext_c bx g L y w2 Hb2.out (by omega) (by omega) (by omega))
    go_upto_region 17 with (go_at_call 71; refine Hc.out.mono ?_; rintro e w3 ⟨rfl, b3, g3⟩)
    have A3 := A2.kept g3 (by simp; omega)
    have a3 := A3.cell
    have z3 := g3.size
    have Hb3 := Lib.hid (b3.base (B' := bx) (by omega) hgw)
    have K3 := Lib.hid (grownBy_trans K2.out g3)
    obtain ⟨M, hM⟩ : ∃ M, L ++ vb y.size ++ y.data.toList = M := ⟨_, rfl⟩
    have hL3 : M.length ≤ 30000500 := by
      have e8 : y.data.toList.length = y.size := Array.length_toList
      rw [← hM, List.length_append, List.length_append, e8]; omega
    have HF2 := Lib.hid (show l ++ opB ⟨5, .slice da d.length dc, t, s, y, .slice pa q.length pc, d, q⟩ = M ++ vb t.toNat by rw [HF.out, ← hM]; simp only [List.append_assoc])
    rw [hM] at Hb3
    clear Hc a2 A2 b3 g3 K2 Hb2 HF hM
    have Hc := Lib.hid (wnumI_c bx g M t w3 Hb3.out e4.1 (by omega) (by omega) (by omega))
    go_wp2_with (go_at_call 43; refine Hc.out.mono ?_; rintro e w4 ⟨rfl, b4, g4⟩)
    go_end0
    exact ⟨rfl, by rw [HBX.out, HF2.out]; exact b4.base (by omega) hgw, grownBy_trans K3.out g4⟩
end Go.Proofs.Ytniokdflljchgaa
