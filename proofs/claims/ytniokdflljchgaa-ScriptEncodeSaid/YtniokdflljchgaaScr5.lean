/- The bytes of operations: the program's Encode. -/
import Derived.Test.YtniokdflljchgaaScr4
namespace Go.Proofs.Ytniokdflljchgaa
open Go.RowKit Go.Sort

def EncOP (l : List OpR) (w : World) (e : Ending) (w' : World) : Prop := ∃ v, e = .returned (.tuple #[v, .int .i64 (encE l)]) ∧ Own byF 1 5 w.heap.size w' v (encO l) ∧ w.grownBy w' none
theorem encOP_no {l : List OpR} {w w' : World} {E : Int} (h : encE l = E) (h0 : E ≠ 0) (hg : w.grownBy w' none) : EncOP l w (.returned (.tuple #[.slice none 0 0, .int .i64 E])) w' :=
  ⟨_, by rw [h], by unfold encO; rw [if_neg (by omega)]; exact Own.nil _ _ _ _ _, hg⟩
theorem blk_lt {α : Type} {f : α → List Value} {s : Nat} {w : World} {a : Option Addr} {n c : Nat} {l : List α} (h : RdL f s w (.slice a n c) l) : ∀ ad, a = some ad → 0 < l.length → ad.block < w.heap.size :=
  fun ad e h0 => by subst e; exact Rd.blockLt h h0 _ _ _ rfl
theorem oneCell_sl (a : Option Addr) (n c : Nat) : (Value.slice a n c).oneCell' = true := rfl

set_option maxHeartbeats 2000000 in
set_option maxRecDepth 100000 in
theorem enc_c (v : Value) (l : List OpR) (w : World) (h : OpsRd w v l) (hW : ∀ o ∈ l, o.key.size ≤ 9223372036854775807) : Calls Try.prog 13 #[v] w (EncOP l w) := by
  obtain ⟨a, c, rfl⟩ := h.rd.shape
  have hm := h.rd.2.1
  have H := Lib.hid h
  have HW := Lib.hid hW
  clear h hW
  by_cases hl : 4096 < l.length
  · have HE := Lib.hid (show encE l = 4 from if_pos hl)
    have hl2 : (4096 : Int) < (l.length : Int) := by omega
    go_enter Try.func13, Try.ntmps13
    go_wp2_with fail
    go_ret2
    exact encOP_no HE.out (by decide) (grownBy_refl _ _)
  have HE := Lib.hid (show encE l = opsE l from if_neg hl)
  have hl2 : (l.length : Int) ≤ 4096 := by omega
  have B1 := Blk.new w #[.slice none 0 0] 73
  have G1 := World.grownBy_alloc w (.cells #[.slice none 0 0] 73) none
  have z1 : (w.alloc (.cells #[.slice none 0 0] 73)).heap.size = w.heap.size + 1 := by simp
  go_enter Try.func13, Try.ntmps13
  go_upto_region 4 with fail
  generalize w.alloc (.cells #[.slice none 0 0] 73) = w1 at *
  obtain ⟨g, hg⟩ : ∃ g, w.heap.size = g := ⟨_, rfl⟩
  rw [hg] at B1 z1
  have HG := Lib.hid hg
  rw [hg]
  clear hg
  have hb1 : BufAt (g + 1) w1 g [] := ⟨⟨_, B1, Own.nil _ _ _ _ _⟩, by omega⟩
  have Hc := Lib.hid (wnum_c (g + 1) g [] l.length w1 hb1 (by omega) (by simp) (by omega))
  clear B1 hb1
  go_upto_region 5 with (go_at_call 43; refine Hc.out.mono ?_; rintro e w2 ⟨rfl, b2, g2⟩)
  have Hb := Lib.hid (b2.base (B' := g + 1) (by omega) (by omega))
  have K2 := Lib.hid (grownBy_new G1 g2 (by rw [HG.out]; exact Nat.le_refl _))
  have hz2 := g2.size
  clear Hc G1 b2 g2
  rw [List.nil_append] at Hb
  have hvl := vb_ten (show l.length < 18446744073709551616 by omega)
  go_wp2_with fail
  go_loopw [16, 19, 6, 20, 21, 7, 22, 23, 24, 25, 26] (fun s16 _ _ _ _ _ _ _ _ _ _ wk => ∃ i : Nat, i ≤ l.length ∧ s16 = .int .i64 i ∧ (∀ o ∈ l.take i, opE o = 0) ∧ BufAt (g + 1) wk g (vb l.length ++ opsB (l.take i)) ∧ w.grownBy wk none ∧ g + 1 ≤ wk.heap.size) (fun s16 _ _ _ _ _ _ _ _ _ _ _ => l.length - (intOf s16).toNat)
  case atStart => exact ⟨0, Nat.zero_le _, rfl, by simp, by simpa [opsB] using Hb.out, K2.out, by omega⟩
  case round =>
    clear Hb K2
    obtain ⟨i, hi, rfl, hall, hb, hg, hz⟩ := hrel
    have Hall := Lib.hid hall
    have HGr := Lib.hid hg
    by_cases hlt : i < l.length
    · obtain ⟨gv, off, cap, hv, hgl, hc⟩ := (H.out.rd.same hg).at_ opF_len hlt
      cases hv
      have ho := H.out.all _ (List.getElem_mem hlt)
      have hk := HW.out _ (List.getElem_mem hlt)
      have HS := Lib.hid (show vb l.length ++ opsB (l.take (i + 1)) = vb l.length ++ opsB (l.take i) ++ opB l[i] by rw [List.take_succ_eq_append_getElem hlt, opsB_snoc, List.append_assoc])
      have HN := Lib.hid (show opE l[i] = 0 → ∀ o ∈ l.take (i + 1), opE o = 0 from fun h o ho => by
        rw [List.take_succ_eq_append_getElem hlt] at ho
        rcases List.mem_append.1 ho with ho | ho
        · exact Hall.out o ho
        · rw [List.mem_singleton.1 ho]; exact h)
      have HF := Lib.hid (show opE l[i] ≠ 0 → encE l = opE l[i] from fun h => by
        rw [HE.out]
        exact opsE_at hlt (fun j hj hji => Hall.out _ (List.mem_iff_getElem.2 ⟨j, by rw [List.length_take]; omega, by rw [List.getElem_take]⟩)) h)
      have hlen := opsB_len hall
      have hll : (vb l.length ++ opsB (l.take i)).length ≤ 20000000 := by
        rw [List.length_take] at hlen
        rw [List.length_append]; omega
      obtain ⟨M, hM⟩ : ∃ M, vb l.length ++ opsB (l.take i) = M := ⟨_, rfl⟩
      rw [hM] at hb hll HS
      have HB := Lib.hid hb
      have hor := ho.same hg
      have HO := Lib.hid ho
      have Hor := Lib.hid hor
      have Hc := Lib.hid hc
      clear hM hlen hall ho hor hc hg hb Hall
      generalize l[i] = o at *
      have HC1 := Lib.hid fun w' (h : World.grownBy wr w' none) => check_c o w' (Hor.out.same h) hk
      obtain ⟨k, vd, t, s, y, vp, d, q⟩ := o
      obtain ⟨da, dc, e1⟩ := HO.out.data.shape
      obtain ⟨pa, pc, e2⟩ := HO.out.picks.shape
      dsimp only at *
      subst e1 e2
      have HC2 := Lib.hid fun w' (h : World.grownBy wr w' none) (hE : opE ⟨k, .slice da d.length dc, t, s, y, .slice pa q.length pc, d, q⟩ = 0) => wop_c (g + 1) g g M k t s y da pa dc pc d q w' (HB.out.same h) hll (Nat.le_trans hz h.size) (Hor.out.data.same h) (Hor.out.picks.same h) (HG.out ▸ blk_lt HO.out.data) (HG.out ▸ blk_lt HO.out.picks) (Nat.le_refl _) (op_ok hE)
      by_cases hE : opE ⟨k, .slice da d.length dc, t, s, y, .slice pa q.length pc, d, q⟩ = 0
      · have HC3 := Lib.hid fun w' h => HC2.out w' h hE
        have HN2 := Lib.hid (HN.out hE)
        rw [hE] at HC1
        clear HC2 HN HF hE
        generalize opB ⟨k, .slice da d.length dc, t, s, y, .slice pa q.length pc, d, q⟩ = OB at *
        go_wp2_with (first
          | (refine load_op_at rfl _ rfl _ _ rfl Hc.out ?_)
          | (refine alloc_op rfl rfl ?_; intro wa Aa ga za)
          | (refine store_op rfl _ _ rfl _ rfl rfl rfl rfl _ rfl Aa ?_; intro wb Ab gb; have Kb := grownBy_new ga gb (Nat.le_refl _))
          | (refine load_op rfl _ rfl _ rfl Ab ?_)
          | (go_at_call 44; refine (HC1.out _ Kb).mono ?_; rintro e wc ⟨rfl, gc⟩; have Ac := Ab.same gc; have Kc := grownBy_trans Kb gc)
          | (refine load_op rfl _ rfl _ rfl Ac ?_)
          | (go_at_call 45; refine (HC3.out _ Kc).mono ?_; rintro e wd ⟨rfl, bd, gd⟩))
        have z3 := Kc.size
        have z4 := gd.size
        exact ⟨⟨i + 1, by omega, by go_num, HN2.out, by rw [HS.out]; exact bd.base (by omega) (by omega), grownBy_new (grownBy_trans HGr.out Kc) gd (by rw [HG.out]; exact Nat.le_refl _), by omega⟩, by simp [intOf]; omega⟩
      · have HF2 := Lib.hid (HF.out hE)
        have HE0 := Lib.hid hE
        generalize opE ⟨k, .slice da d.length dc, t, s, y, .slice pa q.length pc, d, q⟩ = EE at *
        have hE2 : (EE != 0) = true := by simpa using hE
        have hE3 : (EE == 0) = false := by simpa using hE
        clear HC2 HN HF hE
        go_wp2_with (first
          | (refine load_op_at rfl _ rfl _ _ rfl Hc.out ?_)
          | (refine alloc_op rfl rfl ?_; intro wa Aa ga za)
          | (refine store_op rfl _ _ rfl _ rfl rfl rfl rfl _ rfl Aa ?_; intro wb Ab gb; have Kb := grownBy_new ga gb (Nat.le_refl _))
          | (refine load_op rfl _ rfl _ rfl Ab ?_)
          | (go_at_call 44; refine (HC1.out _ Kb).mono ?_; rintro e wc ⟨rfl, gc⟩; have Ac := Ab.same gc; have Kc := grownBy_trans Kb gc))
        go_ret2
        exact encOP_no HF2.out HE0.out (grownBy_trans HGr.out Kc)
    · have e : l.take i = l := List.take_of_length_le (by omega)
      rw [e] at hb hall
      have HF := Lib.hid (show encE l = 0 by rw [HE.out]; exact opsE_no hall)
      have HF2 := Lib.hid (show vb l.length ++ opsB l = encO l by unfold encO; rw [if_pos HF.out])
      rw [HF2.out] at hb
      obtain ⟨v, h1, h2⟩ := hb.ex
      obtain ⟨va, vc, rfl⟩ := h2.shape
      have hc := h1.cell
      have HO := Lib.hid h2
      clear hb hall e h1 h2
      go_wp2_with fail
      go_ret2
      exact ⟨_, by rw [HF.out]; rfl, HO.out.base (fun k hk => by have := (HO.out.lt k hk).1; have := HG.out; omega), HGr.out⟩
end Go.Proofs.Ytniokdflljchgaa
