/- Lists that are compared. -/
import Derived.Test.YtniokdflljchgaaSl
import Derived.Test.YtniokdflljchgaaRet
namespace Go.Proofs.Ytniokdflljchgaa
open Go.RowKit

set_option maxHeartbeats 400000 in
theorem sameInts_c (v v' : Value) (l l' : List Int) (w : World) (h : RdL intF 1 w v l) (h' : RdL intF 1 w v' l') : Calls Try.prog 34 #[v, v'] w (RetBool (decide (l = l')) w) := by
  obtain ⟨a, c, rfl⟩ := h.shape
  obtain ⟨a', c', rfl⟩ := h'.shape
  have hm := h.2.1
  have H := Lib.hid h
  have H' := Lib.hid h'
  clear h h'
  by_cases hl : l.length = l'.length
  · have hne : ((l.length : Int) != (l'.length : Int)) = false := by rw [hl]; simp
    have Hl := Lib.hid hl
    have hle : l'.length ≤ l.length := by omega
    have hle2 : l.length ≤ l'.length := by omega
    clear hl
    go_enter Try.func34, Try.ntmps34
    go_wp2_with fail
    go_loopw [13] (fun s13 wr => ∃ k : Nat, k ≤ l.length ∧ s13 = .int .i64 k ∧ l.take k = l'.take k ∧ w.grownBy wr none) (fun s13 _ => l.length - (intOf s13).toNat)
    case atStart => exact ⟨0, Nat.zero_le _, rfl, by simp, grownBy_refl _ _⟩
    case round =>
      obtain ⟨k, hk, rfl, htk, hg⟩ := hrel
      have Htk := Lib.hid htk
      clear htk
      by_cases hlt : k < l.length
      · have hlt' : k < l'.length := by omega
        obtain ⟨g, off, cap, hv, hgl, hc⟩ := (H.out.same hg).one int_one hlt
        obtain ⟨g', off', cap', hv', hgl', hc'⟩ := (H'.out.same hg).one int_one hlt'
        cases hv
        cases hv'
        have HS := Lib.hid (List.take_succ_eq_append_getElem hlt)
        have HS' := Lib.hid (List.take_succ_eq_append_getElem hlt')
        have hx : (l.getD k 0) = l[k] := by simp [List.getD_eq_getElem?_getD, List.getElem?_eq_getElem hlt]
        have hx' : (l'.getD k 0) = l'[k] := by simp [List.getD_eq_getElem?_getD, List.getElem?_eq_getElem hlt']
        have Hx := Lib.hid (p := l = l' → l[k] = l'[k]) (fun e => by subst e; rfl)
        clear hx hx'
        generalize l[k] = x at *
        generalize l'[k] = x' at *
        have hk0 : (0 : Int) ≤ (k : Int) := by omega
        have hk1 : (k : Int) < (l.length : Int) := by omega
        have hk2 : (k : Int) < (l'.length : Int) := by omega
        by_cases he : x = x'
        · have hb : (x != x') = false := by rw [he]; simp
          have He := Lib.hid he
          clear he
          go_wp2_with fail
          go_quiet (fail)
          go_wp2_with fail
          exact ⟨⟨k + 1, by omega, by go_num, by rw [HS.out, HS'.out, Htk.out, He.out], grownBy_drewN hg _⟩, by simp [intOf]; omega⟩
        · have hb : (x != x') = true := by simp [he]
          have Hd := Lib.hid (p := decide (l = l') = false) (decide_eq_false fun e => he (Hx.out e))
          clear he
          go_wp2_with fail
          go_quiet (fail)
          go_wp2_with fail
          go_ret
          exact retBool Hd.out (grownBy_drewN hg _)
      · have hd : decide (l = l') = true := decide_eq_true (by have h1 := Htk.out; have h2 := Hl.out; rw [List.take_of_length_le (by omega), List.take_of_length_le (by omega)] at h1; exact h1)
        have Hd := Lib.hid hd
        clear hd
        go_wp2_with fail
        go_ret
        exact retBool Hd.out hg
  · have hd : decide (l = l') = false := decide_eq_false fun e => hl (by rw [e])
    have Hd := Lib.hid hd
    have hne : ((l.length : Int) != (l'.length : Int)) = true := by simp; omega
    clear hd
    go_enter Try.func34, Try.ntmps34
    go_wp2_with fail
    go_ret
    exact retBool Hd.out (grownBy_refl _ _)

set_option maxHeartbeats 400000 in
theorem sameWords_c (v v' : Value) (l l' : List Int) (w : World) (h : RdL wordF 1 w v l) (h' : RdL wordF 1 w v' l') : Calls Try.prog 38 #[v, v'] w (RetBool (decide (l = l')) w) := by
  obtain ⟨a, c, rfl⟩ := h.shape
  obtain ⟨a', c', rfl⟩ := h'.shape
  have hm := h.2.1
  have H := Lib.hid h
  have H' := Lib.hid h'
  clear h h'
  by_cases hl : l.length = l'.length
  · have hne : ((l.length : Int) != (l'.length : Int)) = false := by rw [hl]; simp
    have Hl := Lib.hid hl
    have hle : l'.length ≤ l.length := by omega
    have hle2 : l.length ≤ l'.length := by omega
    clear hl
    go_enter Try.func38, Try.ntmps38
    go_wp2_with fail
    go_loopw [13] (fun s13 wr => ∃ k : Nat, k ≤ l.length ∧ s13 = .int .i64 k ∧ l.take k = l'.take k ∧ w.grownBy wr none) (fun s13 _ => l.length - (intOf s13).toNat)
    case atStart => exact ⟨0, Nat.zero_le _, rfl, by simp, grownBy_refl _ _⟩
    case round =>
      obtain ⟨k, hk, rfl, htk, hg⟩ := hrel
      have Htk := Lib.hid htk
      clear htk
      by_cases hlt : k < l.length
      · have hlt' : k < l'.length := by omega
        obtain ⟨g, off, cap, hv, hgl, hc⟩ := (H.out.same hg).one word_one hlt
        obtain ⟨g', off', cap', hv', hgl', hc'⟩ := (H'.out.same hg).one word_one hlt'
        cases hv
        cases hv'
        have HS := Lib.hid (List.take_succ_eq_append_getElem hlt)
        have HS' := Lib.hid (List.take_succ_eq_append_getElem hlt')
        have hx : (l.getD k 0) = l[k] := by simp [List.getD_eq_getElem?_getD, List.getElem?_eq_getElem hlt]
        have hx' : (l'.getD k 0) = l'[k] := by simp [List.getD_eq_getElem?_getD, List.getElem?_eq_getElem hlt']
        have Hx := Lib.hid (p := l = l' → l[k] = l'[k]) (fun e => by subst e; rfl)
        clear hx hx'
        generalize l[k] = x at *
        generalize l'[k] = x' at *
        have hk0 : (0 : Int) ≤ (k : Int) := by omega
        have hk1 : (k : Int) < (l.length : Int) := by omega
        have hk2 : (k : Int) < (l'.length : Int) := by omega
        by_cases he : x = x'
        · have hb : (x != x') = false := by rw [he]; simp
          have He := Lib.hid he
          clear he
          go_wp2_with fail
          go_quiet (fail)
          go_wp2_with fail
          exact ⟨⟨k + 1, by omega, by go_num, by rw [HS.out, HS'.out, Htk.out, He.out], grownBy_drewN hg _⟩, by simp [intOf]; omega⟩
        · have hb : (x != x') = true := by simp [he]
          have Hd := Lib.hid (p := decide (l = l') = false) (decide_eq_false fun e => he (Hx.out e))
          clear he
          go_wp2_with fail
          go_quiet (fail)
          go_wp2_with fail
          go_ret
          exact retBool Hd.out (grownBy_drewN hg _)
      · have hd : decide (l = l') = true := decide_eq_true (by have h1 := Htk.out; have h2 := Hl.out; rw [List.take_of_length_le (by omega), List.take_of_length_le (by omega)] at h1; exact h1)
        have Hd := Lib.hid hd
        clear hd
        go_wp2_with fail
        go_ret
        exact retBool Hd.out hg
  · have hd : decide (l = l') = false := decide_eq_false fun e => hl (by rw [e])
    have Hd := Lib.hid hd
    have hne : ((l.length : Int) != (l'.length : Int)) = true := by simp; omega
    clear hd
    go_enter Try.func38, Try.ntmps38
    go_wp2_with fail
    go_ret
    exact retBool Hd.out (grownBy_refl _ _)
end Go.Proofs.Ytniokdflljchgaa
