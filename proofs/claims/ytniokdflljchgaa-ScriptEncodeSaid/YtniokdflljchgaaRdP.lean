/- Numbers read from bytes: plain. -/
import Derived.Test.YtniokdflljchgaaVar
namespace Go.Proofs.Ytniokdflljchgaa
open Go.RowKit

/-- How many bytes ahead say that more follow; at most f. -/
def bigs : Nat → List UInt8 → Nat
  | 0, _ => 0
  | _, [] => 0
  | f + 1, b :: l => if 128 ≤ b.toNat then bigs f l + 1 else 0
theorem bigs_le : ∀ (f : Nat) (l : List UInt8), bigs f l ≤ f ∧ bigs f l ≤ l.length
  | 0, _ => by simp [bigs]
  | f + 1, [] => by simp [bigs]
  | f + 1, b :: l => by
    have := bigs_le f l
    simp only [bigs]
    split
    · simp; omega
    · simp
theorem bigs_lt : ∀ {f : Nat} {l : List UInt8} {i : Nat} (_ : i < bigs f l) (h : i < l.length), 128 ≤ l[i].toNat
  | 0, _, _, h, _ => by simp [bigs] at h
  | f + 1, [], _, h, _ => by simp [bigs] at h
  | f + 1, b :: l, 0, h, _ => by
    simp only [bigs] at h
    split at h
    · simpa
    · omega
  | f + 1, b :: l, i + 1, h, hl => by
    simp only [bigs] at h
    split at h
    · have := bigs_lt (f := f) (l := l) (i := i) (by omega) (by simpa using hl)
      simpa using this
    · omega
theorem bigs_at : ∀ {f : Nat} {l : List UInt8} (_ : bigs f l < f) (h : bigs f l < l.length), l[bigs f l].toNat < 128
  | 0, _, h, _ => by omega
  | f + 1, [], _, h => by simp at h
  | f + 1, b :: l, h, hl => by
    by_cases hb : 128 ≤ b.toNat
    · have e : bigs (f + 1) (b :: l) = bigs f l + 1 := by simp [bigs, hb]
      have := bigs_at (f := f) (l := l) (by omega) (by rw [e] at hl; simpa using hl)
      simpa [e] using this
    · have e : bigs (f + 1) (b :: l) = 0 := by simp [bigs, hb]
      simp only [e, List.getElem_cons_zero]; omega
/-- The number in groups of seven bits. -/
def valU : List UInt8 → Nat
  | [] => 0
  | b :: l => b.toNat % 128 + 128 * valU l
theorem valU_snoc (l : List UInt8) (b : UInt8) : valU (l ++ [b]) = valU l + b.toNat % 128 * 128 ^ l.length := by
  induction l with
  | nil => simp [valU]
  | cons a l ih =>
    simp only [List.cons_append, valU, ih, List.length_cons, Nat.pow_succ]
    rw [Nat.mul_add, Nat.add_assoc]
    congr 2
    rw [Nat.mul_comm (128 ^ l.length) 128, ← Nat.mul_assoc, ← Nat.mul_assoc, Nat.mul_comm 128]
theorem valU_lt (l : List UInt8) : valU l < 128 ^ l.length := by
  induction l with
  | nil => simp [valU]
  | cons b l ih =>
    simp only [valU, List.length_cons, Nat.pow_succ]
    have : b.toNat % 128 < 128 := Nat.mod_lt _ (by omega)
    omega
/-- The number at the beginning, how many bytes it has, the error. -/
def readF (l : List UInt8) : Nat × Nat × Int :=
  if bigs 10 l = 10 then (0, 0, 3)
  else match l[bigs 10 l]? with
    | none => (0, 0, 2)
    | some b => if (bigs 10 l = 9 ∧ 1 < b.toNat) ∨ (0 < bigs 10 l ∧ b.toNat = 0) then (0, 0, 3) else (valU (l.take (bigs 10 l + 1)), bigs 10 l + 1, 0)
theorem readF_ten {l : List UInt8} (h : bigs 10 l = 10) : readF l = (0, 0, 3) := by unfold readF; rw [if_pos h]
theorem readF_short {l : List UInt8} (h : bigs 10 l ≠ 10) (h2 : l.length = bigs 10 l) : readF l = (0, 0, 2) := by
  unfold readF; rw [if_neg h, List.getElem?_eq_none (by omega)]
theorem readF_bad {l : List UInt8} (h : bigs 10 l ≠ 10) (h2 : bigs 10 l < l.length) (h3 : (bigs 10 l = 9 ∧ 1 < l[bigs 10 l].toNat) ∨ (0 < bigs 10 l ∧ l[bigs 10 l].toNat = 0)) : readF l = (0, 0, 3) := by
  unfold readF; rw [if_neg h, List.getElem?_eq_getElem h2]; simp only; rw [if_pos h3]
theorem readF_ok {l : List UInt8} (h : bigs 10 l ≠ 10) (h2 : bigs 10 l < l.length) (h3 : ¬ ((bigs 10 l = 9 ∧ 1 < l[bigs 10 l].toNat) ∨ (0 < bigs 10 l ∧ l[bigs 10 l].toNat = 0))) : readF l = (valU (l.take (bigs 10 l + 1)), bigs 10 l + 1, 0) := by
  unfold readF; rw [if_neg h, List.getElem?_eq_getElem h2]; simp only; rw [if_neg h3]
theorem readF_used (l : List UInt8) : (readF l).2.1 ≤ l.length := by
  unfold readF
  split
  · simp
  · split
    · simp
    · rename_i b hb
      have := (List.getElem?_eq_some_iff.1 hb).1
      split <;> simp; omega
theorem readF_w (l : List UInt8) : (readF l).1 < 18446744073709551616 := by
  by_cases h : bigs 10 l = 10
  · rw [readF_ten h]; simp
  by_cases h2 : bigs 10 l < l.length
  · by_cases h3 : (bigs 10 l = 9 ∧ 1 < l[bigs 10 l].toNat) ∨ (0 < bigs 10 l ∧ l[bigs 10 l].toNat = 0)
    · rw [readF_bad h h2 h3]; simp
    · rw [readF_ok h h2 h3]
      show valU (l.take (bigs 10 l + 1)) < _
      rw [List.take_succ_eq_append_getElem h2, valU_snoc]
      have hb := bigs_le 10 l
      have hb9 : bigs 10 l = 9 → l[bigs 10 l].toNat ≤ 1 := fun h9 => Nat.le_of_not_lt fun hc => h3 (.inl ⟨h9, hc⟩)
      clear h3
      have hv := valU_lt (l.take (bigs 10 l))
      have hl : (l.take (bigs 10 l)).length = bigs 10 l := by rw [List.length_take]; omega
      rw [hl] at hv ⊢
      generalize l[bigs 10 l] = b at *
      generalize valU (l.take (bigs 10 l)) = V at *
      have hbl : b.toNat % 128 < 128 := Nat.mod_lt _ (by omega)
      generalize bigs 10 l = m at *
      by_cases h9 : m = 9
      · have hb1 := hb9 h9
        subst h9
        have e : (128 : Nat) ^ 9 = 9223372036854775808 := by decide
        rw [Nat.mod_eq_of_lt (show b.toNat < 128 by omega)]
        rw [e] at hv ⊢
        omega
      · have hp : 128 ^ m ≤ 128 ^ 8 := Nat.pow_le_pow_right (by omega) (by omega)
        have e : (128 : Nat) ^ 8 = 72057594037927936 := by decide
        have hq : b.toNat % 128 * 128 ^ m ≤ 127 * 128 ^ 8 := Nat.mul_le_mul (by omega) hp
        rw [e] at hp hq
        omega
  · rw [readF_short h (by have := bigs_le 10 l; omega)]; simp
end Go.Proofs.Ytniokdflljchgaa
