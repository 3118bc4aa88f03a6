/- Numbers that were written are read as they were; what is read was written so: plain. -/
import Derived.Test.YtniokdflljchgaaRdP
namespace Go.Proofs.Ytniokdflljchgaa
open Go.RowKit

theorem bigs_split : ∀ (f : Nat) (p : List UInt8) (b : UInt8) (r : List UInt8), p.length < f → (∀ x ∈ p, 128 ≤ x.toNat) → b.toNat < 128 → bigs f (p ++ b :: r) = p.length
  | 0, _, _, _, h, _, _ => by omega
  | f + 1, [], b, r, _, _, hb => by simp [bigs]; omega
  | f + 1, x :: p, b, r, h, hp, hb => by
    have ih := bigs_split f p b r (by simpa using h) (fun y hy => hp y (by simp [hy])) hb
    have hx := hp x (by simp)
    simp [bigs, hx, ih]
theorem readF_split {p : List UInt8} {b : UInt8} (r : List UInt8) (h1 : ∀ x ∈ p, 128 ≤ x.toNat) (h2 : b.toNat < 128) (h3 : p.length ≤ 9) (h4 : p.length = 9 → b.toNat ≤ 1) (h5 : 0 < p.length → b.toNat ≠ 0) :
    readF (p ++ b :: r) = (valU (p ++ [b]), p.length + 1, 0) := by
  have hb := bigs_split 10 p b r (by omega) h1 h2
  have hl : bigs 10 (p ++ b :: r) < (p ++ b :: r).length := by rw [hb]; simp
  have hg : (p ++ b :: r)[bigs 10 (p ++ b :: r)] = b := by simp [hb]
  rw [readF_ok (by omega) hl (by rw [hg, hb]; omega), hb]
  have : (p ++ b :: r).take (p.length + 1) = p ++ [b] := by
    rw [List.take_append]; simp [List.take_of_length_le]
  rw [this]
theorem readF_parts {l : List UInt8} (h : (readF l).2.2 = 0) : ∃ p b r, l = p ++ b :: r ∧ (∀ x ∈ p, 128 ≤ x.toNat) ∧ b.toNat < 128 ∧ (0 < p.length → b.toNat ≠ 0) ∧ readF l = (valU (p ++ [b]), p.length + 1, 0) := by
  have hle := bigs_le 10 l
  by_cases h1 : bigs 10 l = 10
  · rw [readF_ten h1] at h; cases h
  by_cases h2 : bigs 10 l < l.length
  · by_cases h3 : (bigs 10 l = 9 ∧ 1 < l[bigs 10 l].toNat) ∨ (0 < bigs 10 l ∧ l[bigs 10 l].toNat = 0)
    · rw [readF_bad h1 h2 h3] at h; cases h
    · have hl : (l.take (bigs 10 l)).length = bigs 10 l := by rw [List.length_take]; omega
      refine ⟨l.take (bigs 10 l), l[bigs 10 l], l.drop (bigs 10 l + 1), ?_, ?_, bigs_at (by omega) h2, ?_, ?_⟩
      · rw [List.getElem_cons_drop, List.take_append_drop]
      · intro x hx
        obtain ⟨i, hi, rfl⟩ := List.mem_iff_getElem.1 hx
        rw [List.getElem_take]
        rw [hl] at hi
        exact bigs_lt hi _
      · rw [hl]; intro h0 h4; exact h3 (.inr ⟨h0, h4⟩)
      · rw [readF_ok h1 h2 h3, hl, List.take_succ_eq_append_getElem h2]
  · rw [readF_short h1 (by omega)] at h; cases h
theorem vb_pos (n : Nat) : 1 ≤ (vb n).length := by
  by_cases h : n < 128
  · rw [vb_small h]; simp
  · rw [vb_big h]; simp
theorem vb_parts (n : Nat) : ∃ p b, vb n = p ++ [b] ∧ (∀ x ∈ p, 128 ≤ x.toNat) ∧ b.toNat < 128 ∧ (0 < n → b.toNat ≠ 0) ∧ (0 < p.length → 0 < n) ∧ valU (p ++ [b]) = n := by
  induction n using Nat.strongRecOn with
  | _ n ih =>
    by_cases h : n < 128
    · have hn : (UInt8.ofNat n).toNat = n := by rw [UInt8.toNat_ofNat']; omega
      refine ⟨[], UInt8.ofNat n, by rw [vb_small h]; rfl, by simp, by omega, by omega, by simp, ?_⟩
      simp only [List.nil_append, valU]; omega
    · obtain ⟨p, b, e, h1, h2, h3, h4, h5⟩ := ih (n / 128) (by omega)
      have hn : (UInt8.ofNat (n % 128 + 128)).toNat = n % 128 + 128 := by rw [UInt8.toNat_ofNat']; omega
      refine ⟨UInt8.ofNat (n % 128 + 128) :: p, b, by rw [vb_big h, e]; rfl, ?_, h2, fun _ => h3 (by omega), fun _ => by omega, ?_⟩
      · intro x hx
        rcases List.mem_cons.1 hx with rfl | hx
        · omega
        · exact h1 x hx
      · simp only [List.cons_append, valU, h5, hn]; omega
theorem vb_valU : ∀ (p : List UInt8) (b : UInt8), (∀ x ∈ p, 128 ≤ x.toNat) → b.toNat < 128 → (0 < p.length → b.toNat ≠ 0) → vb (valU (p ++ [b])) = p ++ [b]
  | [], b, _, h2, _ => by
    have e : valU ([] ++ [b]) = b.toNat := by simp only [List.nil_append, valU]; omega
    rw [e, vb_small h2]
    simp
  | x :: p, b, h1, h2, h3 => by
    have hb := h3 (by simp)
    have ih := vb_valU p b (fun y hy => h1 y (by simp [hy])) h2 fun _ => hb
    have hx := h1 x (by simp)
    have hxl := x.toNat_lt
    have hpos : 0 < valU (p ++ [b]) := by
      rw [valU_snoc]
      have : 0 < b.toNat % 128 * 128 ^ p.length := Nat.mul_pos (by omega) (Nat.pow_pos (by omega))
      omega
    simp only [List.cons_append, valU]
    have e1 : (x.toNat % 128 + 128 * valU (p ++ [b])) / 128 = valU (p ++ [b]) := by omega
    have e2 : (x.toNat % 128 + 128 * valU (p ++ [b])) % 128 + 128 = x.toNat := by omega
    rw [vb_big (by omega), e1, e2, ih]
    simp
theorem readF_vb {n : Nat} (h : n < 18446744073709551616) (r : List UInt8) : readF (vb n ++ r) = (n, (vb n).length, 0) := by
  obtain ⟨p, b, e, h1, h2, h3, h4, h5⟩ := vb_parts n
  have ht := vb_ten h
  rw [e] at ht ⊢
  rw [List.length_append, List.length_singleton] at ht ⊢
  rw [List.append_assoc, List.singleton_append, readF_split r h1 h2 (by omega) ?_ fun hp => h3 (h4 hp), h5]
  intro h9
  rw [← h5, valU_snoc, h9] at h
  have e : (128 : Nat) ^ 9 = 9223372036854775808 := by decide
  rw [e] at h
  omega
theorem readF_back {l : List UInt8} (h : (readF l).2.2 = 0) : l = vb (readF l).1 ++ l.drop (readF l).2.1 := by
  obtain ⟨p, b, r, e, h1, h2, h3, h4⟩ := readF_parts h
  rw [h4]
  simp only
  rw [vb_valU p b h1 h2 h3, e, show p ++ b :: r = (p ++ [b]) ++ r by simp, List.drop_left' (by simp)]

/-- A number that is at most most: what it is, what is left, the first error. -/
def numF (most : Nat) (over : Int) (l : List UInt8) (e : Int) : Nat × List UInt8 × Int :=
  if e ≠ 0 then (0, l, e)
  else if (readF l).2.2 ≠ 0 then (0, l, (readF l).2.2)
  else if most < (readF l).1 then (0, l.drop (readF l).2.1, over)
  else ((readF l).1, l.drop (readF l).2.1, 0)
/-- A number of any size. -/
abbrev weiF (l : List UInt8) (e : Int) : Nat × List UInt8 × Int := numF 18446744073709551615 1 l e
theorem readF_err (l : List UInt8) (h : (readF l).2.2 ≠ 0) : (readF l).1 = 0 ∧ (readF l).2.1 = 0 ∧ ((readF l).2.2 = 2 ∨ (readF l).2.2 = 3) := by
  by_cases h1 : bigs 10 l = 10
  · rw [readF_ten h1]; simp
  by_cases h2 : bigs 10 l < l.length
  · by_cases h3 : (bigs 10 l = 9 ∧ 1 < l[bigs 10 l].toNat) ∨ (0 < bigs 10 l ∧ l[bigs 10 l].toNat = 0)
    · rw [readF_bad h1 h2 h3]; simp
    · rw [readF_ok h1 h2 h3] at h; simp at h
  · rw [readF_short h1 (by have := bigs_le 10 l; omega)]; simp
theorem numF_e {most : Nat} {over : Int} {l : List UInt8} {e : Int} (h : e ≠ 0) : numF most over l e = (0, l, e) := if_pos h
theorem numF_w {most : Nat} {over : Int} {l : List UInt8} {e : Int} : (numF most over l e).1 < 18446744073709551616 ∧ (numF most over l e).1 ≤ most := by
  have := readF_w l
  unfold numF
  split
  · simp
  · split
    · simp
    · split
      · simp
      · simp; omega
theorem numF_vb {most n : Nat} {over : Int} (h : n ≤ most) (hn : n < 18446744073709551616) (r : List UInt8) : numF most over (vb n ++ r) 0 = (n, r, 0) := by
  unfold numF
  rw [readF_vb hn]
  simp only [List.drop_left]
  rw [if_neg (by simp), if_neg (by simp), if_neg (by omega)]
theorem numF_back {most : Nat} {over : Int} (ho : over ≠ 0) {l : List UInt8} {e : Int} (h : (numF most over l e).2.2 = 0) : e = 0 ∧ l = vb (numF most over l e).1 ++ (numF most over l e).2.1 := by
  unfold numF at h ⊢
  by_cases h1 : e ≠ 0
  · rw [if_pos h1] at h; exact absurd h h1
  rw [if_neg h1] at h ⊢
  refine ⟨by omega, ?_⟩
  by_cases h2 : (readF l).2.2 ≠ 0
  · rw [if_pos h2] at h; exact absurd h h2
  rw [if_neg h2] at h ⊢
  by_cases h3 : most < (readF l).1
  · rw [if_pos h3] at h; exact absurd h ho
  rw [if_neg h3]
  exact readF_back (by omega)
theorem numF_len {most : Nat} {over : Int} {l : List UInt8} {e : Int} : (numF most over l e).2.1.length ≤ l.length := by
  unfold numF
  split
  · exact Nat.le_refl _
  · split
    · exact Nat.le_refl _
    · split <;> simp
end Go.Proofs.Ytniokdflljchgaa
