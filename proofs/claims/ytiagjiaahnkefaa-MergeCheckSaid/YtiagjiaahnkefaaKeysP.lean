/- The keys of summaries: plain laws on sorted lists of texts. -/
import Derived.Test.YtiagjiaahnkefaaSum
import Derived.Test.YtiagjiaahnkefaaShelf
import Derived.Sort.Walk0
import Derived.Lib.SlicesCompact
namespace Go.Proofs.Ytiagjiaahnkefaa
open Go.RowKit

abbrev Bytes := List UInt8
theorem b_irrefl (a : Bytes) : ¬ a < a := List.lt_irrefl a
theorem b_trans {a b c : Bytes} (h : a < b) (h' : b < c) : a < c := List.lt_trans h h'
theorem b_le {a b : Bytes} : a ≤ b ↔ ¬ b < a := List.not_lt.symm
theorem b_anti {a b : Bytes} (h : a ≤ b) (h' : b ≤ a) : a = b := List.le_antisymm h h'
theorem b_total (a b : Bytes) : a ≤ b ∨ b ≤ a := List.le_total a b
theorem b_lt {a b : Bytes} (h : a ≤ b) (hne : a ≠ b) : a < b := by
  rcases Decidable.em (a < b) with h1 | h1
  · exact h1
  · exact absurd (b_anti h (b_le.2 h1)) hne
theorem b_le_trans {a b c : Bytes} (h : a ≤ b) (h' : b ≤ c) : a ≤ c := List.le_trans h h'
theorem b_lt_le {a b c : Bytes} (h : a < b) (h' : b ≤ c) : a < c := by
  rcases Decidable.em (b = c) with e | e
  · exact e ▸ h
  · exact b_trans h (b_lt h' e)
theorem b_le_lt {a b c : Bytes} (h : a ≤ b) (h' : b < c) : a < c := by
  rcases Decidable.em (a = b) with e | e
  · exact e ▸ h'
  · exact b_trans (b_lt h e) h'
theorem b_of_lt {a b : Bytes} (h : a < b) : a ≤ b := b_le.2 fun h' => b_irrefl _ (b_trans h h')

/-- Strictly ascending lists with the same elements are one list. -/
theorem asc_unique : ∀ {l l' : List Bytes}, l.Pairwise (· < ·) → l'.Pairwise (· < ·) → (∀ x, x ∈ l ↔ x ∈ l') → l = l'
  | [], [], _, _, _ => rfl
  | [], b :: _, _, _, h => by have := (h b).2 (by simp); simp at this
  | a :: _, [], _, _, h => by have := (h a).1 (by simp); simp at this
  | a :: l, b :: l', h1, h2, h => by
    obtain ⟨h3, h4⟩ := List.pairwise_cons.1 h1
    obtain ⟨h5, h6⟩ := List.pairwise_cons.1 h2
    have hab : a = b := by
      rcases List.mem_cons.1 ((h a).1 (by simp)) with e | e
      · exact e
      · rcases List.mem_cons.1 ((h b).2 (by simp)) with e' | e'
        · exact e'.symm
        · exact absurd (b_trans (h3 b e') (h5 a e)) (b_irrefl _)
    subst hab
    congr 1
    refine asc_unique h4 h6 fun x => ?_
    have hx := h x
    simp only [List.mem_cons] at hx
    constructor
    · intro hm
      rcases hx.1 (.inr hm) with e | e
      · subst e; exact absurd (h3 x hm) (b_irrefl _)
      · exact e
    · intro hm
      rcases hx.2 (.inr hm) with e | e
      · subst e; exact absurd (h5 x hm) (b_irrefl _)
      · exact e

open Go.Lib in
theorem compact_asc (d : Array Bytes) (hs : ∀ i j, i < j → j < d.size → d[i]! ≤ d[j]!) : ∀ m, m ≤ d.size →
    (compactUpTo d m).Pairwise (· < ·) ∧ (∀ x ∈ compactUpTo d m, ∃ j, j < m ∧ x = d[j]!) ∧ ∀ j, j < m → d[j]! ∈ compactUpTo d m
  | 0, _ => ⟨by simp [compactUpTo], by simp [compactUpTo], by omega⟩
  | m + 1, hm => by
    obtain ⟨h1, h2, h3⟩ := compact_asc d hs m (by omega)
    rw [compactUpTo_succ]
    by_cases hk : keeps d m = true
    · rw [if_pos hk]
      refine ⟨List.pairwise_append.2 ⟨h1, by simp, fun x hx y hy => ?_⟩, fun x hx => ?_, fun j hj => ?_⟩
      · obtain rfl := List.mem_singleton.1 hy
        obtain ⟨j, hj, rfl⟩ := h2 x hx
        have hne : d[m]! ≠ d[m - 1]! := by
          simp only [keeps, decide_eq_true_eq] at hk
          rcases hk with e | e
          · omega
          · exact e
        rcases Nat.lt_or_ge j (m - 1) with h4 | h4
        · exact b_le_lt (hs j (m - 1) h4 (by omega)) (b_lt (hs (m - 1) m (by omega) (by omega)) (Ne.symm hne))
        · obtain rfl : j = m - 1 := by omega
          exact b_lt (hs (m - 1) m (by omega) (by omega)) (Ne.symm hne)
      · rcases List.mem_append.1 hx with hx | hx
        · obtain ⟨j, hj, e⟩ := h2 x hx; exact ⟨j, by omega, e⟩
        · exact ⟨m, by omega, List.mem_singleton.1 hx⟩
      · rcases Nat.lt_or_ge j m with h4 | h4
        · exact List.mem_append_left _ (h3 j h4)
        · obtain rfl : j = m := by omega
          exact List.mem_append_right _ (by simp)
    · rw [if_neg hk, List.append_nil]
      refine ⟨h1, fun x hx => ?_, fun j hj => ?_⟩
      · obtain ⟨j, hj, e⟩ := h2 x hx; exact ⟨j, by omega, e⟩
      · rcases Nat.lt_or_ge j m with h4 | h4
        · exact h3 j h4
        · obtain rfl : j = m := by omega
          have he : d[j]! = d[j - 1]! ∧ 0 < j := by
            simp only [keeps, decide_eq_true_eq, not_or, Decidable.not_not] at hk
            exact ⟨hk.2, Nat.pos_of_ne_zero hk.1⟩
          rw [he.1]
          exact h3 (j - 1) (by omega)

def keysL (l : List Summ) : List Bytes := l.flatMap fun s => s.es.map fun e => e.key.data.toList
def sortL (L : List Bytes) : List Bytes := L.mergeSort fun x y => decide (x ≤ y)
def ascF (L : List Bytes) : List Bytes := Lib.compact (sortL L)
theorem ascF_ok (L : List Bytes) : (ascF L).Pairwise (· < ·) ∧ ∀ x, x ∈ ascF L ↔ x ∈ L := by
  have hs : (sortL L).Pairwise fun x y => decide (x ≤ y) = true := List.pairwise_mergeSort (le := fun x y : Bytes => decide (x ≤ y)) (fun a b c h h' => decide_eq_true (b_le_trans (of_decide_eq_true h) (of_decide_eq_true h'))) (fun a b => by
    rcases b_total a b with h | h <;> simp [h]) L
  have hp : (sortL L).Perm L := List.mergeSort_perm L _
  unfold ascF Lib.compact
  generalize sortL L = K at *
  have hd : ∀ i j, i < j → j < K.toArray.size → K.toArray[i]! ≤ K.toArray[j]! := fun i j hij hj => by
    have hj' : j < K.length := by simpa using hj
    rw [getElem!_pos K.toArray i (by simp; omega), getElem!_pos K.toArray j hj]
    exact of_decide_eq_true (List.pairwise_iff_getElem.1 hs i j (by omega) hj' hij)
  obtain ⟨h1, h2, h3⟩ := compact_asc K.toArray hd K.length (by simp)
  refine ⟨h1, fun x => ⟨fun hx => ?_, fun hx => ?_⟩⟩
  · obtain ⟨j, hj, rfl⟩ := h2 x hx
    rw [getElem!_pos K.toArray j (by simpa using hj)]
    exact hp.mem_iff.1 (by simp)
  · obtain ⟨j, hj, e⟩ := List.mem_iff_getElem.1 (hp.mem_iff.2 hx)
    have := h3 j hj
    rw [getElem!_pos K.toArray j (by simpa using hj)] at this
    simpa [e] using this
theorem ascF_of {L M : List Bytes} (h : M.Pairwise (· < ·)) (hm : ∀ x, x ∈ M ↔ x ∈ L) : ascF L = M :=
  asc_unique (ascF_ok L).1 h fun x => ((ascF_ok L).2 x).trans (hm x).symm

/-! ### Insertion -/
/-- How many of the first elements are less. -/
def lessN (L : List Bytes) (k : Bytes) : Nat := (L.takeWhile fun x => decide (x < k)).length
def insF (L : List Bytes) (k : Bytes) : List Bytes := if L[lessN L k]? = some k then L else L.take (lessN L k) ++ [k] ++ L.drop (lessN L k)
theorem insF_ok : ∀ {L : List Bytes} (k : Bytes), L.Pairwise (· < ·) → (insF L k).Pairwise (· < ·) ∧ ∀ x, x ∈ insF L k ↔ x = k ∨ x ∈ L
  | [], k, _ => by simp [insF, lessN]
  | a :: L, k, h => by
    obtain ⟨h1, h2⟩ := List.pairwise_cons.1 h
    by_cases ha : a < k
    · obtain ⟨h3, h4⟩ := insF_ok k h2
      have e : insF (a :: L) k = a :: insF L k := by
        have hl : lessN (a :: L) k = lessN L k + 1 := by simp [lessN, ha]
        unfold insF
        rw [hl]
        simp only [List.getElem?_cons_succ, List.take_succ_cons, List.drop_succ_cons]
        split <;> simp
      rw [e]
      refine ⟨List.pairwise_cons.2 ⟨fun x hx => ?_, h3⟩, fun x => ?_⟩
      · rcases (h4 x).1 hx with e' | e'
        · exact e' ▸ ha
        · exact h1 x e'
      · simp only [List.mem_cons, h4]
        constructor
        · rintro (e | e | e)
          · exact .inr (.inl e)
          · exact .inl e
          · exact .inr (.inr e)
        · rintro (e | e | e)
          · exact .inr (.inl e)
          · exact .inl e
          · exact .inr (.inr e)
    · have hl : lessN (a :: L) k = 0 := by simp [lessN, ha]
      unfold insF
      rw [hl]
      simp only [List.getElem?_cons_zero, Option.some.injEq, List.take_zero, List.nil_append, List.drop_zero]
      split
      · rename_i e
        subst e
        exact ⟨h, fun x => by simp⟩
      · rename_i hne
        have hka : k < a := b_lt (b_le.2 ha) (Ne.symm hne)
        refine ⟨List.pairwise_cons.2 ⟨fun x hx => ?_, h⟩, fun x => by simp⟩
        rcases List.mem_cons.1 hx with e | e
        · exact e ▸ hka
        · exact b_trans hka (h1 x e)
theorem insF_len (L : List Bytes) (k : Bytes) : (insF L k).length ≤ L.length + 1 := by
  unfold insF
  split
  · omega
  · simp; omega
theorem foldIns_len : ∀ (M L : List Bytes), (M.foldl insF L).length ≤ M.length + L.length
  | [], L => by simp
  | k :: M, L => by
    have h1 := foldIns_len M (insF L k)
    have h2 := insF_len L k
    simp only [List.foldl_cons, List.length_cons]
    omega
def keysF (l : List Summ) : List Bytes := ascF (keysL l)
theorem ins_fold (L : List Bytes) : L.foldl insF [] = ascF L := by
  have : ∀ (L A M : List Bytes), A.Pairwise (· < ·) → (∀ x, x ∈ A ↔ x ∈ M) → (L.foldl insF A).Pairwise (· < ·) ∧ ∀ x, x ∈ L.foldl insF A ↔ x ∈ M ++ L := by
    intro L
    induction L with
    | nil => intro A M h hm; exact ⟨h, by simpa using hm⟩
    | cons k L ih =>
      intro A M h hm
      obtain ⟨h1, h2⟩ := insF_ok k h
      have := ih (insF A k) (M ++ [k]) h1 fun x => by rw [h2, List.mem_append, List.mem_singleton, hm]; exact Or.comm
      simpa using this
  obtain ⟨h1, h2⟩ := this L [] [] (by simp) (by simp)
  exact (ascF_of h1 (by simpa using h2)).symm
end Go.Proofs.Ytiagjiaahnkefaa
