/- Tags: their order, their key: plain. -/
import Derived.Test.YtniokdflljchgaaVar
import Derived.Test.YtniokdflljchgaaSat
import Derived.Sort.Walk0
namespace Go.Proofs.Ytniokdflljchgaa
open Go.RowKit Go.Sort

structure TagR where
  (name value : ByteArray)
def tagF (t : TagR) : List Value := [.string t.name, .string t.value]
theorem tagF_len (t : TagR) : (tagF t).length = 2 := rfl
theorem one_tag : OneF tagF := by intro x u hu; simp [tagF] at hu; rcases hu with rfl | rfl <;> rfl
theorem elt_tag : Elt 128 143 (.agg #[.string ⟨#[]⟩, .string ⟨#[]⟩]) 2 32 := ⟨Try.underlying128, by kernel_rfl, rfl, by decide⟩
abbrev tagV (t : TagR) : Value := .agg #[.string t.name, .string t.value]
def nmB (t : TagR) : List UInt8 := t.name.data.toList
def vlB (t : TagR) : List UInt8 := t.value.data.toList
theorem nm_len (t : TagR) : (nmB t).length = t.name.size := Array.length_toList
theorem vl_len (t : TagR) : (vlB t).length = t.value.size := Array.length_toList
/-- The sizes fit. -/
def TagW (t : TagR) : Prop := t.name.size ≤ 9223372036854775807 ∧ t.value.size ≤ 9223372036854775807
def letB (b : UInt8) : Bool := (decide (97 ≤ b.toNat) && decide (b.toNat ≤ 122)) || (decide (48 ≤ b.toNat) && decide (b.toNat ≤ 57)) || decide (b.toNat = 95) || decide (b.toNat = 46) || decide (b.toNat = 45)
/-- The error of a tag. -/
def tagE (t : TagR) : Int := if (nmB t).all letB = false then 3 else if t.name.size = 0 then 3 else if 32 < t.name.size ∨ 64 < t.value.size then 4 else 0
theorem tagE_ok {t : TagR} (h : tagE t = 0) : (nmB t).all letB = true ∧ 0 < t.name.size ∧ t.name.size ≤ 32 ∧ t.value.size ≤ 64 := by
  unfold tagE at h
  by_cases h1 : (nmB t).all letB = false
  · rw [if_pos h1] at h; cases h
  rw [if_neg h1] at h
  by_cases h2 : t.name.size = 0
  · rw [if_pos h2] at h; cases h
  rw [if_neg h2] at h
  by_cases h3 : 32 < t.name.size ∨ 64 < t.value.size
  · rw [if_pos h3] at h; cases h
  exact ⟨by simpa using h1, by omega, by omega, by omega⟩
/-- The first error of tags. -/
def tagsE : List TagR → Int
  | [] => 0
  | t :: l => if tagE t ≠ 0 then tagE t else tagsE l
theorem tagsE_at {l : List TagR} {j : Nat} (hj : j < l.length) (h : ∀ i (hi : i < l.length), i < j → tagE l[i] = 0) (h2 : tagE l[j] ≠ 0) : tagsE l = tagE l[j] := by
  induction l generalizing j with
  | nil => simp at hj
  | cons a l ih =>
    cases j with
    | zero => simp only [List.getElem_cons_zero] at h2 ⊢; unfold tagsE; rw [if_pos h2]
    | succ j =>
      have h0 := h 0 (by simp) (by omega)
      simp only [List.getElem_cons_zero] at h0
      simp only [List.getElem_cons_succ] at h2 ⊢
      unfold tagsE
      rw [if_neg (by omega)]
      exact ih (by simpa using hj) (fun i hi hij => by have := h (i + 1) (by simpa using hi) (by omega); simpa using this) h2
theorem tagsE_no {l : List TagR} (h : ∀ t ∈ l, tagE t = 0) : tagsE l = 0 := by
  induction l with
  | nil => rfl
  | cons a l ih =>
    unfold tagsE
    rw [if_neg (by rw [h a (by simp)]; simp)]
    exact ih fun o ho => h o (List.mem_cons_of_mem _ ho)
theorem tagsE_all {l : List TagR} (h : tagsE l = 0) : ∀ t ∈ l, tagE t = 0 := by
  induction l with
  | nil => simp
  | cons a l ih =>
    unfold tagsE at h
    by_cases h0 : tagE a ≠ 0
    · rw [if_pos h0] at h; exact absurd h h0
    · rw [if_neg h0] at h
      intro o ho
      rcases List.mem_cons.1 ho with rfl | ho
      · omega
      · exact ih h o ho
/-- How many at the beginning come before x. -/
def lessT (L : List TagR) (x : TagR) : Nat := (L.takeWhile (fun y => decide (nmB y < nmB x))).length
theorem lessT_le (L : List TagR) (k : TagR) : lessT L k ≤ L.length := List.Sublist.length_le (List.takeWhile_sublist _)
theorem lessT_lt {L : List TagR} {k : TagR} : ∀ {i : Nat} (_ : i < lessT L k) (h2 : i < L.length), nmB L[i] < nmB k := by
  induction L with
  | nil => intro i h h2; simp at h2
  | cons a L ih =>
    intro i h h2
    by_cases ha : nmB a < nmB k
    · cases i with
      | zero => exact ha
      | succ i =>
        have : i < lessT L k := by simp [lessT, ha] at h; simpa [lessT] using h
        simpa using ih this (by simpa using h2)
    · simp [lessT, ha] at h
theorem lessT_at {L : List TagR} {k : TagR} (h : lessT L k < L.length) : ¬ nmB L[lessT L k] < nmB k := by
  induction L with
  | nil => simp at h
  | cons a L ih =>
    by_cases ha : nmB a < nmB k
    · have e : lessT (a :: L) k = lessT L k + 1 := by simp [lessT, ha]
      have := ih (by rw [e] at h; simpa using h)
      simpa [e] using this
    · have e : lessT (a :: L) k = 0 := by simp [lessT, ha]
      simpa [e] using ha
def insT (L : List TagR) (x : TagR) : List TagR := L.take (lessT L x) ++ [x] ++ L.drop (lessT L x)
def sortT (L : List TagR) : List TagR := L.foldl insT []
theorem sortT_snoc (L : List TagR) (x : TagR) : sortT (L ++ [x]) = insT (sortT L) x := by simp [sortT]
theorem insT_len (L : List TagR) (x : TagR) : (insT L x).length = L.length + 1 := by
  have := lessT_le L x
  unfold insT
  simp; omega
theorem insT_mem (L : List TagR) (x y : TagR) : y ∈ insT L x ↔ y ∈ L ∨ y = x := by
  have e : L = L.take (lessT L x) ++ L.drop (lessT L x) := (List.take_append_drop _ _).symm
  unfold insT
  rw [List.mem_append, List.mem_append, List.mem_singleton]
  conv => rhs; rw [e, List.mem_append]
  constructor
  · rintro ((h | h) | h)
    · exact .inl (.inl h)
    · exact .inr h
    · exact .inl (.inr h)
  · rintro ((h | h) | h)
    · exact .inl (.inl h)
    · exact .inr h
    · exact .inl (.inr h)
theorem sortT_mem (L : List TagR) (y : TagR) : y ∈ sortT L ↔ y ∈ L := by
  have : ∀ (L a : List TagR), y ∈ L.foldl insT a ↔ y ∈ a ∨ y ∈ L := by
    intro L
    induction L with
    | nil => simp
    | cons x L ih => intro a; rw [List.foldl_cons, ih, insT_mem, List.mem_cons, or_assoc]
  simpa [sortT] using this L []
theorem sortT_len (L : List TagR) : (sortT L).length = L.length := by
  have : ∀ (l a : List TagR), (l.foldl insT a).length = a.length + l.length := by
    intro l
    induction l with
    | nil => simp
    | cons x l ih => intro a; simp only [List.foldl_cons, ih, insT_len, List.length_cons]; omega
  simpa [sortT] using this L []
def AscT (L : List TagR) : Prop := L.Pairwise (fun x y => nmB x < nmB y)
theorem lt_of_not {a b : List UInt8} (h : ¬ a < b) (hne : a ≠ b) : b < a := by
  rcases Decidable.em (b < a) with h1 | h1
  · exact h1
  · exact absurd (List.le_antisymm (List.not_lt.1 h1) (List.not_lt.1 h)) hne
theorem insT_asc {L : List TagR} {x : TagR} (h : AscT L) (hx : ∀ y ∈ L, nmB y ≠ nmB x) : AscT (insT L x) := by
  have hle := lessT_le L x
  unfold AscT insT
  have hd : ∀ y ∈ L.drop (lessT L x), nmB x < nmB y := by
    intro y hy
    obtain ⟨i, hi, rfl⟩ := List.getElem_of_mem hy
    rw [List.length_drop] at hi
    rw [List.getElem_drop]
    have h0 := lessT_at (L := L) (k := x) (by omega)
    have h1 : nmB x < nmB L[lessT L x] := lt_of_not h0 (hx _ (List.getElem_mem _))
    rcases Nat.eq_zero_or_pos i with rfl | hp
    · simpa using h1
    · exact List.lt_trans h1 (List.pairwise_iff_getElem.1 h (lessT L x) (lessT L x + i) (by omega) (by omega) (by omega))
  have ht : ∀ y ∈ L.take (lessT L x), nmB y < nmB x := by
    intro y hy
    obtain ⟨i, hi, rfl⟩ := List.getElem_of_mem hy
    rw [List.length_take] at hi
    rw [List.getElem_take]
    exact lessT_lt (by omega) (by omega)
  rw [List.append_assoc, List.pairwise_append]
  refine ⟨List.Pairwise.sublist (List.take_sublist _ _) h, ?_, ?_⟩
  · rw [List.singleton_append, List.pairwise_cons]
    exact ⟨hd, List.Pairwise.sublist (List.drop_sublist _ _) h⟩
  · intro y hy z hz
    rw [List.singleton_append, List.mem_cons] at hz
    rcases hz with rfl | hz
    · exact ht y hy
    · exact List.lt_trans (ht y hy) (hd z hz)
def Dif (L : List TagR) : Prop := (L.map nmB).Nodup
theorem Dif.take {L : List TagR} (h : Dif L) (k : Nat) : Dif (L.take k) := by
  unfold Dif at *
  rw [List.map_take]
  exact List.Nodup.sublist (List.take_sublist _ _) h
theorem dif_snoc {L : List TagR} {x : TagR} : Dif (L ++ [x]) ↔ Dif L ∧ ∀ y ∈ L, nmB y ≠ nmB x := by
  unfold Dif
  rw [List.map_append, List.map_singleton, List.nodup_append]
  constructor
  · rintro ⟨h1, _, h3⟩
    exact ⟨h1, fun y hy e => h3 _ (List.mem_map.2 ⟨y, hy, rfl⟩) _ (by simp) e⟩
  · rintro ⟨h1, h2⟩
    refine ⟨h1, by simp, fun a ha b hb => ?_⟩
    obtain ⟨y, hy, rfl⟩ := List.mem_map.1 ha
    rw [List.mem_singleton.1 hb]
    exact h2 y hy
theorem sortT_asc : ∀ {L : List TagR}, Dif L → AscT (sortT L) := by
  intro L h
  have key : ∀ k, k ≤ L.length → AscT (sortT (L.take k)) := by
    intro k
    induction k with
    | zero => intro _; simp [sortT, AscT]
    | succ k ih =>
      intro hk
      have h1 := ih (by omega)
      have h2 := h.take (k + 1)
      rw [List.take_succ_eq_append_getElem (by omega)] at h2 ⊢
      rw [sortT_snoc]
      exact insT_asc h1 fun y hy => (dif_snoc.1 h2).2 y ((sortT_mem _ _).1 hy)
  have := key L.length (Nat.le_refl _)
  rwa [List.take_of_length_le (Nat.le_refl _)] at this
/-- In an ascending list a name is found where those before it end. -/
theorem asc_found {S : List TagR} {x : TagR} (h : AscT S) : (∃ y ∈ S, nmB y = nmB x) ↔ ∃ (hk : lessT S x < S.length), nmB S[lessT S x] = nmB x := by
  constructor
  · rintro ⟨y, hy, e⟩
    obtain ⟨i, hi, rfl⟩ := List.getElem_of_mem hy
    rcases Nat.lt_trichotomy i (lessT S x) with h1 | h1 | h1
    · have := lessT_lt h1 hi
      rw [e] at this
      exact absurd this (List.lt_irrefl _)
    · subst h1; exact ⟨hi, e⟩
    · have h2 := List.pairwise_iff_getElem.1 h (lessT S x) i (by omega) hi h1
      have h3 := lessT_at (L := S) (k := x) (by omega)
      rw [e] at h2
      exact absurd h2 h3
  · rintro ⟨hk, e⟩
    exact ⟨_, List.getElem_mem hk, e⟩
instance (L : List TagR) : Decidable (Dif L) := by unfold Dif; infer_instance
/-- The error of sorting. -/
def sortE (L : List TagR) : Int := if L.length = 0 ∨ 8 < L.length then 5 else if tagsE L ≠ 0 then tagsE L else if ¬ Dif L then 5 else 0
theorem sortE_few {L : List TagR} (h : L.length = 0 ∨ 8 < L.length) : sortE L = 5 := if_pos h
theorem sortE_tag {L : List TagR} (h : ¬ (L.length = 0 ∨ 8 < L.length)) (h2 : tagsE L ≠ 0) : sortE L = tagsE L := by unfold sortE; rw [if_neg h, if_pos h2]
theorem sortE_dup {L : List TagR} (h : ¬ (L.length = 0 ∨ 8 < L.length)) (h2 : tagsE L = 0) (h3 : ¬ Dif L) : sortE L = 5 := by unfold sortE; rw [if_neg h, if_neg (by omega), if_pos h3]
theorem sortE_ok {L : List TagR} (h : ¬ (L.length = 0 ∨ 8 < L.length)) (h2 : tagsE L = 0) (h3 : Dif L) : sortE L = 0 := by unfold sortE; rw [if_neg h, if_neg (by omega), if_neg (by simpa using h3)]
theorem sortE_0 {L : List TagR} (h : sortE L = 0) : 0 < L.length ∧ L.length ≤ 8 ∧ (∀ t ∈ L, tagE t = 0) ∧ Dif L := by
  unfold sortE at h
  by_cases h1 : L.length = 0 ∨ 8 < L.length
  · rw [if_pos h1] at h; cases h
  rw [if_neg h1] at h
  by_cases h2 : tagsE L ≠ 0
  · rw [if_pos h2] at h; exact absurd h h2
  rw [if_neg h2] at h
  by_cases h3 : ¬ Dif L
  · rw [if_pos h3] at h; cases h
  exact ⟨by omega, by omega, tagsE_all (Decidable.byContradiction h2), Decidable.byContradiction h3⟩
/-- The bytes of a tag in a key. -/
def tkB (t : TagR) : List UInt8 := UInt8.ofNat t.name.size :: nmB t ++ (UInt8.ofNat t.value.size :: vlB t)
def kyB (L : List TagR) : List UInt8 := L.flatMap tkB
theorem kyB_snoc (L : List TagR) (t : TagR) : kyB (L ++ [t]) = kyB L ++ tkB t := by simp [kyB]
theorem tkB_len (t : TagR) : (tkB t).length = t.name.size + t.value.size + 2 := by
  unfold tkB
  simp only [List.length_append, List.length_cons, nm_len, vl_len]; omega
/-- The error and the text of a key. -/
def keyE (L : List TagR) : Int := if sortE L ≠ 0 then sortE L else if 255 < (kyB (sortT L)).length then 4 else 0
def keyY (L : List TagR) : ByteArray := if keyE L = 0 then ⟨(kyB (sortT L)).toArray⟩ else ⟨#[]⟩
theorem keyY_len (L : List TagR) : (keyY L).size ≤ 255 := by
  unfold keyY
  split
  case isTrue h =>
    unfold keyE at h
    by_cases h1 : sortE L ≠ 0
    · rw [if_pos h1] at h; exact absurd h h1
    rw [if_neg h1] at h
    by_cases h2 : 255 < (kyB (sortT L)).length
    · rw [if_pos h2] at h; cases h
    · simp [ByteArray.size]; omega
  case isFalse h => simp [ByteArray.size]
end Go.Proofs.Ytniokdflljchgaa
