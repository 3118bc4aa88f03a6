/- Several texts in one file; each begins with a comment that says what is proved in it. -/
import Derived.Test.YtkdbapbmbhmaiaaBunAC
import Derived.Test.YtkdbapbmbhmaiaaBunAA
import Derived.Sort.Walk0
import Derived.Test.YtkdbapbmbhmaiaaBunAB
import Derived.StillTailTactics
import Derived.Laws.BytesString
import Derived.Lib.AppendStr

/- Tags: their order, their key: plain. -/
namespace Go.Proofs.Ytkdbapbmbhmaiaa
open Go.RowKit Go.Sort

structure TagR where
  (name value : ByteArray)
def tagF (t : TagR) : List Value := [.string t.name, .string t.value]
theorem tagF_len (t : TagR) : (tagF t).length = 2 := rfl
theorem one_tag : OneF tagF := by intro x u hu; simp [tagF] at hu; rcases hu with rfl | rfl <;> rfl
theorem elt_tag : Elt 44 43 (.agg #[.string ⟨#[]⟩, .string ⟨#[]⟩]) 2 32 := ⟨Try.underlying44, by kernel_rfl, rfl, by decide⟩
abbrev tagV (t : TagR) : Value := .agg #[.string t.name, .string t.value]
def nmB (t : TagR) : List UInt8 := t.name.data.toList
def vlB (t : TagR) : List UInt8 := t.value.data.toList
theorem nm_len (t : TagR) : (nmB t).length = t.name.size := Array.length_toList
theorem vl_len (t : TagR) : (vlB t).length = t.value.size := Array.length_toList
/-- The sizes fit. -/
def TagW (t : TagR) : Prop := t.name.size ≤ 9223372036854775807 ∧ t.value.size ≤ 9223372036854775807
def letB (b : UInt8) : Bool := (decide (97 ≤ b.toNat) && decide (b.toNat ≤ 122)) || (decide (48 ≤ b.toNat) && decide (b.toNat ≤ 57)) || decide (b.toNat = 95) || decide (b.toNat = 46) || decide (b.toNat = 45)
/-- The error of a tag. -/
def tagE (t : TagR) : Int := if (nmB t).all letB = false then 3 else if t.name.size = 0 then 3 else if 32 < t.name.size ∨ 64 < t.value.size then 4 else 0
theorem tagE_ok {t : TagR} (h : tagE t = 0) : (nmB t).all letB = true ∧ 0 < t.name.size ∧ t.name.size ≤ 32 ∧ t.value.size ≤ 64 := by
  unfold tagE at h
  by_cases h1 : (nmB t).all letB = false
  · rw [if_pos h1] at h; cases h
  rw [if_neg h1] at h
  by_cases h2 : t.name.size = 0
  · rw [if_pos h2] at h; cases h
  rw [if_neg h2] at h
  by_cases h3 : 32 < t.name.size ∨ 64 < t.value.size
  · rw [if_pos h3] at h; cases h
  exact ⟨by simpa using h1, by omega, by omega, by omega⟩
/-- The first error of tags. -/
def tagsE : List TagR → Int
  | [] => 0
  | t :: l => if tagE t ≠ 0 then tagE t else tagsE l
theorem tagsE_at {l : List TagR} {j : Nat} (hj : j < l.length) (h : ∀ i (hi : i < l.length), i < j → tagE l[i] = 0) (h2 : tagE l[j] ≠ 0) : tagsE l = tagE l[j] := by
  induction l generalizing j with
  | nil => simp at hj
  | cons a l ih =>
    cases j with
    | zero => simp only [List.getElem_cons_zero] at h2 ⊢; unfold tagsE; rw [if_pos h2]
    | succ j =>
      have h0 := h 0 (by simp) (by omega)
      simp only [List.getElem_cons_zero] at h0
      simp only [List.getElem_cons_succ] at h2 ⊢
      unfold tagsE
      rw [if_neg (by omega)]
      exact ih (by simpa using hj) (fun i hi hij => by have := h (i + 1) (by simpa using hi) (by omega); simpa using this) h2
theorem tagsE_no {l : List TagR} (h : ∀ t ∈ l, tagE t = 0) : tagsE l = 0 := by
  induction l with
  | nil => rfl
  | cons a l ih =>
    unfold tagsE
    rw [if_neg (by rw [h a (by simp)]; simp)]
    exact ih fun o ho => h o (List.mem_cons_of_mem _ ho)
theorem tagsE_all {l : List TagR} (h : tagsE l = 0) : ∀ t ∈ l, tagE t = 0 := by
  induction l with
  | nil => simp
  | cons a l ih =>
    unfold tagsE at h
    by_cases h0 : tagE a ≠ 0
    · rw [if_pos h0] at h; exact absurd h h0
    · rw [if_neg h0] at h
      intro o ho
      rcases List.mem_cons.1 ho with rfl | ho
      · omega
      · exact ih h o ho
/-- How many at the beginning come before x. -/
def lessT (L : List TagR) (x : TagR) : Nat := (L.takeWhile (fun y => decide (nmB y < nmB x))).length
theorem lessT_le (L : List TagR) (k : TagR) : lessT L k ≤ L.length := List.Sublist.length_le (List.takeWhile_sublist _)
theorem lessT_lt {L : List TagR} {k : TagR} : ∀ {i : Nat} (_ : i < lessT L k) (h2 : i < L.length), nmB L[i] < nmB k := by
  induction L with
  | nil => intro i h h2; simp at h2
  | cons a L ih =>
    intro i h h2
    by_cases ha : nmB a < nmB k
    · cases i with
      | zero => exact ha
      | succ i =>
        have : i < lessT L k := by simp [lessT, ha] at h; simpa [lessT] using h
        simpa using ih this (by simpa using h2)
    · simp [lessT, ha] at h
theorem lessT_at {L : List TagR} {k : TagR} (h : lessT L k < L.length) : ¬ nmB L[lessT L k] < nmB k := by
  induction L with
  | nil => simp at h
  | cons a L ih =>
    by_cases ha : nmB a < nmB k
    · have e : lessT (a :: L) k = lessT L k + 1 := by simp [lessT, ha]
      have := ih (by rw [e] at h; simpa using h)
      simpa [e] using this
    · have e : lessT (a :: L) k = 0 := by simp [lessT, ha]
      simpa [e] using ha
def insT (L : List TagR) (x : TagR) : List TagR := L.take (lessT L x) ++ [x] ++ L.drop (lessT L x)
def sortT (L : List TagR) : List TagR := L.foldl insT []
theorem sortT_snoc (L : List TagR) (x : TagR) : sortT (L ++ [x]) = insT (sortT L) x := by simp [sortT]
theorem insT_len (L : List TagR) (x : TagR) : (insT L x).length = L.length + 1 := by
  have := lessT_le L x
  unfold insT
  simp; omega
theorem insT_mem (L : List TagR) (x y : TagR) : y ∈ insT L x ↔ y ∈ L ∨ y = x := by
  have e : L = L.take (lessT L x) ++ L.drop (lessT L x) := (List.take_append_drop _ _).symm
  unfold insT
  rw [List.mem_append, List.mem_append, List.mem_singleton]
  conv => rhs; rw [e, List.mem_append]
  constructor
  · rintro ((h | h) | h)
    · exact .inl (.inl h)
    · exact .inr h
    · exact .inl (.inr h)
  · rintro ((h | h) | h)
    · exact .inl (.inl h)
    · exact .inr h
    · exact .inl (.inr h)
theorem sortT_mem (L : List TagR) (y : TagR) : y ∈ sortT L ↔ y ∈ L := by
  have : ∀ (L a : List TagR), y ∈ L.foldl insT a ↔ y ∈ a ∨ y ∈ L := by
    intro L
    induction L with
    | nil => simp
    | cons x L ih => intro a; rw [List.foldl_cons, ih, insT_mem, List.mem_cons, or_assoc]
  simpa [sortT] using this L []
theorem sortT_len (L : List TagR) : (sortT L).length = L.length := by
  have : ∀ (l a : List TagR), (l.foldl insT a).length = a.length + l.length := by
    intro l
    induction l with
    | nil => simp
    | cons x l ih => intro a; simp only [List.foldl_cons, ih, insT_len, List.length_cons]; omega
  simpa [sortT] using this L []
def AscT (L : List TagR) : Prop := L.Pairwise (fun x y => nmB x < nmB y)
theorem lt_of_not {a b : List UInt8} (h : ¬ a < b) (hne : a ≠ b) : b < a := by
  rcases Decidable.em (b < a) with h1 | h1
  · exact h1
  · exact absurd (List.le_antisymm (List.not_lt.1 h1) (List.not_lt.1 h)) hne
theorem insT_asc {L : List TagR} {x : TagR} (h : AscT L) (hx : ∀ y ∈ L, nmB y ≠ nmB x) : AscT (insT L x) := by
  have hle := lessT_le L x
  unfold AscT insT
  have hd : ∀ y ∈ L.drop (lessT L x), nmB x < nmB y := by
    intro y hy
    obtain ⟨i, hi, rfl⟩ := List.getElem_of_mem hy
    rw [List.length_drop] at hi
    rw [List.getElem_drop]
    have h0 := lessT_at (L := L) (k := x) (by omega)
    have h1 : nmB x < nmB L[lessT L x] := lt_of_not h0 (hx _ (List.getElem_mem _))
    rcases Nat.eq_zero_or_pos i with rfl | hp
    · simpa using h1
    · exact List.lt_trans h1 (List.pairwise_iff_getElem.1 h (lessT L x) (lessT L x + i) (by omega) (by omega) (by omega))
  have ht : ∀ y ∈ L.take (lessT L x), nmB y < nmB x := by
    intro y hy
    obtain ⟨i, hi, rfl⟩ := List.getElem_of_mem hy
    rw [List.length_take] at hi
    rw [List.getElem_take]
    exact lessT_lt (by omega) (by omega)
  rw [List.append_assoc, List.pairwise_append]
  refine ⟨List.Pairwise.sublist (List.take_sublist _ _) h, ?_, ?_⟩
  · rw [List.singleton_append, List.pairwise_cons]
    exact ⟨hd, List.Pairwise.sublist (List.drop_sublist _ _) h⟩
  · intro y hy z hz
    rw [List.singleton_append, List.mem_cons] at hz
    rcases hz with rfl | hz
    · exact ht y hy
    · exact List.lt_trans (ht y hy) (hd z hz)
def Dif (L : List TagR) : Prop := (L.map nmB).Nodup
theorem Dif.take {L : List TagR} (h : Dif L) (k : Nat) : Dif (L.take k) := by
  unfold Dif at *
  rw [List.map_take]
  exact List.Nodup.sublist (List.take_sublist _ _) h
theorem dif_snoc {L : List TagR} {x : TagR} : Dif (L ++ [x]) ↔ Dif L ∧ ∀ y ∈ L, nmB y ≠ nmB x := by
  unfold Dif
  rw [List.map_append, List.map_singleton, List.nodup_append]
  constructor
  · rintro ⟨h1, _, h3⟩
    exact ⟨h1, fun y hy e => h3 _ (List.mem_map.2 ⟨y, hy, rfl⟩) _ (by simp) e⟩
  · rintro ⟨h1, h2⟩
    refine ⟨h1, by simp, fun a ha b hb => ?_⟩
    obtain ⟨y, hy, rfl⟩ := List.mem_map.1 ha
    rw [List.mem_singleton.1 hb]
    exact h2 y hy
theorem sortT_asc : ∀ {L : List TagR}, Dif L → AscT (sortT L) := by
  intro L h
  have key : ∀ k, k ≤ L.length → AscT (sortT (L.take k)) := by
    intro k
    induction k with
    | zero => intro _; simp [sortT, AscT]
    | succ k ih =>
      intro hk
      have h1 := ih (by omega)
      have h2 := h.take (k + 1)
      rw [List.take_succ_eq_append_getElem (by omega)] at h2 ⊢
      rw [sortT_snoc]
      exact insT_asc h1 fun y hy => (dif_snoc.1 h2).2 y ((sortT_mem _ _).1 hy)
  have := key L.length (Nat.le_refl _)
  rwa [List.take_of_length_le (Nat.le_refl _)] at this
/-- In an ascending list a name is found where those before it end. -/
theorem asc_found {S : List TagR} {x : TagR} (h : AscT S) : (∃ y ∈ S, nmB y = nmB x) ↔ ∃ (hk : lessT S x < S.length), nmB S[lessT S x] = nmB x := by
  constructor
  · rintro ⟨y, hy, e⟩
    obtain ⟨i, hi, rfl⟩ := List.getElem_of_mem hy
    rcases Nat.lt_trichotomy i (lessT S x) with h1 | h1 | h1
    · have := lessT_lt h1 hi
      rw [e] at this
      exact absurd this (List.lt_irrefl _)
    · subst h1; exact ⟨hi, e⟩
    · have h2 := List.pairwise_iff_getElem.1 h (lessT S x) i (by omega) hi h1
      have h3 := lessT_at (L := S) (k := x) (by omega)
      rw [e] at h2
      exact absurd h2 h3
  · rintro ⟨hk, e⟩
    exact ⟨_, List.getElem_mem hk, e⟩
instance (L : List TagR) : Decidable (Dif L) := by unfold Dif; infer_instance
/-- The error of sorting. -/
def sortE (L : List TagR) : Int := if L.length = 0 ∨ 8 < L.length then 5 else if tagsE L ≠ 0 then tagsE L else if ¬ Dif L then 5 else 0
theorem sortE_few {L : List TagR} (h : L.length = 0 ∨ 8 < L.length) : sortE L = 5 := if_pos h
theorem sortE_tag {L : List TagR} (h : ¬ (L.length = 0 ∨ 8 < L.length)) (h2 : tagsE L ≠ 0) : sortE L = tagsE L := by unfold sortE; rw [if_neg h, if_pos h2]
theorem sortE_dup {L : List TagR} (h : ¬ (L.length = 0 ∨ 8 < L.length)) (h2 : tagsE L = 0) (h3 : ¬ Dif L) : sortE L = 5 := by unfold sortE; rw [if_neg h, if_neg (by omega), if_pos h3]
theorem sortE_ok {L : List TagR} (h : ¬ (L.length = 0 ∨ 8 < L.length)) (h2 : tagsE L = 0) (h3 : Dif L) : sortE L = 0 := by unfold sortE; rw [if_neg h, if_neg (by omega), if_neg (by simpa using h3)]
theorem sortE_0 {L : List TagR} (h : sortE L = 0) : 0 < L.length ∧ L.length ≤ 8 ∧ (∀ t ∈ L, tagE t = 0) ∧ Dif L := by
  unfold sortE at h
  by_cases h1 : L.length = 0 ∨ 8 < L.length
  · rw [if_pos h1] at h; cases h
  rw [if_neg h1] at h
  by_cases h2 : tagsE L ≠ 0
  · rw [if_pos h2] at h; exact absurd h h2
  rw [if_neg h2] at h
  by_cases h3 : ¬ Dif L
  · rw [if_pos h3] at h; cases h
  exact ⟨by omega, by omega, tagsE_all (Decidable.byContradiction h2), Decidable.byContradiction h3⟩
/-- The bytes of a tag in a key. -/
def tkB (t : TagR) : List UInt8 := UInt8.ofNat t.name.size :: nmB t ++ (UInt8.ofNat t.value.size :: vlB t)
def kyB (L : List TagR) : List UInt8 := L.flatMap tkB
theorem kyB_snoc (L : List TagR) (t : TagR) : kyB (L ++ [t]) = kyB L ++ tkB t := by simp [kyB]
theorem tkB_len (t : TagR) : (tkB t).length = t.name.size + t.value.size + 2 := by
  unfold tkB
  simp only [List.length_append, List.length_cons, nm_len, vl_len]; omega
/-- The error and the text of a key. -/
def keyE (L : List TagR) : Int := if sortE L ≠ 0 then sortE L else if 255 < (kyB (sortT L)).length then 4 else 0
def keyY (L : List TagR) : ByteArray := if keyE L = 0 then ⟨(kyB (sortT L)).toArray⟩ else ⟨#[]⟩
theorem keyY_len (L : List TagR) : (keyY L).size ≤ 255 := by
  unfold keyY
  split
  case isTrue h =>
    unfold keyE at h
    by_cases h1 : sortE L ≠ 0
    · rw [if_pos h1] at h; exact absurd h h1
    rw [if_neg h1] at h
    by_cases h2 : 255 < (kyB (sortT L)).length
    · rw [if_pos h2] at h; cases h
    · simp [ByteArray.size]; omega
  case isFalse h => simp [ByteArray.size]
end Go.Proofs.Ytkdbapbmbhmaiaa

/- Tags: the reference's test of one. -/
namespace Go.Proofs.Ytkdbapbmbhmaiaa
open Go.RowKit Go.Sort

def letN (n : Nat) : Bool := (decide (97 ≤ n) && decide (n ≤ 122)) || (decide (48 ≤ n) && decide (n ≤ 57)) || decide (n = 95) || decide (n = 46) || decide (n = 45)
theorem letB_N (b : UInt8) : letB b = letN b.toNat := rfl
theorem nameByteN_c (n : Nat) (w : World) : Calls Try.prog 56 #[.int .u8 n] w fun e w' => e = .returned (.bool (letN n)) ∧ w = w' := by
  rcases (show (97 ≤ n ∧ n ≤ 122) ∨ (48 ≤ n ∧ n ≤ 57) ∨ n = 95 ∨ n = 46 ∨ n = 45 ∨ n < 45 ∨ n = 47 ∨ (58 ≤ n ∧ n ≤ 94) ∨ n = 96 ∨ 123 ≤ n by omega) with h | h | h | h | h | h | h | h | h | h
  · obtain ⟨h1, h2⟩ := h
    have i1 : (97 : Int) ≤ (n : Int) := by omega
    have i2 : (n : Int) ≤ 122 := by omega
    have HB := Lib.hid (show letN n = true by simp [letN]; omega)
    go_enter Try.func56, Try.ntmps56
    go_wp2_with fail
    go_ret
    exact ⟨by rw [HB.out]; rfl, rfl⟩
  · obtain ⟨h1, h2⟩ := h
    have i1 : (48 : Int) ≤ (n : Int) := by omega
    have i2 : (n : Int) ≤ 57 := by omega
    have HB := Lib.hid (show letN n = true by simp [letN]; omega)
    go_enter Try.func56, Try.ntmps56
    go_wp2_with fail
    go_ret
    exact ⟨by rw [HB.out]; rfl, rfl⟩
  · subst h
    have HB := Lib.hid (show letN 95 = true from rfl)
    rw [show (((95 : Nat) : Nat) : Int) = (95 : Int) from rfl]
    go_enter Try.func56, Try.ntmps56
    go_wp2_with fail
    go_ret
    exact ⟨by rw [HB.out]; rfl, rfl⟩
  · subst h
    have HB := Lib.hid (show letN 46 = true from rfl)
    rw [show (((46 : Nat) : Nat) : Int) = (46 : Int) from rfl]
    go_enter Try.func56, Try.ntmps56
    go_wp2_with fail
    go_ret
    exact ⟨by rw [HB.out]; rfl, rfl⟩
  · subst h
    have HB := Lib.hid (show letN 45 = true from rfl)
    rw [show (((45 : Nat) : Nat) : Int) = (45 : Int) from rfl]
    go_enter Try.func56, Try.ntmps56
    go_wp2_with fail
    go_ret
    exact ⟨by rw [HB.out]; rfl, rfl⟩
  · have i1 : (n : Int) < 45 := by omega
    have HB := Lib.hid (show letN n = false by simp [letN]; omega)
    have f1 : ((n : Int) == 95) = false := beq_eq_false_iff_ne.2 (by omega)
    have f2 : ((n : Int) == 46) = false := beq_eq_false_iff_ne.2 (by omega)
    have f3 : ((n : Int) == 45) = false := beq_eq_false_iff_ne.2 (by omega)
    go_enter Try.func56, Try.ntmps56
    go_wp2_with fail
    go_ret
    exact ⟨by rw [HB.out]; rfl, rfl⟩
  · subst h
    have HB := Lib.hid (show letN 47 = false from rfl)
    rw [show (((47 : Nat) : Nat) : Int) = (47 : Int) from rfl]
    go_enter Try.func56, Try.ntmps56
    go_wp2_with fail
    go_ret
    exact ⟨by rw [HB.out]; rfl, rfl⟩
  · obtain ⟨h1, h2⟩ := h
    have i1 : (58 : Int) ≤ (n : Int) := by omega
    have i2 : (n : Int) ≤ 94 := by omega
    have i3 : decide ((n : Int) ≤ 57) = false := decide_eq_false (by omega)
    have HB := Lib.hid (show letN n = false by simp [letN]; omega)
    have f1 : ((n : Int) == 95) = false := beq_eq_false_iff_ne.2 (by omega)
    have f2 : ((n : Int) == 46) = false := beq_eq_false_iff_ne.2 (by omega)
    have f3 : ((n : Int) == 45) = false := beq_eq_false_iff_ne.2 (by omega)
    go_enter Try.func56, Try.ntmps56
    go_wp2_with fail
    go_ret
    exact ⟨by rw [HB.out]; rfl, rfl⟩
  · subst h
    have HB := Lib.hid (show letN 96 = false from rfl)
    rw [show (((96 : Nat) : Nat) : Int) = (96 : Int) from rfl]
    go_enter Try.func56, Try.ntmps56
    go_wp2_with fail
    go_ret
    exact ⟨by rw [HB.out]; rfl, rfl⟩
  · have i1 : (123 : Int) ≤ (n : Int) := by omega
    have i3 : decide ((n : Int) ≤ 57) = false := decide_eq_false (by omega)
    have i4 : decide ((n : Int) ≤ 122) = false := decide_eq_false (by omega)
    have HB := Lib.hid (show letN n = false by simp [letN]; omega)
    have f1 : ((n : Int) == 95) = false := beq_eq_false_iff_ne.2 (by omega)
    have f2 : ((n : Int) == 46) = false := beq_eq_false_iff_ne.2 (by omega)
    have f3 : ((n : Int) == 45) = false := beq_eq_false_iff_ne.2 (by omega)
    go_enter Try.func56, Try.ntmps56
    go_wp2_with fail
    go_ret
    exact ⟨by rw [HB.out]; rfl, rfl⟩
theorem tagC_name (b : UInt8) (w : World) : Calls Try.prog 56 #[.int .u8 b.toNat] w fun e w' => e = .returned (.bool (letB b)) ∧ w = w' := nameByteN_c b.toNat w
theorem all_lets {q : List UInt8} (h : ∀ i (hi : i < q.length), letB q[i] = true) : q.all letB = true := by
  rw [List.all_eq_true]
  intro x hx
  obtain ⟨i, hi, rfl⟩ := List.getElem_of_mem hx
  exact h i hi
theorem all_let_not {q : List UInt8} {i : Nat} (hi : i < q.length) (h : letB q[i] = false) : q.all letB = false := by
  rw [List.all_eq_false]
  exact ⟨_, List.getElem_mem hi, by simp [h]⟩

set_option maxHeartbeats 1000000 in
set_option maxRecDepth 100000 in
theorem rtag_c (t : TagR) (w : World) (hW : TagW t) : Calls Try.prog 43 #[tagV t] w (RetInt (tagE t) w) := by
  obtain ⟨hn, hv⟩ := hW
  have HN := Lib.hid (nm_len t)
  have HX := Lib.hid (show tagE t = if (nmB t).all letB = false then 3 else if t.name.size = 0 then 3 else if 32 < t.name.size ∨ 64 < t.value.size then 4 else 0 from rfl)
  have HQ := Lib.hid (show nmB t = t.name.data.toList from rfl)
  generalize tagE t = E at *
  generalize nmB t = q at *
  obtain ⟨y, v⟩ := t
  dsimp only at *
  have B1 := Blk.new w #[.string y, .string v] 43
  have G1 := grownBy_new_block (grownBy_refl w none) (.cells #[.string y, .string v] 43)
  go_enter Try.func43, Try.ntmps43
  go_upto_region 1 with fail
  generalize w.alloc (.cells #[.string y, .string v] 43) = w1 at *
  generalize w.heap.size = b at *
  have b1 := B1.cell
  go_wp2_with fail
  go_loopw [3] (fun s3 wk => ∃ i : Nat, i ≤ q.length ∧ s3 = .int .i64 i ∧ (∀ j (hj : j < q.length), j < i → letB q[j] = true) ∧ w1 = wk) (fun s3 _ => q.length - (intOf s3).toNat)
  case atStart => exact ⟨0, Nat.zero_le _, rfl, by intro j hj h; omega, rfl⟩
  case round =>
    obtain ⟨i, hi, rfl, hall, rfl⟩ := hrel
    have Hall := Lib.hid hall
    have hql := HN.out
    clear hall
    by_cases hlt : i < q.length
    · have hi1 : (i : Int) < (y.size : Int) := by omega
      have hi2 : i < y.size := by omega
      have hx : q[i] = y[i]'hi2 := by
        have : q[i]? = some (y[i]'hi2) := by
          rw [HQ.out]
          show y.data.toList[i]? = _
          rw [Array.getElem?_toList, Array.getElem?_eq_getElem (by exact hi2)]; rfl
        rw [List.getElem?_eq_getElem hlt] at this
        exact Option.some.inj this
      have HF := Lib.hid (show letB q[i] = false → E = 3 from fun h => by rw [HX.out, if_pos (all_let_not hlt h)])
      have HS := Lib.hid (show letB q[i] = true → ∀ j (hj : j < q.length), j < i + 1 → letB q[j] = true from fun h j hj hji => by
        rcases Nat.lt_or_ge j i with h1 | h1
        · exact Hall.out j hj h1
        · obtain rfl : j = i := by omega
          exact h)
      rw [hx] at HF HS
      have C := Lib.hid fun w' => tagC_name (y[i]'hi2) w'
      have hi0 : (0 : Int) ≤ (i : Int) := by omega
      clear hx Hall
      cases hb : letB (y[i]'hi2)
      · rw [hb] at C
        have HF2 := Lib.hid (HF.out hb)
        clear hb
        go_wp2_with (go_at_call 56; refine (C.out _).mono ?_; rintro e w' ⟨rfl, rfl⟩)
        go_ret
        exact retInt HF2.out G1
      · rw [hb] at C
        have HS2 := Lib.hid (HS.out hb)
        clear hb
        go_wp2_with (go_at_call 56; refine (C.out _).mono ?_; rintro e w' ⟨rfl, rfl⟩)
        exact ⟨⟨i + 1, by omega, by go_num, HS2.out, by trivial⟩, by simp [intOf]; omega⟩
    · have hi1 : ¬ (i : Int) < (y.size : Int) := by omega
      have HA := Lib.hid (show ¬ q.all letB = false by rw [all_lets fun j hj => Hall.out j hj (by omega)]; simp)
      by_cases h0 : y.size = 0
      · have HF := Lib.hid (show E = 3 by rw [HX.out, if_neg HA.out, if_pos h0])
        obtain rfl : y = ⟨#[]⟩ := by
          obtain ⟨⟨l⟩⟩ := y
          have : l = [] := by simpa [ByteArray.size] using h0
          rw [this]
        clear h0
        go_wp2_with fail
        go_ret
        exact retInt HF.out G1
      · have hne : y.toList.isEmpty = false := by
          rw [ByteArray.toList_eq]
          obtain ⟨⟨l⟩⟩ := y
          cases l with
          | nil => exact absurd rfl h0
          | cons a l => rfl
        have HF := Lib.hid (show E = if 32 < y.size ∨ 64 < v.size then 4 else 0 by rw [HX.out, if_neg HA.out, if_neg h0])
        clear h0 HX
        by_cases h1 : 32 < y.size
        · have j1 : (32 : Int) < (y.size : Int) := by omega
          have HF2 := Lib.hid (HF.out.trans (if_pos (.inl h1)))
          clear HF h1
          go_wp2_with fail
          go_ret
          exact retInt HF2.out G1
        · have j1 : (y.size : Int) ≤ 32 := by omega
          by_cases h2 : 64 < v.size
          · have j2 : (64 : Int) < (v.size : Int) := by omega
            have HF2 := Lib.hid (HF.out.trans (if_pos (.inr h2)))
            clear HF h1 h2
            go_wp2_with fail
            go_ret
            exact retInt HF2.out G1
          · have j2 : (v.size : Int) ≤ 64 := by omega
            have HF2 := Lib.hid (HF.out.trans (if_neg (fun h => h.elim h1 h2)))
            clear HF h1 h2
            go_wp2_with fail
            go_ret
            exact retInt HF2.out G1
end Go.Proofs.Ytkdbapbmbhmaiaa

/- Tags put in order: the reference. -/
namespace Go.Proofs.Ytkdbapbmbhmaiaa
open Go.RowKit Go.Sort

theorem blT_of (a b : ByteArray) : Op.bytesLess a.toList b.toList = decide (a.data.toList < b.data.toList) := by
  rw [ByteArray.toList_eq, ByteArray.toList_eq, bytesLess_eq]
theorem beT_of (a b : ByteArray) : (a.toList == b.toList) = decide (a.data.toList = b.data.toList) := by
  rw [ByteArray.toList_eq, ByteArray.toList_eq, Bool.eq_iff_iff]; simp
def SortP (L : List TagR) (w : World) (e : Ending) (w' : World) : Prop := ∃ v, e = .returned (.tuple #[v, .int .i64 (sortE L)]) ∧ Own tagF 2 43 w.heap.size w' v (if sortE L = 0 then sortT L else []) ∧ w.grownBy w' none
theorem sortP_no {L : List TagR} {w w' : World} {E : Int} (h : sortE L = E) (h0 : E ≠ 0) (hg : w.grownBy w' none) : SortP L w (.returned (.tuple #[.slice none 0 0, .int .i64 E])) w' :=
  ⟨_, by rw [h], by rw [if_neg (by omega)]; exact Own.nil _ _ _ _ _, hg⟩
def TagsRd (w : World) (v : Value) (L : List TagR) : Prop := RdL tagF 2 w v L

set_option maxHeartbeats 2000000 in
set_option maxRecDepth 100000 in
theorem rsortT_c (v : Value) (L : List TagR) (w : World) (h : RdL tagF 2 w v L) (hW : ∀ t ∈ L, TagW t) : Calls Try.prog 26 #[v] w (SortP L w) := by
  obtain ⟨a, c, rfl⟩ := h.shape
  have hm := h.2.1
  have H := Lib.hid h
  have HW := Lib.hid hW
  clear h hW
  by_cases h0 : L.length = 0
  · have HE := Lib.hid (sortE_few (.inl h0))
    obtain rfl : L = [] := List.eq_nil_of_length_eq_zero h0
    clear h0
    go_enter Try.func26, Try.ntmps26
    go_wp2_with fail
    go_ret2
    exact sortP_no HE.out (by decide) (grownBy_refl _ _)
  have i0 : ((L.length : Int) == 0) = false := beq_eq_false_iff_ne.2 (by omega)
  by_cases h8 : 8 < L.length
  · have HE := Lib.hid (sortE_few (.inr h8))
    have i8 : (8 : Int) < (L.length : Int) := by omega
    clear h0
    go_enter Try.func26, Try.ntmps26
    go_wp2_with fail
    go_ret2
    exact sortP_no HE.out (by decide) (grownBy_refl _ _)
  have i8 : (L.length : Int) ≤ 8 := by omega
  have Hfew := Lib.hid (show ¬ (L.length = 0 ∨ 8 < L.length) by omega)
  clear h0
  go_enter Try.func26, Try.ntmps26
  go_wp2_with fail
  go_loopw [21] (fun s21 wk => ∃ i : Nat, i ≤ L.length ∧ s21 = .int .i64 i ∧ (∀ j (hj : j < L.length), j < i → tagE L[j] = 0) ∧ w.grownBy wk none) (fun s21 _ => L.length - (intOf s21).toNat)
  case atStart => exact ⟨0, Nat.zero_le _, rfl, by intro j hj h; omega, grownBy_refl _ _⟩
  case round =>
    obtain ⟨i, hi, rfl, hall, hg⟩ := hrel
    have Hall := Lib.hid hall
    have HGr := Lib.hid hg
    clear hall
    by_cases hlt : i < L.length
    · obtain ⟨gx, ox, cx, hv, hgx, hcx⟩ := (RdL.same H.out hg).at_ tagF_len hlt
      cases hv
      have c0 := hcx 0 _ rfl
      have c1 := hcx 1 _ rfl
      rw [Nat.add_zero] at c0
      have hw := HW.out _ (List.getElem_mem hlt)
      have HF := Lib.hid (show ∀ E : Int, E ≠ 0 → tagE L[i] = E → sortE L = E from fun E hE h => by
        have h1 := tagsE_at hlt Hall.out (by rw [h]; exact hE)
        rw [sortE_tag Hfew.out (by rw [h1, h]; exact hE), h1, h])
      have HS := Lib.hid (show tagE L[i] = 0 → ∀ j (hj : j < L.length), j < i + 1 → tagE L[j] = 0 from fun h j hj hji => by
        rcases Nat.lt_or_ge j i with h1 | h1
        · exact Hall.out j hj h1
        · obtain rfl : j = i := by omega
          exact h)
      have C := Lib.hid fun w' => rtag_c L[i] w' hw
      clear hcx hw Hall hg
      generalize L[i] = x at *
      generalize tagE x = EE at *
      by_cases hE : EE = 0
      · subst hE
        have HS2 := Lib.hid (HS.out rfl)
        clear HF HS
        go_wp2_with (go_at_call 43; refine (C.out _).mono ?_; rintro e w2 ⟨rfl, g2⟩)
        exact ⟨⟨i + 1, by omega, by go_num, HS2.out, grownBy_trans HGr.out (grownBy_trans (World.grownBy_alloc _ _ _) g2)⟩, by simp [intOf]; omega⟩
      · have he2 : (EE != 0) = true := by simpa using hE
        have he3 : (EE == 0) = false := by simpa using hE
        have HF2 := Lib.hid (HF.out EE hE rfl)
        have HE0 := Lib.hid hE
        clear HF HS hE
        go_wp2_with (go_at_call 43; refine (C.out _).mono ?_; rintro e w2 ⟨rfl, g2⟩)
        go_ret2
        exact sortP_no HF2.out HE0.out (grownBy_trans HGr.out (grownBy_trans (World.grownBy_alloc _ _ _) g2))
    · have HT := Lib.hid (show tagsE L = 0 from tagsE_no fun t ht => by
        obtain ⟨j, hj, rfl⟩ := List.getElem_of_mem ht
        exact Hall.out j hj (by omega))
      have hi1 : ¬ (i : Int) < (L.length : Int) := by omega
      clear Hall
      go_upto_region 12 with fail
      clear hlt hi1
      go_loopw [33, 7] (fun s33 s7 wk => ∃ (j : Nat), j ≤ L.length ∧ s33 = .int .i64 j ∧ Dif (L.take j) ∧ Own tagF 2 43 w.heap.size wk s7 (sortT (L.take j)) ∧ w.grownBy wk none) (fun s33 _ _ => L.length - (intOf s33).toNat)
      case atStart => exact ⟨0, Nat.zero_le _, rfl, by simp [Dif], Own.nil _ _ _ _ _, hg⟩
      case round =>
        clear hg HGr hi
        obtain ⟨j, hj, rfl, hdif, hO, hg⟩ := hrel
        have HDf := Lib.hid hdif
        clear hdif
        by_cases hjl : j < L.length
        · obtain ⟨gx, ox, cx, hv, hgx, hcx⟩ := (RdL.same H.out hg).at_ tagF_len hjl
          cases hv
          have c0 := hcx 0 _ rfl
          have c1 := hcx 1 _ rfl
          rw [Nat.add_zero] at c0
          have HT2 := Lib.hid (show sortT (L.take (j + 1)) = insT (sortT (L.take j)) L[j] by rw [List.take_succ_eq_append_getElem hjl, sortT_snoc])
          have hfnd := asc_found (x := L[j]) (sortT_asc HDf.out)
          have HNo := Lib.hid (p := (∃ (hk : lessT (sortT (L.take j)) L[j] < (sortT (L.take j)).length), nmB (sortT (L.take j))[lessT (sortT (L.take j)) L[j]] = nmB L[j]) → sortE L = 5) (fun h => by
            obtain ⟨y, hy, e⟩ := hfnd.2 h
            refine sortE_dup Hfew.out HT.out fun hd => ?_
            have h2 := hd.take (j + 1)
            rw [List.take_succ_eq_append_getElem hjl] at h2
            exact (dif_snoc.1 h2).2 y ((sortT_mem _ _).1 hy) e)
          have HYes := Lib.hid (p := ¬ (∃ (hk : lessT (sortT (L.take j)) L[j] < (sortT (L.take j)).length), nmB (sortT (L.take j))[lessT (sortT (L.take j)) L[j]] = nmB L[j]) → Dif (L.take (j + 1))) (fun h => by
            rw [List.take_succ_eq_append_getElem hjl]
            exact dif_snoc.2 ⟨HDf.out, fun y hy e => h (hfnd.1 ⟨y, (sortT_mem _ _).2 hy, e⟩)⟩)
          have hsl : (sortT (L.take j)).length ≤ 8 := by rw [sortT_len, List.length_take]; omega
          clear hcx hfnd
          generalize sortT (L.take j) = S at *
          generalize L[j] = x at *
          obtain ⟨oa, oc, rfl⟩ := hO.shape
          go_upto_region 14 with fail
          have O2 := hO.same (World.grownBy_alloc wr (.cells #[.string x.name, .string x.value] 43) none)
          have G2 := grownBy_new_block hg (.cells #[.string x.name, .string x.value] 43)
          have A2 := Blk.new wr #[.string x.name, .string x.value] 43
          generalize wr.alloc (.cells #[.string x.name, .string x.value] 43) = w2 at *
          generalize wr.heap.size = gk at *
          have HN1 := Lib.hid (lessT_le S x)
          have HN2 := Lib.hid fun i (h : i < lessT S x) h2 => lessT_lt (k := x) h h2
          have HN3 := Lib.hid fun h => lessT_at (L := S) (k := x) h
          have HI := Lib.hid (show insT S x = S.take (lessT S x) ++ [x] ++ S.drop (lessT S x) from rfl)
          clear hO hg c0 c1 hgx
          generalize lessT S x = N at *
          have hN := HN1.out
          go_cut [10] (fun s10 wx => s10 = .int .i64 0 ∧ w2 = wx)
          case first =>
            go_wp2_with fail
            go_meet
            exact ⟨rfl, rfl⟩
          obtain ⟨rfl, rfl⟩ := hcut
          rename_i hK
          refine hK _ _ ?_
          apply wp_seq_k
          intro K1 hK1
          go_cut [10, 37, 38, 39, 40, 41, 42, 43, 44, 45, 46, 47, 48, 49, 50, 51, 52] (fun s10 _ _ _ _ _ _ _ _ _ _ _ _ _ _ _ _ wx => s10 = .int .i64 N ∧ w2.grownBy wx none)
          case first =>
            go_wp2_with fail
            go_loopw [10] (fun s10 wk => ∃ m : Nat, m ≤ N ∧ s10 = .int .i64 m ∧ w2.grownBy wk none) (fun s10 _ => N - (intOf s10).toNat)
            case atStart => exact ⟨0, Nat.zero_le _, rfl, grownBy_refl _ _⟩
            case round =>
              obtain ⟨m, hm, rfl, hgm⟩ := hrel
              have am := (A2.same hgm).cell
              by_cases hml : m < S.length
              · obtain ⟨go, oo, co, hvo, hgo, cm⟩ := (RdL.same O2.rd hgm).at_ tagF_len hml
                cases hvo
                have cm0 := cm 0 _ rfl
                have cm1 := cm 1 _ rfl
                rw [Nat.add_zero] at cm0
                have hml2 : (m : Int) < (S.length : Int) := by omega
                have hbl := blT_of S[m].name x.name
                clear cm
                by_cases hmN : m < N
                · have hlt := HN2.out m hmN hml
                  rw [decide_eq_true (show S[m].name.data.toList < x.name.data.toList from hlt)] at hbl
                  generalize S[m] = y at *
                  clear hlt
                  go_wp2_with fail
                  go_quiet (fail)
                  go_wp2_with fail
                  exact ⟨⟨m + 1, by omega, by go_num, grownBy_drewN hgm _⟩, by simp [intOf]; omega⟩
                · obtain rfl : m = N := by omega
                  have hlt := HN3.out hml
                  rw [decide_eq_false (show ¬ S[m].name.data.toList < x.name.data.toList from hlt)] at hbl
                  generalize S[m] = y at *
                  clear hlt
                  go_wp2_with fail
                  go_quiet (fail)
                  go_wp2_with fail
                  go_meet
                  exact ⟨rfl, grownBy_drewN hgm _⟩
              · obtain rfl : m = N := by omega
                have hml2 : decide ((m : Int) < (S.length : Int)) = false := decide_eq_false (by omega)
                go_wp2_with fail
                go_quiet (fail)
                go_wp2_with fail
                go_meet
                exact ⟨rfl, grownBy_drewN hgm _⟩
          obtain ⟨rfl, h3⟩ := hcut
          refine hK1 _ _ ?_
          have O3 := O2.same h3
          have A3 := A2.same h3
          have a3 := A3.cell
          by_cases hdup : ∃ (hk : N < S.length), nmB S[N] = nmB x
          · have HF := Lib.hid (HNo.out hdup)
            obtain ⟨hml, he⟩ := hdup
            obtain ⟨go, oo, co, hvo, hgo, cm⟩ := (RdL.same O3.rd (grownBy_refl _ _)).at_ tagF_len hml
            cases hvo
            have cm0 := cm 0 _ rfl
            have cm1 := cm 1 _ rfl
            rw [Nat.add_zero] at cm0
            have hml2 : (N : Int) < (S.length : Int) := by omega
            have hbe := beT_of S[N].name x.name
            rw [decide_eq_true (show S[N].name.data.toList = x.name.data.toList from he)] at hbe
            generalize S[N] = y at *
            clear he cm HNo HYes HN1 HN2 HN3
            go_wp2_with fail
            go_quiet (fail)
            go_wp2_with fail
            go_ret2
            exact sortP_no HF.out (by decide) (grownBy_trans G2 (grownBy_drewN h3 _))
          · have HD2 := Lib.hid (HYes.out hdup)
            have O3' := Lib.hid O3
            have A3' := Lib.hid A3
            apply wp_seq_k
            intro K3 hK3
            go_cut [53, 54, 55, 56, 57, 58, 59, 60, 61, 62, 63, 64, 65, 66] (fun _ _ _ _ _ _ _ _ _ _ _ _ _ s66 wx => s66 = .bool false ∧ w2.grownBy wx none)
            case first =>
              by_cases hml : N < S.length
              · obtain ⟨go, oo, co, hvo, hgo, cm⟩ := O3.rd.at_ tagF_len hml
                cases hvo
                have cm0 := cm 0 _ rfl
                have cm1 := cm 1 _ rfl
                rw [Nat.add_zero] at cm0
                have hml2 : (N : Int) < (S.length : Int) := by omega
                have hbe := beT_of S[N].name x.name
                rw [decide_eq_false (show ¬ S[N].name.data.toList = x.name.data.toList from fun e => hdup ⟨hml, e⟩)] at hbe
                generalize S[N] = y at *
                clear hdup cm
                go_wp2_with fail
                go_quiet (fail)
                go_wp2_with fail
                go_meet
                exact ⟨rfl, grownBy_drewN h3 _⟩
              · obtain rfl : N = S.length := by omega
                clear hdup
                have hml2 : decide ((S.length : Int) < (S.length : Int)) = false := decide_eq_false (by omega)
                go_wp2_with fail
                go_quiet (fail)
                go_wp2_with fail
                go_meet
                exact ⟨rfl, grownBy_drewN h3 _⟩
            obtain ⟨rfl, h4⟩ := hcut
            clear a3 A3 O3 hK hK1 hdup
            refine hK3 _ _ ?_
            have O3 := O3'.out
            have A3 := A3'.out
            clear O3' A3'
            have O3 := O2.same h4
            have A3 := A2.same h4
            have G3 := grownBy_trans G2 h4
            have hKl := hN
            have HSb := Lib.hid hsl
            have hsl : S.length ≤ 1000000 := by omega
            obtain ⟨P, rfl⟩ : ∃ P, P = N := ⟨_, rfl⟩
            clear O2 A2 HNo HYes HN1 HN2 HN3 hN h3
            have hcap := O3.cap
            have hP0 : (0 : Int) ≤ (P : Int) := by omega
            have hP1 : (P : Int) ≤ (S.length : Int) := by omega
            have hP2 : (P : Int) ≤ (oc : Int) := by omega
            have hP3 : (S.length : Int) ≤ (oc : Int) := by omega
            have hsz := G3.size
            refine wp_region_any (by kernel_rfl) ?_
            (refine Tail.take_put 8 75 (.slice oa S.length oc) rfl rfl (by kernel_rfl) (by kernel_rfl) (by kernel_rfl) (fun _ _ _ h => h) (Or.inl ⟨by rfl, fun w => ?_⟩) ?_; · go_simp); simp only [List.setIfInBounds_toArray, List.set_cons_zero, List.set_cons_succ]
            (refine Tail.take_put 9 76 (.int .i64 P) rfl rfl (by kernel_rfl) (by kernel_rfl) (by kernel_rfl) (fun _ _ _ h => h) (Or.inl ⟨by rfl, fun w => ?_⟩) ?_; · go_simp); simp only [List.setIfInBounds_toArray, List.set_cons_zero, List.set_cons_succ]
            (refine Tail.take_put 10 77 (.slice (if oc = P then oa else oa.map (·.add (P * 2))) (S.length - P) (oc - P)) rfl rfl (by kernel_rfl) (by kernel_rfl) (by kernel_rfl) (fun _ _ _ h => h) (Or.inl ⟨by rfl, fun w => ?_⟩) ?_; · go_simp); simp only [List.setIfInBounds_toArray, List.set_cons_zero, List.set_cons_succ]
            have RD := Lib.hid fun w' (h : Own tagF 2 43 w.heap.size w' (.slice oa S.length oc) S) => h.rd.drop tagF_len hKl hcap (oc - P)
            generalize (if oc = P then oa else oa.map (·.add (P * 2))) = od at *
            (refine Rg.wpAny_rg 7 #[] #[false, false, false, false, false, false, false, false, true, true, true, false, false] (fun w w' => World.grownBy w w' none) (fun _ _ _ _ _ => False) (by kernel_rfl) (by kernel_rfl) rfl (by kernel_rfl) (by simp only [Rg.tailL, List.drop]; decide) (fun w => grownBy_refl w none) (fun _ _ _ h k => grownBy_trans h k) (fun _ _ _ _ _ h => h) ?_; simp only [List.take, List.drop, Rg.tailL]; simp (decide := true) only [if_true, if_false])
            have Gd : wc.grownBy wc.drew none := (by (repeat (first | exact grownBy_refl _ _ | assumption | refine grownBy_new_block ?_ _ | refine grownBy_drew ?_ | refine grownBy_drewN ?_ _ | refine grownBy_setNew ?_ (by first | (simp; done) | omega | (simp; omega)) _)))
            have Kd := grownBy_trans G3 Gd
            have hb1 : (S.take P).length = P := by simp; omega
            have hb2 : (S.take P).length * 32 ≤ 140737488355328 := by rw [hb1]; omega
            have hb3 : (S.take P).length ≤ 9223372036854775807 := by rw [hb1]; omega
            have hb4 : ((S.take P).length + 1) * 32 ≤ 140737488355328 := by rw [hb1]; omega
            have hb5 : (S.take P).length + 1 ≤ 9223372036854775807 := by rw [hb1]; omega
            have hb6 : (S.take P ++ [x]).length = P + 1 := by rw [List.length_append, hb1]; rfl
            have hb7 : (S.drop P).length = S.length - P := by simp
            have hb8 : ((S.take P ++ [x]).length + (S.drop P).length) * 32 ≤ 140737488355328 := by rw [hb6, hb7]; omega
            have hb9 : (S.take P ++ [x]).length + (S.drop P).length ≤ 9223372036854775807 := by rw [hb6, hb7]; omega
            have Hb1 := Lib.hid hb1.symm
            have Hb7 := Lib.hid hb7.symm
            clear hb1 hb6 hb7
            (refine Rg.tree_op rfl rfl ?_; intro y0 my0 dy0)
            clear dy0
            have zy0 : w.heap.size ≤ y0.heap.size := (grownBy_trans Kd my0).size
            go_wp2_with fail
            refine ⟨World.grownBy_alloc _ _ _, ?_⟩
            have N0 := own_lit0 (e := 43) tagF 2 zy0
            have hg0 : wc.heap.size ≤ y0.heap.size := (grownBy_trans Gd my0).size
            generalize y0.alloc (.cells #[] 43) = e0 at *
            generalize y0.heap.size = g0 at *
            (refine Rg.tree_quiet 3 rfl (by first | exact Or.inl rfl | exact Or.inr rfl) ?_; simp only [List.take, List.drop, List.length_cons, List.length_nil, List.replicate, Nat.reduceAdd]; (try simp only [List.cons_append]); (try simp only [List.nil_append]); (repeat (go_big_quiet_step (fail))); refine wpQuiet_nil ?_)
            (refine Rg.tree_op rfl rfl ?_; intro y4 my4 dy4)
            have N4 := N0.same (dy4.out 0 (by omega) (by kernel_rfl))
            have K4 := grownBy_trans Gd my4
            have R4 := (O3.rd.take tagF_len hKl oc).same K4
            have z4 := (grownBy_trans Kd my4).size
            go_wp2_with (at_builtin; refine app_lit elt_tag one_tag N4 R4 Hb1.out hb2 hb3 z4 (by rfl) _ _ (by rfl) (by rfl) (by rfl) ?_; intro v4 e4 o4 g4 l4; have Hg4 := Lib.hid g4; clear g4)
            refine ⟨Hg4.out, ?_⟩
            have hv4 := Lies.ge l4 (fun k hk => Nat.le_trans hg0 (ge_new _ _ _ k hk)) K4.size
            clear R4 N0 N4 K4 z4 dy4 l4
            (refine Rg.tree_op rfl rfl ?_; intro y5 my5 dy5)
            clear dy5
            have a5 := (A3.same (grownBy_trans Gd my5)).cell
            go_wp2_with fail
            refine ⟨grownBy_refl _ _, ?_⟩
            clear a5
            (refine Rg.tree_op rfl rfl ?_; intro y6 my6 dy6)
            clear dy6
            go_wp2_with fail
            refine ⟨World.grownBy_alloc _ _ _, ?_⟩
            have N6 := Blk.new y6 #[.string x.name, .string x.value] 43
            generalize y6.alloc (.cells #[.string x.name, .string x.value] 43) = e6 at *
            generalize y6.heap.size = g6 at *
            (refine Rg.tree_nil ?_; intro z mz dz cz)
            have o5 := o4.same (dz.out 4 (by omega))
            have N7 := (N6.same (dz.out 6 (by omega))).one tagF_len x rfl
            have Kz := grownBy_trans Gd mz
            have KK := grownBy_trans Kd mz
            have z7 := KK.size
            have O7 := O3.same Kz
            have hlo : ∀ k, Value.ownBlock (.slice oa S.length oc) = some k → k < wc.heap.size := fun k hk => (O3.lt k hk).2
            have tok := Lib.hid hP0
            clear dz cz my0 my4 my5 my6 mz Hg4 Kz N6 o4 O3 A3 hg0 zy0 Gd Kd
            go_wp2_with (first
              | (at_builtin; have _t := tok; refine app elt_tag one_tag o5 N7 rfl hb4 hb5 z7 (by rfl) _ _ (by rfl) (by rfl) (by rfl) ?_; intro v7 w7 o7 g7 l7; clear tok; have K7 := grown_own KK o5 (Nat.le_refl _) g7; have R8 := RD.out _ (O7.kept g7 (fun k hk e => by have := hlo k hk; have := hv4 k e; omega)); have z8 := K7.size)
              | (at_builtin; refine app elt_tag one_tag o7 R8 Hb7.out hb8 hb9 z8 (by rfl) _ _ (by rfl) (by rfl) (by rfl) ?_; intro v8 w8 o8 g8 l8; have K8 := grown_own K7 o7 (Nat.le_refl _) g8))
            exact ⟨⟨j + 1, by omega, by go_num, HD2.out, by rw [HT2.out, HI.out]; exact o8, K8⟩, by simp [intOf]; omega⟩
        · have hke : L.take j = L := List.take_of_length_le (by omega)
          rw [hke] at hO HDf
          have HE := Lib.hid (sortE_ok Hfew.out HT.out HDf.out)
          obtain ⟨oa, oc, rfl⟩ := hO.shape
          have HO := Lib.hid hO
          clear hO hke
          go_wp2_with fail
          go_ret2
          exact ⟨_, by rw [HE.out]; rfl, by rw [HE.out, if_pos rfl]; exact HO.out, hg⟩
end Go.Proofs.Ytkdbapbmbhmaiaa

/- The key of tags: the reference. -/
namespace Go.Proofs.Ytkdbapbmbhmaiaa
open Go.RowKit Go.Sort

theorem conv1b (w : World) (g : Nat) (b : UInt8) (h : w.cell? ⟨g, 0, none⟩ = some (.int .u8 b.toNat)) : (convert 75 9 (.slice (some ⟨g, 0, none⟩) 1 1)).run Try.prog w = .ok (.string ⟨#[b]⟩) w := by
  rw [run_convert_bytes_string w 75 9 5 _ 1 1 Try.underlying75 Try.underlying5 Try.underlying9]
  rw [run_bytesToString w ⟨g, 0, none⟩ 1 1 [(b.toNat : Int)]]
  · show Result.ok (Value.string _) w = _
    congr 2
    simp [ByteArray.push, ByteArray.empty, ByteArray.emptyWithCapacity]
    all_goals rfl
  · exact run_loadCells_list w ⟨g, 0, none⟩ [.int .u8 b.toNat] (fun j v hv => by
      cases j with
      | zero => simp at hv; subst hv; exact h
      | succ j => simp at hv)
theorem ba_app (a b : ByteArray) : (a ++ b).data.toList = a.data.toList ++ b.data.toList := by
  simp [ByteArray.data_append]
theorem ba_eq {a : ByteArray} {l : List UInt8} (h : a.data.toList = l) : a = ⟨l.toArray⟩ := by
  obtain ⟨⟨x⟩⟩ := a
  subst h; rfl
theorem by_len {n : Nat} : IntKind.u8.wrap (n : Int) = (((UInt8.ofNat n).toNat : Nat) : Int) := by
  rw [by_wrap, UInt8.toNat_ofNat']
def KeyP (L : List TagR) (w : World) (e : Ending) (w' : World) : Prop := e = .returned (.tuple #[.string (keyY L), .int .i64 (keyE L)]) ∧ w.grownBy w' none

set_option maxHeartbeats 1000000 in
set_option maxRecDepth 100000 in
theorem rkeyT_c (v : Value) (L : List TagR) (w : World) (h : RdL tagF 2 w v L) (hW : ∀ t ∈ L, TagW t) : Calls Try.prog 11 #[v] w (KeyP L w) := by
  obtain ⟨a, c, rfl⟩ := h.shape
  have C := Lib.hid (rsortT_c _ L w h hW)
  have HK := Lib.hid (show keyE L = if sortE L ≠ 0 then sortE L else if 255 < (kyB (sortT L)).length then 4 else 0 from rfl)
  have HY := Lib.hid (show keyY L = if keyE L = 0 then ⟨(kyB (sortT L)).toArray⟩ else ⟨#[]⟩ from rfl)
  have H0 := Lib.hid (sortE_0 (L := L))
  have Hlen := Lib.hid (sortT_len L)
  have HM := Lib.hid (sortT_mem L)
  clear h hW
  go_enter Try.func11, Try.ntmps11
  by_cases hE : sortE L = 0
  · have C2 := C.out
    unfold SortP at C2
    rw [hE, if_pos rfl] at C2
    have C3 := Lib.hid C2
    obtain ⟨h0, h8, ht, -⟩ := H0.out hE
    have HK2 := Lib.hid (HK.out.trans (if_neg (by omega)))
    have HT := Lib.hid (fun t h => tagE_ok (ht t ((HM.out t).1 h)) : ∀ t ∈ sortT L, _)
    clear C C2 HK H0 HM ht hE
    generalize sortT L = S at *
    have hSl : (S.length : Int) ≤ 8 := by have := Hlen.out; omega
    go_wp2_with (go_at_call 26; refine C3.out.mono ?_; rintro e w2 ⟨v2, rfl, o2, g2⟩; obtain ⟨a2, c2, rfl⟩ := o2.shape)
    have HO := Lib.hid o2
    have HG := Lib.hid g2
    clear o2 g2
    go_loopw [19, 6] (fun s19 s6 wk => ∃ (k : Nat) (O : ByteArray), k ≤ S.length ∧ s19 = .int .i64 k ∧ s6 = .string O ∧ O.data.toList = kyB (S.take k) ∧ O.size ≤ 98 * k ∧ w2.grownBy wk none) (fun s19 _ _ => S.length - (intOf s19).toNat)
    case atStart => exact ⟨0, ⟨#[]⟩, Nat.zero_le _, rfl, rfl, rfl, by simp [ByteArray.size], grownBy_refl _ _⟩
    case round =>
      obtain ⟨k, O, hk, rfl, rfl, hO, hOl, hg⟩ := hrel
      have HOl := Lib.hid hO
      clear hO
      by_cases hlt : k < S.length
      · obtain ⟨gx, ox, cx, hv, hgx, hcx⟩ := (RdL.same HO.out.rd hg).at_ tagF_len hlt
        cases hv
        have c0 := hcx 0 _ rfl
        have c1 := hcx 1 _ rfl
        rw [Nat.add_zero] at c0
        obtain ⟨-, -, hn32, hv64⟩ := HT.out _ (List.getElem_mem hlt)
        have HS := Lib.hid (show kyB (S.take (k + 1)) = kyB (S.take k) ++ tkB S[k] by rw [List.take_succ_eq_append_getElem hlt, kyB_snoc])
        clear hcx
        generalize S[k] = x at *
        have hw1 := by_len (n := x.name.size)
        have hw2 := by_len (n := x.value.size)
        have HB := Lib.hid (show tkB x = UInt8.ofNat x.name.size :: nmB x ++ (UInt8.ofNat x.value.size :: vlB x) from rfl)
        obtain ⟨b1, hb1⟩ : ∃ b, UInt8.ofNat x.name.size = b := ⟨_, rfl⟩
        obtain ⟨b2, hb2⟩ : ∃ b, UInt8.ofNat x.value.size = b := ⟨_, rfl⟩
        rw [hb1] at hw1 HB
        rw [hb2] at hw2 HB
        clear hb1 hb2
        have hc1 := fun w' g h => conv1b w' g b1 h
        have hc2 := fun w' g h => conv1b w' g b2 h
        go_wp2_with fail
        have hsz : (O ++ (⟨#[b1]⟩ ++ x.name ++ ⟨#[b2]⟩ ++ x.value)).size ≤ 98 * (k + 1) := by
          simp only [ByteArray.size_append]
          have e1 : (⟨#[b1]⟩ : ByteArray).size = 1 := rfl
          have e2 : (⟨#[b2]⟩ : ByteArray).size = 1 := rfl
          rw [e1, e2]; omega
        exact ⟨⟨k + 1, _, by omega, by go_num, rfl, by rw [HS.out, HB.out]; simp only [ba_app]; rw [HOl.out]; simp [nmB, vlB], hsz, grownBy_new_block (grownBy_new_block (grownBy_new_block hg _) _) _⟩, by simp [intOf]; omega⟩
      · have hke : S.take k = S := List.take_of_length_le (by omega)
        have HOf := HOl.out
        rw [hke] at HOf
        clear hke
        by_cases hlong : 255 < O.size
        · have j1 : (255 : Int) < (O.size : Int) := by omega
          have HF := Lib.hid (show keyE L = 4 by rw [HK2.out, ← HOf, if_pos (show 255 < O.data.toList.length from hlong)])
          clear hlong HOf
          go_wp2_with fail
          go_ret2
          exact ⟨by rw [HF.out, HY.out, HF.out]; rfl, grownBy_trans HG.out hg⟩
        · have j1 : (O.size : Int) ≤ 255 := by omega
          have HF := Lib.hid (show keyE L = 0 by rw [HK2.out, ← HOf, if_neg (show ¬ 255 < O.data.toList.length from hlong)])
          have HQ := Lib.hid (show keyY L = O by rw [HY.out, HF.out, if_pos rfl]; exact (ba_eq HOf).symm)
          clear hlong HOf
          go_wp2_with fail
          go_ret2
          exact ⟨by rw [HF.out, HQ.out]; rfl, grownBy_trans HG.out hg⟩
  · have C2 := C.out
    unfold SortP at C2
    have HF := Lib.hid (HK.out.trans (if_pos hE))
    have HF2 := Lib.hid (show keyY L = ⟨#[]⟩ by rw [HY.out, HF.out, if_neg hE])
    generalize sortE L = EE at *
    rw [if_neg hE] at C2
    have C3 := Lib.hid C2
    have he2 : (EE != 0) = true := by simpa using hE
    have he3 : (EE == 0) = false := by simpa using hE
    clear C C2 HK H0 HM hE
    go_wp2_with (go_at_call 26; refine C3.out.mono ?_; rintro e w2 ⟨v2, rfl, o2, g2⟩; obtain ⟨a2, c2, rfl⟩ := o2.shape)
    go_ret2
    exact ⟨by rw [HF.out, HF2.out]; rfl, g2⟩
end Go.Proofs.Ytkdbapbmbhmaiaa

/- What the deck makes: tags, keys, weights. -/
namespace Go.Proofs.Ytkdbapbmbhmaiaa
open Go.RowKit Go.Sort

theorem own_lit1 {α : Type} {f : α → List Value} {s : Nat} {e : TypeId} {B : Nat} {w : World} (hf : ∀ x, (f x).length = s) {cs : Array Value} {y : α} (hcs : cs.toList = f y) (hB : B ≤ w.heap.size) : Own f s e B (w.alloc (.cells cs e)) (.slice (some ⟨w.heap.size, 0, none⟩) 1 1) [y] := by
  have hl : cs.size = s := by rw [← hf y, ← hcs]; exact Array.length_toList.symm
  refine ⟨by simp [cellsOf, hf], .inr ⟨w.heap.size, 1, cs, rfl, hB, heap_alloc_new w _, by simp, by unfold maxLen; omega, by simp [hl], ?_⟩⟩
  simp only [cellsOf, List.flatMap_cons, List.flatMap_nil, List.append_nil, List.length_singleton, Nat.one_mul]
  rw [← hcs, List.take_of_length_le (by rw [Array.length_toList, hl]; exact Nat.le_refl _)]
section
variable {α : Type} {f : α → List Value} {st e : TypeId} {z : Value} {size bytes : Nat} {w : World} {B : Nat} {v : Value} {l : List α}
variable {o : Oper} {a : Act} {ops : Array Oper} {rest : List Oper} {Q : Exit → Act → World → Prop}
theorem app_oneG (E : Elt st e z size bytes) (h1 : OneF f) (hf : ∀ x, (f x).length = size) (hown : Own f size e B w v l) (y : α) (hb : (l.length + 1) * bytes ≤ 140737488355328) (h63 : l.length + 1 ≤ 9223372036854775807) (hbase : B ≤ w.heap.size) {te : TypeId} {cs : Array Value} (hcs : cs.toList = f y) {g : Nat} (hg : w.heap.size = g)
    (hgd : o.guard = none) (s x : Operand) (ho : o.op = .call { callee := .builtin .append, args := #[s, x], argTypes := #[st, st] }) (hs : a.eval s = v) (hx : a.eval x = .slice (some ⟨g, 0, none⟩) 1 1)
    (h : ∀ v' w', Own f size e B w' v' (l ++ [y]) → w.grownBy w' v.ownBlock → Lies v v' w.heap.size → wpList Try.prog ops Q rest (a.put o.dst v') w') : wpList Try.prog ops Q (o :: rest) a (w.alloc (.cells cs te)) := by
  subst hg
  exact app_one E h1 hf hown y hb h63 hbase hcs hgd s x ho hs hx h
end
def WordD (B b : Nat) (w : World) (e : Ending) (w' : World) : Prop := ∃ r, e = .returned (.int .u64 r) ∧ W64 r ∧ Deck B w' b ∧ w.grownBy w' (some b)
theorem wordD {B b : Nat} {w w' : World} {r : Int} (h : W64 r) (hd : Deck B w' b) (hg : w.grownBy w' (some b)) : WordD B b w (.returned (.int .u64 r)) w' := ⟨r, rfl, h, hd, hg⟩

set_option maxHeartbeats 400000 in
theorem small_c {B : Nat} (b : Nat) (w : World) (hd : Deck B w b) : Calls Try.prog 19 #[.pointer (some ⟨b, 0, none⟩)] w (WordD B b w) := by
  go_enter Try.func19, Try.ntmps19
  go_wp2_with fail
  refine (next_c b _ w hd (by omega) (by omega)).mono ?_
  rintro e w1 ⟨r1, rfl, ha1, hb1, hd1, hg1⟩
  have hw : IntKind.u64.wrap (1 + r1) = 1 + r1 := IntWalk.u64_in _ (by omega)
  go_wp2_with fail
  go_ret
  exact wordD ⟨by omega, by omega⟩ hd1 hg1
theorem w64_wrapT (x : Int) : W64 (IntKind.u64.wrap x) := by
  have := IntKind.wrap_u64 x
  unfold W64; rw [this]; omega
/-- What the deck's tags are. -/
structure TagsM (L : List TagR) : Prop where
  few : 1 ≤ L.length ∧ L.length ≤ 2
  ok : ∀ t ∈ L, tagE t = 0
  size : ∀ t ∈ L, t.name.size ≤ 6 ∧ t.value.size ≤ 10
  dif : Dif L
theorem nm_k (b : UInt8) : tagE ⟨⟨#[107]⟩, ⟨#[b]⟩⟩ = 0 := by
  simp [tagE, nmB, letB, ByteArray.size]
theorem nm_ab : tagE ⟨⟨#[97, 46, 98]⟩, ⟨#[]⟩⟩ = 0 := by
  simp [tagE, nmB, letB, ByteArray.size]
def hostN (b : UInt8) : ByteArray := ⟨#[104, 111, 115, 116, 45]⟩ ++ ⟨#[b]⟩
theorem hostN_data (b : UInt8) : (hostN b).data.toList = [104, 111, 115, 116, 45, b] := by
  unfold hostN; rw [ba_app]; rfl
theorem nm_host {b : UInt8} (h : 48 ≤ b.toNat ∧ b.toNat ≤ 50) (v : ByteArray) (hv : v.size = 10) : tagE ⟨hostN b, v⟩ = 0 := by
  have hs : (hostN b).size = 6 := by
    have : (hostN b).data.toList.length = 6 := by rw [hostN_data]; rfl
    exact this
  unfold tagE
  have hl : letB b = true := by simp [letB]; omega
  rw [if_neg (by unfold nmB; rw [hostN_data]; simp [hl]; simp [letB]), if_neg (by simp only [hs]; omega), if_neg (by simp only [hs, hv]; omega)]
theorem tagsM1 (b : UInt8) : TagsM [⟨⟨#[107]⟩, ⟨#[b]⟩⟩] := ⟨by simp, by intro t ht; rw [List.mem_singleton.1 ht]; exact nm_k b, by intro t ht; rw [List.mem_singleton.1 ht]; simp [ByteArray.size], by simp [Dif]⟩
theorem tagsM2 (b : UInt8) : TagsM ([⟨⟨#[107]⟩, ⟨#[b]⟩⟩] ++ [⟨⟨#[97, 46, 98]⟩, ⟨#[]⟩⟩]) :=
  ⟨by simp, by intro t ht; simp at ht; rcases ht with rfl | rfl; exact nm_k b; exact nm_ab, by intro t ht; simp at ht; rcases ht with rfl | rfl <;> simp [ByteArray.size], by simp [Dif, nmB]⟩
theorem tagsM3 (b c : UInt8) (h : 48 ≤ c.toNat ∧ c.toNat ≤ 50) : TagsM ([⟨⟨#[107]⟩, ⟨#[b]⟩⟩] ++ [⟨hostN c, ⟨#[48, 49, 50, 51, 52, 53, 54, 55, 56, 57]⟩⟩]) := by
  have hs : (hostN c).size = 6 := by
    have : (hostN c).data.toList.length = 6 := by rw [hostN_data]; rfl
    exact this
  refine ⟨by simp, ?_, ?_, ?_⟩
  · intro t ht; simp at ht; rcases ht with rfl | rfl
    · exact nm_k b
    · exact nm_host h _ rfl
  · intro t ht; simp at ht; rcases ht with rfl | rfl
    · simp [ByteArray.size]
    · exact ⟨by show (hostN c).size ≤ 6; omega, by show (10 : Nat) ≤ 10; omega⟩
  · simp [Dif, nmB, hostN_data]
def TagsD (B b : Nat) (w : World) (e : Ending) (w' : World) : Prop := ∃ v L, e = .returned v ∧ Own tagF 2 43 w.heap.size w' v L ∧ TagsM L ∧ Deck B w' b ∧ w.grownBy w' (some b)

set_option maxHeartbeats 1000000 in
set_option maxRecDepth 100000 in
theorem tagsD_c {B : Nat} (b : Nat) (w : World) (hd : Deck B w b) (hB : B ≤ w.heap.size) : Calls Try.prog 35 #[.pointer (some ⟨b, 0, none⟩)] w (TagsD B b w) := by
  have hbB := hd.below
  go_enter Try.func35, Try.ntmps35
  go_upto_region 2 with (go_at_call 14; refine (next_c b _ w hd (by omega) (by omega)).mono ?_; rintro e w1 ⟨r1, rfl, ha1, hb1, hd1, hg1⟩)
  obtain ⟨k, rfl⟩ := Int.eq_ofNat_of_zero_le ha1
  obtain ⟨b1, hb1e⟩ : ∃ b1 : UInt8, UInt8.ofNat (97 + k) = b1 := ⟨_, rfl⟩
  have hw1 : IntKind.u8.wrap (97 + (k : Int)) = (b1.toNat : Int) := by
    have := by_len (n := 97 + k)
    rw [hb1e] at this
    rw [← this]; congr 1
  have hc1 := fun w' g h => conv1b w' g b1 h
  clear hb1e
  go_upto_region 3 with fail
  have hz1 : w.heap.size ≤ (w1.alloc (.cells #[.int .u8 b1.toNat] 5)).heap.size := by have := hg1.size; simp; omega
  have O2 := own_lit1 (f := tagF) (s := 2) (e := 43) (w := w1.alloc (.cells #[.int .u8 b1.toNat] 5)) tagF_len (cs := #[.string ⟨#[107]⟩, .string ⟨#[b1]⟩]) (y := ⟨⟨#[107]⟩, ⟨#[b1]⟩⟩) rfl hz1
  have G2 : w1.grownBy ((w1.alloc (.cells #[.int .u8 b1.toNat] 5)).alloc (.cells #[.string ⟨#[107]⟩, .string ⟨#[b1]⟩] 43)) none := grownBy_new_block (World.grownBy_alloc _ _ _) _
  have hsz : (w1.alloc (.cells #[.int .u8 b1.toNat] 5)).heap.size = w1.heap.size + 1 := by simp
  have hgB : B ≤ (w1.alloc (.cells #[.int .u8 b1.toNat] 5)).heap.size := by omega
  rw [hsz] at O2 hgB
  clear hz1 hsz
  generalize (w1.alloc (.cells #[.int .u8 b1.toNat] 5)).alloc (.cells #[.string ⟨#[107]⟩, .string ⟨#[b1]⟩] 43) = w2 at *
  generalize w1.heap.size + 1 = g2 at *
  have D2 := hd1.kept G2 (by simp)
  have K2 := Lib.hid (grownBy_trans hg1 (grownBy_some G2 (some b)))
  have HO2 := Lib.hid O2
  clear hc1 hw1 O2 G2 hd1 hg1
  go_upto_region 4 with (go_at_call 14; refine (next_c b _ w2 D2 (by omega) (by omega)).mono ?_; rintro e w3 ⟨r2, rfl, ha2, hb2, hd3, hg3⟩)
  have K3 := Lib.hid (grownBy_trans K2.out hg3)
  have HO3 := Lib.hid (HO2.out.kept hg3 (fun k hk e => by cases e; have := (HO2.out.lt _ hk).1; omega))
  have hz3 := K3.out.size
  have hbs : (([⟨⟨#[107]⟩, ⟨#[b1]⟩⟩] : List TagR).length + 1) * 32 ≤ 140737488355328 := by simp
  have hbt : ([⟨⟨#[107]⟩, ⟨#[b1]⟩⟩] : List TagR).length + 1 ≤ 9223372036854775807 := by simp
  have fin : ∀ v' w' L, Own tagF 2 43 w.heap.size w' v' L → TagsM L → ∀ x, World.grownBy w3 x (some b) → Deck B x b → (x.grownBy w' (Value.ownBlock (.slice (some ⟨g2, 0, none⟩) 1 1))) → TagsD B b w (.returned v') w' := by
    intro v' w' L ho hm x hx hdx hg
    refine ⟨v', L, rfl, ho, hm, hdx.kept hg (by
      intro k e
      have : g2 = k := by simpa [Value.ownBlock] using e
      omega), ?_⟩
    have h1 := grownBy_trans K3.out hx
    exact grownBy_new h1 hg (HO2.out.lt g2 rfl).1
  have Hfin := Lib.hid fin
  clear HO2 K2 D2 fin
  by_cases h0 : r2 = 0
  · subst h0
    go_wp2_with (at_builtin; refine app_one elt_tag one_tag tagF_len HO3.out ⟨⟨#[97, 46, 98]⟩, ⟨#[]⟩⟩ hbs hbt hz3 (by rfl) rfl _ _ (by rfl) (by rfl) (by rfl) ?_; intro v5 w5 o5 g5 l5)
    go_ret
    exact Hfin.out _ _ _ o5 (tagsM2 b1) _ (grownBy_refl _ _) hd3 g5
  by_cases h1 : r2 = 1
  · subst h1
    clear h0
    have HN := Lib.hid fun m h0 h1 => next_c b m w3 hd3 h0 h1
    go_wp2_with fail
    refine (HN.out _ (by omega) (by omega)).mono ?_
    rintro e w4 ⟨r3, rfl, ha3, hb3, hd4, hg4⟩
    obtain ⟨q, rfl⟩ := Int.eq_ofNat_of_zero_le ha3
    obtain ⟨c1, hc1e⟩ : ∃ c1 : UInt8, UInt8.ofNat (48 + q) = c1 := ⟨_, rfl⟩
    have hcr : 48 ≤ c1.toNat ∧ c1.toNat ≤ 50 := by rw [← hc1e, UInt8.toNat_ofNat']; omega
    have hw1 : IntKind.u8.wrap (48 + (q : Int)) = (c1.toNat : Int) := by
      have := by_len (n := 48 + q)
      rw [hc1e] at this
      rw [← this]; congr 1
    have hc1 := fun w' g h => conv1b w' g c1 h
    have HM := Lib.hid (tagsM3 b1 c1 hcr)
    clear hc1e hcr
    have HO4 := Lib.hid (HO3.out.kept hg4 (by
      intro k hk e
      cases e
      have : g2 = b := by simpa [Value.ownBlock] using hk
      omega))
    have hz4 := Nat.le_trans hz3 hg4.size
    have O4 := HO4.out.same (World.grownBy_alloc w4 (.cells #[.int .u8 c1.toNat] 5) none)
    have hz5 : w.heap.size ≤ (w4.alloc (.cells #[.int .u8 c1.toNat] 5)).heap.size := by simp; omega
    have G4 := grownBy_trans hg4 (World.grownBy_alloc w4 (.cells #[.int .u8 c1.toNat] 5) (some b))
    have D4 := hd4.kept (World.grownBy_alloc w4 (.cells #[.int .u8 c1.toNat] 5) none) (by simp)
    have Hcs := Lib.hid (show (#[Value.string (⟨#[104, 111, 115, 116, 45]⟩ ++ ⟨#[c1]⟩), Value.string ⟨#[48, 49, 50, 51, 52, 53, 54, 55, 56, 57]⟩] : Array Value).toList = tagF ⟨hostN c1, ⟨#[48, 49, 50, 51, 52, 53, 54, 55, 56, 57]⟩⟩ from rfl)
    have hg6 : (w4.alloc (.cells #[.int .u8 c1.toNat] 5)).heap.size = w4.heap.size + 1 := by simp
    have Hg6 := Lib.hid hg6
    clear hg6
    go_wp2_with (at_builtin; refine app_oneG elt_tag one_tag tagF_len O4 ⟨hostN c1, ⟨#[48, 49, 50, 51, 52, 53, 54, 55, 56, 57]⟩⟩ hbs hbt hz5 Hcs.out Hg6.out rfl _ _ (by rfl) (by rfl) (by rfl) ?_; intro v5 w5 o5 g5 l5)
    go_ret
    exact Hfin.out _ _ _ o5 HM.out _ G4 D4 g5
  have f0 : ((r2 : Int) == 0) = false := by simpa using h0
  have f1 : ((r2 : Int) == 1) = false := by simpa using h1
  clear h0 h1
  go_wp2_with fail
  go_ret
  exact ⟨_, _, rfl, HO3.out, tagsM1 b1, hd3, K3.out⟩
end Go.Proofs.Ytkdbapbmbhmaiaa

/- Numbers as bytes: the reference. -/
namespace Go.Proofs.Ytkdbapbmbhmaiaa
open Go.RowKit Go.Sort
end Go.Proofs.Ytkdbapbmbhmaiaa

/- A buffer of bytes behind a pointer; texts that are appended. -/
namespace Go.Proofs.Ytkdbapbmbhmaiaa
open Go.RowKit Go.Sort

def natF (n : Nat) : List Value := [.int .u64 n]
theorem natF_len (n : Nat) : (natF n).length = 1 := rfl
theorem nat_one (n : Nat) : natF n = [Value.int .u64 n] := rfl
def vbs (ns : List Nat) : List UInt8 := ns.flatMap vb
theorem vbs_snoc (ns : List Nat) (n : Nat) : vbs (ns ++ [n]) = vbs ns ++ vb n := by simp [vbs]
theorem vbs_len {ns : List Nat} (h : ∀ n ∈ ns, n < 18446744073709551616) : (vbs ns).length ≤ 10 * ns.length := by
  induction ns with
  | nil => simp [vbs]
  | cons n ns ih =>
    have h1 := ih fun x hx => h x (List.mem_cons_of_mem _ hx)
    have h2 := vb_ten (h n (by simp))
    simp only [vbs, List.flatMap_cons, List.length_append, List.length_cons] at *
    omega
/-- The buffer at g. -/
structure BufAt (B : Nat) (w : World) (g : Nat) (l : List UInt8) : Prop where
  ex : ∃ v, Blk w g #[v] ∧ Own byF 1 5 B w v l
  lt : g < B
theorem BufAt.base {B B' : Nat} {w : World} {g : Nat} {l : List UInt8} (h : BufAt B w g l) (hB : B' ≤ B) (hg : g < B') : BufAt B' w g l := by
  obtain ⟨v, h1, h2⟩ := h.ex
  exact ⟨⟨v, h1, h2.base fun k hk => Nat.le_trans hB (h2.lt k hk).1⟩, hg⟩
theorem BufAt.same {B : Nat} {w w' : World} {g : Nat} {l : List UInt8} (h : BufAt B w g l) (hg : w.grownBy w' none) : BufAt B w' g l := by
  obtain ⟨v, h1, h2⟩ := h.ex
  exact ⟨⟨v, h1.same hg, h2.same hg⟩, h.lt⟩
def baseK (B h k : Nat) : Nat := if k = 0 then B else h
theorem baseK_0 (B h : Nat) : baseK B h 0 = B := rfl
theorem baseK_s (B h : Nat) {k : Nat} (hk : k ≠ 0) : baseK B h k = h := if_neg hk
def NumPost (B : Nat) (w : World) (g : Nat) (l : List UInt8) (e : Ending) (w' : World) : Prop := e = .returned (.tuple #[]) ∧ BufAt B w' g l ∧ w.grownBy w' (some g)

theorem cells_str (s : ByteArray) : cellsOf byF s.data.toList = Lib.strCells s := by
  have : ∀ l : List UInt8, cellsOf byF l = l.map fun b => Value.int .u8 b.toNat := by
    intro l
    induction l with
    | nil => rfl
    | cons x l ih => simp only [cellsOf, List.flatMap_cons, List.map_cons] at *; rw [ih]; rfl
  rw [this]; rfl
theorem info_by : (Try.prog.info? 5).map (fun i => (i.zero, i.size, i.bytes)) = some (some (.int .u8 0), 1, 1) := by kernel_rfl
theorem app_str {B : Nat} {w : World} {v : Value} {l : List UInt8} {o : Oper} {a : Act} {ops : Array Oper} {rest : List Oper} {Q : Exit → Act → World → Prop} (hown : Own byF 1 5 B w v l) (s : ByteArray) (hb : l.length + s.size ≤ 140737488355328) (hbase : B ≤ w.heap.size)
    (hgd : o.guard = none) (sl x : Operand) (ho : o.op = .call { callee := .builtin .append, args := #[sl, x], argTypes := #[75, 9] }) (hs : a.eval sl = v) (hx : a.eval x = .string s)
    (h : ∀ v' w', Own byF 1 5 B w' v' (l ++ s.data.toList) → w.grownBy w' v.ownBlock → wpList Try.prog ops Q rest (a.put o.dst v') w') : wpList Try.prog ops Q (o :: rest) a w := by
  obtain ⟨i, hi, hz0, hz1, hz2⟩ := info_parts info_by
  refine Lib.wpList_append_own_string w hgd sl x 75 9 ho B 5 i Try.underlying75 Try.underlying9 hi hz0 hz1 hz2 v l.length _ hs hown s hx (by unfold maxLen; omega) hb hbase fun v' w' h1 h2 _ => h v' w' ?_ h2
  unfold Own
  rw [cellsOf_append, cells_str, List.length_append]
  have e : s.data.toList.length = s.size := Array.length_toList
  rw [e]; exact h1

end Go.Proofs.Ytkdbapbmbhmaiaa

/- The bytes of events, of frames: the reference. -/
namespace Go.Proofs.Ytkdbapbmbhmaiaa
open Go.RowKit Go.Sort

/-- An event: its tags as they stand, its numbers, what the tags read as. -/
structure EvR where
  (vt : Value) (time weight : Int) (tags : List TagR)
def evF (x : EvR) : List Value := [x.vt, .int .i64 x.time, .int .u64 x.weight]
theorem evF_len (x : EvR) : (evF x).length = 3 := rfl
structure EvOk (x : EvR) : Prop where
  time : 0 ≤ x.time ∧ x.time ≤ 1099511627776
  weight : W64 x.weight
  few : x.tags.length ≤ 3
  size : ∀ t ∈ x.tags, t.name.size ≤ 70 ∧ t.value.size ≤ 70
def tgB (t : TagR) : List UInt8 := vb t.name.size ++ nmB t ++ vb t.value.size ++ vlB t
def tgsB (l : List TagR) : List UInt8 := l.flatMap tgB
theorem tgsB_snoc (l : List TagR) (t : TagR) : tgsB (l ++ [t]) = tgsB l ++ tgB t := by simp [tgsB]
def evB (x : EvR) : List UInt8 := vb x.time.toNat ++ vb x.weight.toNat ++ vb x.tags.length ++ tgsB x.tags
def evsB (l : List EvR) : List UInt8 := l.flatMap evB
theorem evsB_snoc (l : List EvR) (x : EvR) : evsB (l ++ [x]) = evsB l ++ evB x := by simp [evsB]
def bodyB (l : List EvR) : List UInt8 := vb l.length ++ evsB l
def frB (l : List EvR) : List UInt8 := vb (bodyB l).length ++ bodyB l
theorem tgB_len {t : TagR} (h : t.name.size ≤ 70 ∧ t.value.size ≤ 70) : (tgB t).length ≤ 142 := by
  have e1 : (vb t.name.size).length = 1 := by rw [vb_small (by omega)]; rfl
  have e2 : (vb t.value.size).length = 1 := by rw [vb_small (by omega)]; rfl
  unfold tgB
  simp only [List.length_append, nm_len, vl_len]; omega
theorem tgsB_len {l : List TagR} (h : ∀ t ∈ l, t.name.size ≤ 70 ∧ t.value.size ≤ 70) : (tgsB l).length ≤ 142 * l.length := by
  induction l with
  | nil => simp [tgsB]
  | cons a l ih =>
    have h1 := ih fun o ho => h o (List.mem_cons_of_mem _ ho)
    have h2 := tgB_len (h a (by simp))
    simp only [tgsB, List.flatMap_cons, List.length_append, List.length_cons] at *
    omega
theorem evB_len {x : EvR} (h : EvOk x) : (evB x).length ≤ 456 := by
  have h1 := h.time
  have h2 := h.weight
  have h3 := h.few
  have h4 := tgsB_len h.size
  unfold W64 at h2
  have e1 := vb_ten (show x.time.toNat < 18446744073709551616 by omega)
  have e2 := vb_ten (show x.weight.toNat < 18446744073709551616 by omega)
  have e3 := vb_ten (show x.tags.length < 18446744073709551616 by omega)
  unfold evB
  simp only [List.length_append]; omega
theorem evsB_len {l : List EvR} (h : ∀ x ∈ l, EvOk x) : (evsB l).length ≤ 456 * l.length := by
  induction l with
  | nil => simp [evsB]
  | cons a l ih =>
    have h1 := ih fun o ho => h o (List.mem_cons_of_mem _ ho)
    have h2 := evB_len (h a (by simp))
    simp only [evsB, List.flatMap_cons, List.length_append, List.length_cons] at *
    omega
theorem bodyB_len {l : List EvR} (h : ∀ x ∈ l, EvOk x) (hl : l.length ≤ 4) : (bodyB l).length ≤ 1834 := by
  have h1 := evsB_len h
  have e3 := vb_ten (show l.length < 18446744073709551616 by omega)
  unfold bodyB
  rw [List.length_append]; omega
theorem frB_len {l : List EvR} (h : ∀ x ∈ l, EvOk x) (hl : l.length ≤ 4) : (frB l).length ≤ 1844 := by
  have h1 := bodyB_len h hl
  have e3 := vb_ten (show (bodyB l).length < 18446744073709551616 by omega)
  unfold frB
  rw [List.length_append]; omega
def BytesP (l : List UInt8) (w : World) (e : Ending) (w' : World) : Prop := ∃ v, e = .returned (.tuple #[v, .int .i64 0]) ∧ Own byF 1 5 w.heap.size w' v l ∧ w.grownBy w' none
def EvsRd (w : World) (v : Value) (l : List EvR) : Prop := RdL evF 3 w v l ∧ ∀ x ∈ l, RdL tagF 2 w x.vt x.tags
theorem EvsRd.same {w w' : World} {v : Value} {l : List EvR} (h : EvsRd w v l) (hg : w.grownBy w' none) : EvsRd w' v l := ⟨h.1.same hg, fun x hx => (h.2 x hx).same hg⟩

end Go.Proofs.Ytkdbapbmbhmaiaa

/- Values that lie in a range of blocks; append of one element that holds other slices. -/
namespace Go.Proofs.Ytkdbapbmbhmaiaa
open Go.RowKit

theorem notIn_at {g n c b : Nat} (h : g ≠ b) : NotIn (.slice (some ⟨g, 0, none⟩) n c) b := fun a n' c' e => by cases e; exact h
def InB (lo hi : Nat) (v : Value) : Prop := ∀ a n c, v = .slice (some a) n c → lo ≤ a.block ∧ a.block < hi
theorem InB.notIn {lo hi b : Nat} {v : Value} (h : InB lo hi v) (hb : b < lo ∨ hi ≤ b) : NotIn v b := fun a n c e => by have := h a n c e; omega
theorem InB.wide {lo hi lo' hi' : Nat} {v : Value} (h : InB lo hi v) (h1 : lo' ≤ lo) (h2 : hi ≤ hi') : InB lo' hi' v := fun a n c e => by have := h a n c e; omega
/-- The slice lies in blocks from lo on, below hi. -/
theorem Own.inB {α : Type} {f : α → List Value} {s : Nat} {e : TypeId} {B : Nat} {w : World} {v : Value} {l : List α} (h : Own f s e B w v l) : InB B w.heap.size v := by
  intro a n c hv
  rcases h.2 with ⟨rfl, _⟩ | ⟨g, cap, cur, rfl, _⟩
  · cases hv
  · cases hv; exact h.lt g rfl
/-- append of one element in a block of its own, whatever the list's reading says of other elements. -/
theorem app_oneV {α : Type} {f : α → List Value} {st e : TypeId} {z : Value} {size bytes : Nat} {w : World} {B : Nat} {v : Value} {l : List α} {o : Oper} {a : Act} {ops : Array Oper} {rest : List Oper} {Q : Exit → Act → World → Prop}
    (E : Elt st e z size bytes) (hf : ∀ x, (f x).length = size) (hown : Own f size e B w v l) (y : α) (h1 : ∀ u ∈ f y, u.oneCell' = true) (hb : (l.length + 1) * bytes ≤ 140737488355328) (h63 : l.length + 1 ≤ 9223372036854775807) (hbase : B ≤ w.heap.size) {te : TypeId} {cs : Array Value} (hcs : cs.toList = f y)
    (hgd : o.guard = none) (s x : Operand) (ho : o.op = .call { callee := .builtin .append, args := #[s, x], argTypes := #[st, st] }) (hs : a.eval s = v) (hx : a.eval x = .slice (some ⟨w.heap.size, 0, none⟩) 1 1)
    (h : ∀ v' w', Own f size e B w' v' (l ++ [y]) → w.grownBy w' v.ownBlock → Lies v v' w.heap.size → wpList Try.prog ops Q rest (a.put o.dst v') w') : wpList Try.prog ops Q (o :: rest) a (w.alloc (.cells cs te)) := by
  refine wpList_plain hgd fun _ hK => ?_
  have hr := rd_one' hf w y cs te hcs
  obtain ⟨v', w', hrun, h2, h3, h4⟩ := run_app (ty := o.type) E (hown.same (World.grownBy_alloc w (.cells cs te) none)) hr (by simpa [cellsOf] using h1) (by unfold maxLen; exact h63) (by simpa using hb) (by simp; omega)
  unfold Oper.wp execOp
  simp only [ho, resolve, invoke, builtin, Sem.run_bind, Sem.run_pure, Result.andThen_ok, List.map_toArray, List.map_cons, List.map_nil, hs, hx, hrun]
  refine hK _ _ (h v' w' ?_ (grownBy_trans (World.grownBy_alloc w _ _) h3) (h4.imp id fun ⟨g, e1, e2⟩ => ⟨g, e1, by simp at e2; omega⟩))
  unfold Own; rw [cellsOf_append, List.length_append]; exact h2

end Go.Proofs.Ytkdbapbmbhmaiaa
