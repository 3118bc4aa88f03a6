/- The rest and the totals of the deck's summaries: plain laws. -/
import Derived.Test.YtiagjiaahnkefaaFew
import Derived.Test.YtiagjiaahnkefaaRst
import Derived.Test.YtiagjiaahnkefaaAll
namespace Go.Proofs.Ytiagjiaahnkefaa
open Go.RowKit

def sumI (f : Int → Int) (is : List Int) : Int := is.foldl (fun a i => a + f i) 0
theorem sumI_from (f : Int → Int) : ∀ (is : List Int) (a : Int), is.foldl (fun a i => a + f i) a = a + sumI f is
  | [], a => by simp [sumI]
  | i :: is, a => by
    unfold sumI
    simp only [List.foldl_cons]
    rw [sumI_from f is (a + f i), sumI_from f is (0 + f i)]
    omega
theorem sumI_cons (f : Int → Int) (i : Int) (is : List Int) : sumI f (i :: is) = f i + sumI f is := by
  show (i :: is).foldl (fun a i => a + f i) 0 = _
  simp only [List.foldl_cons]
  rw [sumI_from]; omega
theorem sumI_nil (f : Int → Int) : sumI f [] = 0 := rfl
theorem sumI_perm (f : Int → Int) {is is' : List Int} (h : is.Perm is') : sumI f is = sumI f is' :=
  h.foldl_eq' (fun x _ y _ z => by omega) _
theorem sumI_pos {f : Int → Int} : ∀ {is : List Int}, (∀ i ∈ is, 0 ≤ f i) → 0 ≤ sumI f is
  | [], _ => by simp [sumI]
  | i :: is, h => by
    rw [sumI_cons]
    have := sumI_pos fun x hx => h x (List.mem_cons_of_mem _ hx)
    have := h i (by simp)
    omega
theorem sumI_filter {f : Int → Int} (p : Int → Bool) : ∀ {is : List Int}, (∀ i ∈ is, 0 ≤ f i) → sumI f (is.filter p) ≤ sumI f is
  | [], _ => by simp [sumI]
  | i :: is, h => by
    have h1 := sumI_filter p fun x hx => h x (List.mem_cons_of_mem i hx)
    have h2 := h i (by simp)
    rw [sumI_cons]
    by_cases hp : p i = true
    · rw [List.filter_cons_of_pos hp, sumI_cons]; omega
    · rw [List.filter_cons_of_neg hp]; omega
theorem sumI_le {f : Int → Int} {n : Nat} {is : List Int} (hn : is.Nodup) (hi : ∀ i ∈ is, 0 ≤ i ∧ i < n) (hf : ∀ i ∈ rangeI n, 0 ≤ f i) : sumI f is ≤ sumI f (rangeI n) := by
  have hp : is.Perm ((rangeI n).filter fun x => is.contains x) := by
    refine perm_of_nodup hn ((rangeI_nodup n).filter _) fun x => ?_
    simp only [List.mem_filter, mem_rangeI, List.contains_iff_mem]
    exact ⟨fun h => ⟨hi x h, h⟩, fun h => h.2⟩
  rw [sumI_perm f hp]
  exact sumI_filter _ hf
theorem sumI_mono {f g : Int → Int} : ∀ {is : List Int}, (∀ i ∈ is, f i ≤ g i) → sumI f is ≤ sumI g is
  | [], _ => by simp [sumI]
  | i :: is, h => by
    rw [sumI_cons, sumI_cons]
    have := sumI_mono fun x hx => h x (List.mem_cons_of_mem _ hx)
    have := h i (by simp)
    omega
theorem sumI_bd {f : Int → Int} {C : Int} : ∀ {is : List Int}, (∀ i ∈ is, f i ≤ C) → sumI f is ≤ C * is.length
  | [], _ => by simp [sumI]
  | i :: is, h => by
    rw [sumI_cons]
    have := sumI_bd fun x hx => h x (List.mem_cons_of_mem _ hx)
    have := h i (by simp)
    simp only [List.length_cons]
    rw [Int.natCast_add, Int.mul_add]
    omega
/-- The saturated sum is the sum, as long as it fits. -/
theorem satSum {f : Int → Int} {M : Int} : ∀ {is : List Int} {a : Int}, (∀ i ∈ is, 0 ≤ f i) → a + sumI f is ≤ 18446744073709551615 → is.foldl (fun a i => satA a (f i)) a = a + sumI f is
  | [], a, _, _ => by simp [sumI]
  | i :: is, a, h, hb => by
    have h1 := sumI_pos fun x hx => h x (List.mem_cons_of_mem i hx)
    rw [sumI_cons] at hb ⊢
    simp only [List.foldl_cons]
    have e : satA a (f i) = a + f i := by unfold satA; rw [if_pos (by omega)]
    rw [e, satSum (M := M) (fun x hx => h x (List.mem_cons_of_mem i hx)) (by omega)]
    omega
def totAt (l : List Summ) (i : Int) : Int := ((l[i.toNat]?).map (·.total)).getD 0
theorem totalF_range (l : List Summ) : totalF l = (rangeI l.length).foldl (fun a i => satA a (totAt l i)) 0 := by
  have : ∀ k, k ≤ l.length → totalF (l.take k) = (rangeI k).foldl (fun a i => satA a (totAt l i)) 0 := by
    intro k
    induction k with
    | zero => intro _; rfl
    | succ k ih =>
      intro hk
      rw [take_succ (show k < l.length by omega), totalF_snoc, rangeI_succ, List.foldl_append, ih (by omega)]
      simp [totAt, List.getElem?_eq_getElem (show k < l.length by omega)]
  have h := this l.length (Nat.le_refl _)
  rwa [List.take_length] at h
section
variable {c : Cfg} {lc : List (Int × Int)} {t : List Int} {lv : Value} {l : List Summ} {w : World}
theorem totAt_bd (h : Few c lc t lv l w) : ∀ i, 0 ≤ totAt l i ∧ totAt l i ≤ capF c := by
  intro i
  have hs := h.nums.shards.1
  have hc := (capF_le (c := c) hs).1
  unfold totAt
  cases e : l[i.toNat]? with
  | none => exact ⟨Int.le_refl _, hc⟩
  | some s =>
    have hg := h.good s (List.mem_of_getElem? e)
    exact ⟨hg.pos, (Int.le_ediv_iff_mul_le (by omega)).2 hg.total⟩
theorem few_sum (h : Few c lc t lv l w) : totalF l = sumI (totAt l) (rangeI l.length) ∧ totalF l ≤ 4611686018427387904 := by
  have hs := h.nums.shards.1
  have h1 := sumI_bd (C := capF c) (is := rangeI l.length) fun i _ => (totAt_bd h i).2
  rw [rangeI_len, h.len] at h1
  have h2 := (capF_le (c := c) hs).2
  have h3 : totalF l = sumI (totAt l) (rangeI l.length) := by
    rw [totalF_range, satSum (M := 0) (fun i _ => (totAt_bd h i).1) (by omega)]; omega
  exact ⟨h3, by omega⟩
theorem few_ok (h : Few c lc t lv l w) : mergeErr c l = 0 := by
  unfold mergeErr
  rw [if_neg (by have := h.len; omega), sums_no fun i hi => (h.good _ (List.getElem_mem hi)).err, if_neg (by simp), if_neg (by have := (few_sum h).2; omega)]
theorem few_set (h : Few c lc t lv l w) {f : Int → Int} (hf : ∀ i, 0 ≤ f i ∧ f i ≤ totAt l i) {hm : Int} (h0 : 0 ≤ hm) (h1 : hm < c.Shards) :
    (setN hm c.Shards c.Spread.toNat).foldl (fun a i => satA a (f i)) 0 = sumI f (setN hm c.Shards c.Spread.toNat) ∧ sumI f (setN hm c.Shards c.Spread.toNat) ≤ totalF l := by
  have hs := h.nums.shards
  have hp := h.nums.spread
  have hn : (setN hm c.Shards c.Spread.toNat).Nodup := setN_nodup h0 h1 (by omega) (by omega)
  have hl := h.len
  have ha : sumI f (setN hm c.Shards c.Spread.toNat) ≤ sumI f (rangeI l.length) := sumI_le hn (fun i hi => by have := setN_in hs.1 i hi; omega) fun i _ => (hf i).1
  have hb : sumI f (rangeI l.length) ≤ sumI (totAt l) (rangeI l.length) := sumI_mono fun i _ => (hf i).2
  obtain ⟨h3, h4⟩ := few_sum h
  refine ⟨?_, by omega⟩
  rw [satSum (M := 0) (fun i _ => (hf i).1) (by omega)]; omega
theorem bP_tot (h : Few c lc t lv l w) (k : ByteArray) (i : Int) : 0 ≤ (bP c t l k i).2 ∧ (bP c t l k i).2 ≤ totAt l i := by
  refine ⟨((bP_w (c := c) (t := t) h.ok k i).2).1, ?_⟩
  unfold bP totAt
  cases e : l[i.toNat]? with
  | none => exact Int.le_refl _
  | some s =>
    have hg := h.good s (List.mem_of_getElem? e)
    have h2 : (bndE s.es s.untr k).2 ≤ s.total := by
      unfold bndE
      split
      · rename_i en he
        have hm := List.mem_of_find?_eq_some he
        have h3 := hg.sum en hm
        obtain ⟨h4, h5⟩ := hg.num.es en hm
        unfold W64 at h4 h5
        have h6 := hg.num.total
        unfold W64 at h6
        unfold satA
        simp only
        rw [if_pos (by omega)]
        omega
      · exact hg.un
    show min (bndE s.es s.untr k).2 (sEstF c t s k) ≤ s.total
    omega
theorem foldB_2 (k : ByteArray) (is : List Int) : (foldB c t l k is).1 = is.foldl (fun a i => satA a (bP c t l k i).1) 0 ∧ (foldB c t l k is).2 = is.foldl (fun a i => satA a (bP c t l k i).2) 0 := by
  unfold foldB
  have : ∀ (is : List Int) (a : Int × Int), (is.foldl (fun a i => addP a (bP c t l k i)) a).1 = is.foldl (fun a i => satA a (bP c t l k i).1) a.1 ∧ (is.foldl (fun a i => addP a (bP c t l k i)) a).2 = is.foldl (fun a i => satA a (bP c t l k i).2) a.2 := by
    intro is
    induction is with
    | nil => exact fun _ => ⟨rfl, rfl⟩
    | cons i is ih =>
      intro a
      simp only [List.foldl_cons]
      exact ih (addP a (bP c t l k i))
  exact this is (0, 0)
/-- No line exceeds the total. -/
theorem line_tot (h : Few c lc t lv l w) (k : ByteArray) : (lineF c t l k).2 ≤ totalF l := by
  have hs := h.nums.shards
  obtain ⟨h1, h2⟩ := homeF_bd c t k hs.1
  rw [lineF_all hs.1 h.len, (foldB_2 k _).2]
  obtain ⟨h3, h4⟩ := few_set h (f := fun i => (bP c t l k i).2) (fun i => bP_tot h k i) h1 h2
  have h3' : (setF c t k).foldl (fun a i => satA a (bP c t l k i).2) 0 = sumI (fun i => (bP c t l k i).2) (setN (homeF c t k) c.Shards c.Spread.toNat) := h3
  rw [h3']
  exact h4
theorem uAt_bd (h : Few c lc t lv l w) (i : Int) : 0 ≤ uAt l i ∧ uAt l i ≤ totAt l i := by
  unfold uAt totAt
  cases e : l[i.toNat]? with
  | none => exact ⟨Int.le_refl _, Int.le_refl _⟩
  | some s =>
    have hg := h.good s (List.mem_of_getElem? e)
    exact ⟨(hg.num.untr).1, hg.un⟩
theorem restI_le {m : Int} {n : Nat} {T : Int} (h0 : 0 ≤ T) : ∀ (k : Nat), (∀ j : Nat, j < k → uF l (setN j m n) ≤ T) → restI m n l k ≤ T
  | 0, _ => by simpa [restI, rangeI] using h0
  | k + 1, h => by
    rw [restI_succ]
    have h1 := restI_le h0 k fun j hj => h j (by omega)
    have h2 := h k (by omega)
    omega
theorem restI_ge {m : Int} {n : Nat} : ∀ (k : Nat) (j : Nat), j < k → uF l (setN j m n) ≤ restI m n l k
  | k + 1, j, h => by
    rw [restI_succ]
    by_cases e : j = k
    · subst e; omega
    · have := restI_ge (m := m) (n := n) k j (by omega); omega
theorem few_rest (h : Few c lc t lv l w) : restF c l = restI c.Shards c.Spread.toNat l c.Shards.toNat := by
  unfold restF; rw [if_neg (by have := few_ok h; omega)]
/-- The rest is at most the total. -/
theorem rest_tot (h : Few c lc t lv l w) : restF c l ≤ totalF l := by
  rw [few_rest h]
  have h0 : 0 ≤ totalF l := by
    obtain ⟨h3, _⟩ := few_sum h
    rw [h3]
    exact sumI_pos fun i _ => (totAt_bd h i).1
  refine restI_le h0 _ fun j hj => ?_
  obtain ⟨h3, h4⟩ := few_set h (f := uAt l) (fun i => uAt_bd h i) (hm := j) (by omega) (by omega)
  have h3' : uF l (setN j c.Shards c.Spread.toNat) = _ := h3
  rw [h3']; exact h4
theorem untracked_find {s : Summ} {k : ByteArray} (hs : s ∈ l) (hk : k.data.toList ∉ keysL l) : s.es.find? (keyEq k) = none := by
  rw [List.find?_eq_none]
  intro e he hq
  refine hk (List.mem_flatMap.2 ⟨s, hs, List.mem_map.2 ⟨e, he, ?_⟩⟩)
  unfold keyEq at hq
  have := eq_of_beq hq
  rw [ByteArray.toList_eq, ByteArray.toList_eq] at this
  exact this
theorem bP_un {k : ByteArray} (hk : k.data.toList ∉ keysL l) (ho : SumsOk l) (i : Int) : (bP c t l k i).1 = 0 ∧ (bP c t l k i).2 ≤ uAt l i := by
  unfold bP uAt
  cases e : l[i.toNat]? with
  | none => exact ⟨rfl, Int.le_refl _⟩
  | some s =>
    have hm := List.mem_of_getElem? e
    have h3 := w64_sEst (c := c) (t := t) (ho.wf s hm).total (ho.rows s hm) k
    unfold W64 at h3
    have hb : bndE s.es s.untr k = (0, s.untr) := by unfold bndE; rw [untracked_find hm hk]
    simp only [hb, Option.map_some, Option.getD_some]
    omega
/-- A key that is not tracked weighs at most the rest. -/
theorem line_rest (h : Few c lc t lv l w) {k : ByteArray} (hk : k.data.toList ∉ keysL l) : (lineF c t l k).1 = 0 ∧ (lineF c t l k).2 ≤ restF c l := by
  have hs := h.nums.shards
  obtain ⟨h1, h2⟩ := homeF_bd c t k hs.1
  rw [lineF_all hs.1 h.len]
  refine ⟨?_, ?_⟩
  · rw [(foldB_2 k _).1]
    have : ∀ (is : List Int), is.foldl (fun a i => satA a (bP c t l k i).1) 0 = 0 := by
      intro is
      induction is with
      | nil => rfl
      | cons i is ih =>
        simp only [List.foldl_cons]
        rw [(bP_un hk h.ok i).1]
        exact ih
    exact this _
  · rw [(foldB_2 k _).2, few_rest h]
    obtain ⟨h3, _⟩ := few_set h (f := fun i => (bP c t l k i).2) (fun i => bP_tot h k i) h1 h2
    obtain ⟨h5, _⟩ := few_set h (f := uAt l) (fun i => uAt_bd h i) h1 h2
    have h3' : (setF c t k).foldl (fun a i => satA a (bP c t l k i).2) 0 = sumI (fun i => (bP c t l k i).2) (setN (homeF c t k) c.Shards c.Spread.toNat) := h3
    rw [h3']
    have h6 : sumI (fun i => (bP c t l k i).2) (setN (homeF c t k) c.Shards c.Spread.toNat) ≤ sumI (uAt l) (setN (homeF c t k) c.Shards c.Spread.toNat) := sumI_mono fun i _ => (bP_un hk h.ok i).2
    obtain ⟨j, hj⟩ : ∃ j : Nat, homeF c t k = j := ⟨(homeF c t k).toNat, by omega⟩
    rw [hj] at h6 h5 ⊢
    have h7 : uF l (setN j c.Shards c.Spread.toNat) = sumI (uAt l) (setN j c.Shards c.Spread.toNat) := h5
    have h8 := restI_ge (l := l) (m := c.Shards) (n := c.Spread.toNat) c.Shards.toNat j (by omega)
    omega
end
theorem keysL_few {c : Cfg} {lc : List (Int × Int)} {t : List Int} {lv : Value} {l : List Summ} {w : World} (h : Few c lc t lv l w) : (keysL l).length ≤ 32 := by
  have : ∀ l : List Summ, (∀ s ∈ l, s.es.length ≤ 4) → (keysL l).length ≤ 4 * l.length := by
    intro l
    induction l with
    | nil => simp [keysL]
    | cons s l ih =>
      intro h
      have h1 := ih fun x hx => h x (by simp [hx])
      have h2 := h s (by simp)
      simp only [keysL, List.flatMap_cons, List.length_append, List.length_map, List.length_cons] at *
      omega
  have h1 := this l fun s hs => (h.good s hs).few
  have h2 := h.len
  have h3 := h.nums.shards
  omega
theorem key_few {c : Cfg} {lc : List (Int × Int)} {t : List Int} {lv : Value} {l : List Summ} {w : World} (h : Few c lc t lv l w) : ∀ s ∈ l, ∀ e ∈ s.es, e.key.size ≤ 9223372036854775807 := fun s hs e he => (h.good s hs).small.key e he

end Go.Proofs.Ytiagjiaahnkefaa
