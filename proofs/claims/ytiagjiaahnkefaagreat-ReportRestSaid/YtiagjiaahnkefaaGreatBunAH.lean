/- Several texts in one file; each begins with a comment that says what is proved in it. -/
import Derived.Test.YtiagjiaahnkefaaGreatBunAG
import Derived.Test.YtiagjiaahnkefaaGreatBunAB
import Derived.Test.YtiagjiaahnkefaaGreatBunAC
import Derived.Test.YtiagjiaahnkefaaGreatBunAE
import Derived.ArgAppend
import Derived.StillTailTactics
import Derived.Test.YtiagjiaahnkefaaGreatBunAA
import Derived.Test.YtiagjiaahnkefaaGreatShelf
import Derived.Test.YtiagjiaahnkefaaGreatBunAF

/- The rest and the totals of the deck's summaries: plain laws. -/
namespace Go.Proofs.YtiagjiaahnkefaaGreat
open Go.RowKit

def sumI (f : Int → Int) (is : List Int) : Int := is.foldl (fun a i => a + f i) 0
theorem sumI_from (f : Int → Int) : ∀ (is : List Int) (a : Int), is.foldl (fun a i => a + f i) a = a + sumI f is
  | [], a => by simp [sumI]
  | i :: is, a => by
    unfold sumI
    simp only [List.foldl_cons]
    rw [sumI_from f is (a + f i), sumI_from f is (0 + f i)]
    omega
theorem sumI_cons (f : Int → Int) (i : Int) (is : List Int) : sumI f (i :: is) = f i + sumI f is := by
  show (i :: is).foldl (fun a i => a + f i) 0 = _
  simp only [List.foldl_cons]
  rw [sumI_from]; omega
theorem sumI_nil (f : Int → Int) : sumI f [] = 0 := rfl
theorem sumI_perm (f : Int → Int) {is is' : List Int} (h : is.Perm is') : sumI f is = sumI f is' :=
  h.foldl_eq' (fun x _ y _ z => by omega) _
theorem sumI_pos {f : Int → Int} : ∀ {is : List Int}, (∀ i ∈ is, 0 ≤ f i) → 0 ≤ sumI f is
  | [], _ => by simp [sumI]
  | i :: is, h => by
    rw [sumI_cons]
    have := sumI_pos fun x hx => h x (List.mem_cons_of_mem _ hx)
    have := h i (by simp)
    omega
theorem sumI_filter {f : Int → Int} (p : Int → Bool) : ∀ {is : List Int}, (∀ i ∈ is, 0 ≤ f i) → sumI f (is.filter p) ≤ sumI f is
  | [], _ => by simp [sumI]
  | i :: is, h => by
    have h1 := sumI_filter p fun x hx => h x (List.mem_cons_of_mem i hx)
    have h2 := h i (by simp)
    rw [sumI_cons]
    by_cases hp : p i = true
    · rw [List.filter_cons_of_pos hp, sumI_cons]; omega
    · rw [List.filter_cons_of_neg hp]; omega
theorem sumI_le {f : Int → Int} {n : Nat} {is : List Int} (hn : is.Nodup) (hi : ∀ i ∈ is, 0 ≤ i ∧ i < n) (hf : ∀ i ∈ rangeI n, 0 ≤ f i) : sumI f is ≤ sumI f (rangeI n) := by
  have hp : is.Perm ((rangeI n).filter fun x => is.contains x) := by
    refine perm_of_nodup hn ((rangeI_nodup n).filter _) fun x => ?_
    simp only [List.mem_filter, mem_rangeI, List.contains_iff_mem]
    exact ⟨fun h => ⟨hi x h, h⟩, fun h => h.2⟩
  rw [sumI_perm f hp]
  exact sumI_filter _ hf
theorem sumI_mono {f g : Int → Int} : ∀ {is : List Int}, (∀ i ∈ is, f i ≤ g i) → sumI f is ≤ sumI g is
  | [], _ => by simp [sumI]
  | i :: is, h => by
    rw [sumI_cons, sumI_cons]
    have := sumI_mono fun x hx => h x (List.mem_cons_of_mem _ hx)
    have := h i (by simp)
    omega
theorem sumI_bd {f : Int → Int} {C : Int} : ∀ {is : List Int}, (∀ i ∈ is, f i ≤ C) → sumI f is ≤ C * is.length
  | [], _ => by simp [sumI]
  | i :: is, h => by
    rw [sumI_cons]
    have := sumI_bd fun x hx => h x (List.mem_cons_of_mem _ hx)
    have := h i (by simp)
    simp only [List.length_cons]
    rw [Int.natCast_add, Int.mul_add]
    omega
/-- The saturated sum is the sum, as long as it fits. -/
theorem satSum {f : Int → Int} {M : Int} : ∀ {is : List Int} {a : Int}, (∀ i ∈ is, 0 ≤ f i) → a + sumI f is ≤ 18446744073709551615 → is.foldl (fun a i => satA a (f i)) a = a + sumI f is
  | [], a, _, _ => by simp [sumI]
  | i :: is, a, h, hb => by
    have h1 := sumI_pos fun x hx => h x (List.mem_cons_of_mem i hx)
    rw [sumI_cons] at hb ⊢
    simp only [List.foldl_cons]
    have e : satA a (f i) = a + f i := by unfold satA; rw [if_pos (by omega)]
    rw [e, satSum (M := M) (fun x hx => h x (List.mem_cons_of_mem i hx)) (by omega)]
    omega
def totAt (l : List Summ) (i : Int) : Int := ((l[i.toNat]?).map (·.total)).getD 0
theorem totalF_range (l : List Summ) : totalF l = (rangeI l.length).foldl (fun a i => satA a (totAt l i)) 0 := by
  have : ∀ k, k ≤ l.length → totalF (l.take k) = (rangeI k).foldl (fun a i => satA a (totAt l i)) 0 := by
    intro k
    induction k with
    | zero => intro _; rfl
    | succ k ih =>
      intro hk
      rw [take_succ (show k < l.length by omega), totalF_snoc, rangeI_succ, List.foldl_append, ih (by omega)]
      simp [totAt, List.getElem?_eq_getElem (show k < l.length by omega)]
  have h := this l.length (Nat.le_refl _)
  rwa [List.take_length] at h
section
variable {c : Cfg} {lc : List (Int × Int)} {t : List Int} {lv : Value} {l : List Summ} {w : World}
theorem totAt_bd (h : Few c lc t lv l w) : ∀ i, 0 ≤ totAt l i ∧ totAt l i ≤ capF c := by
  intro i
  have hs := h.nums.shards.1
  have hc := (capF_le (c := c) hs).1
  unfold totAt
  cases e : l[i.toNat]? with
  | none => exact ⟨Int.le_refl _, hc⟩
  | some s =>
    have hg := h.good s (List.mem_of_getElem? e)
    exact ⟨hg.pos, (Int.le_ediv_iff_mul_le (by omega)).2 hg.total⟩
theorem few_sum (h : Few c lc t lv l w) : totalF l = sumI (totAt l) (rangeI l.length) ∧ totalF l ≤ 4611686018427387904 := by
  have hs := h.nums.shards.1
  have h1 := sumI_bd (C := capF c) (is := rangeI l.length) fun i _ => (totAt_bd h i).2
  rw [rangeI_len, h.len] at h1
  have h2 := (capF_le (c := c) hs).2
  have h3 : totalF l = sumI (totAt l) (rangeI l.length) := by
    rw [totalF_range, satSum (M := 0) (fun i _ => (totAt_bd h i).1) (by omega)]; omega
  exact ⟨h3, by omega⟩
theorem few_ok (h : Few c lc t lv l w) : mergeErr c l = 0 := by
  unfold mergeErr
  rw [if_neg (by have := h.len; omega), sums_no fun i hi => (h.good _ (List.getElem_mem hi)).err, if_neg (by simp), if_neg (by have := (few_sum h).2; omega)]
theorem few_set (h : Few c lc t lv l w) {f : Int → Int} (hf : ∀ i, 0 ≤ f i ∧ f i ≤ totAt l i) {hm : Int} (h0 : 0 ≤ hm) (h1 : hm < c.Shards) :
    (setN hm c.Shards c.Spread.toNat).foldl (fun a i => satA a (f i)) 0 = sumI f (setN hm c.Shards c.Spread.toNat) ∧ sumI f (setN hm c.Shards c.Spread.toNat) ≤ totalF l := by
  have hs := h.nums.shards
  have hp := h.nums.spread
  have hn : (setN hm c.Shards c.Spread.toNat).Nodup := setN_nodup h0 h1 (by omega) (by omega)
  have hl := h.len
  have ha : sumI f (setN hm c.Shards c.Spread.toNat) ≤ sumI f (rangeI l.length) := sumI_le hn (fun i hi => by have := setN_in hs.1 i hi; omega) fun i _ => (hf i).1
  have hb : sumI f (rangeI l.length) ≤ sumI (totAt l) (rangeI l.length) := sumI_mono fun i _ => (hf i).2
  obtain ⟨h3, h4⟩ := few_sum h
  refine ⟨?_, by omega⟩
  rw [satSum (M := 0) (fun i _ => (hf i).1) (by omega)]; omega
theorem bP_tot (h : Few c lc t lv l w) (k : ByteArray) (i : Int) : 0 ≤ (bP c t l k i).2 ∧ (bP c t l k i).2 ≤ totAt l i := by
  refine ⟨((bP_w (c := c) (t := t) h.ok k i).2).1, ?_⟩
  unfold bP totAt
  cases e : l[i.toNat]? with
  | none => exact Int.le_refl _
  | some s =>
    have hg := h.good s (List.mem_of_getElem? e)
    have h2 : (bndE s.es s.untr k).2 ≤ s.total := by
      unfold bndE
      split
      · rename_i en he
        have hm := List.mem_of_find?_eq_some he
        have h3 := hg.sum en hm
        obtain ⟨h4, h5⟩ := hg.num.es en hm
        unfold W64 at h4 h5
        have h6 := hg.num.total
        unfold W64 at h6
        unfold satA
        simp only
        rw [if_pos (by omega)]
        omega
      · exact hg.un
    show min (bndE s.es s.untr k).2 (sEstF c t s k) ≤ s.total
    omega
theorem foldB_2 (k : ByteArray) (is : List Int) : (foldB c t l k is).1 = is.foldl (fun a i => satA a (bP c t l k i).1) 0 ∧ (foldB c t l k is).2 = is.foldl (fun a i => satA a (bP c t l k i).2) 0 := by
  unfold foldB
  have : ∀ (is : List Int) (a : Int × Int), (is.foldl (fun a i => addP a (bP c t l k i)) a).1 = is.foldl (fun a i => satA a (bP c t l k i).1) a.1 ∧ (is.foldl (fun a i => addP a (bP c t l k i)) a).2 = is.foldl (fun a i => satA a (bP c t l k i).2) a.2 := by
    intro is
    induction is with
    | nil => exact fun _ => ⟨rfl, rfl⟩
    | cons i is ih =>
      intro a
      simp only [List.foldl_cons]
      exact ih (addP a (bP c t l k i))
  exact this is (0, 0)
/-- No line exceeds the total. -/
theorem line_tot (h : Few c lc t lv l w) (k : ByteArray) : (lineF c t l k).2 ≤ totalF l := by
  have hs := h.nums.shards
  obtain ⟨h1, h2⟩ := homeF_bd c t k hs.1
  rw [lineF_all hs.1 h.len, (foldB_2 k _).2]
  obtain ⟨h3, h4⟩ := few_set h (f := fun i => (bP c t l k i).2) (fun i => bP_tot h k i) h1 h2
  have h3' : (setF c t k).foldl (fun a i => satA a (bP c t l k i).2) 0 = sumI (fun i => (bP c t l k i).2) (setN (homeF c t k) c.Shards c.Spread.toNat) := h3
  rw [h3']
  exact h4
theorem uAt_bd (h : Few c lc t lv l w) (i : Int) : 0 ≤ uAt l i ∧ uAt l i ≤ totAt l i := by
  unfold uAt totAt
  cases e : l[i.toNat]? with
  | none => exact ⟨Int.le_refl _, Int.le_refl _⟩
  | some s =>
    have hg := h.good s (List.mem_of_getElem? e)
    exact ⟨(hg.num.untr).1, hg.un⟩
theorem restI_le {m : Int} {n : Nat} {T : Int} (h0 : 0 ≤ T) : ∀ (k : Nat), (∀ j : Nat, j < k → uF l (setN j m n) ≤ T) → restI m n l k ≤ T
  | 0, _ => by simpa [restI, rangeI] using h0
  | k + 1, h => by
    rw [restI_succ]
    have h1 := restI_le h0 k fun j hj => h j (by omega)
    have h2 := h k (by omega)
    omega
theorem restI_ge {m : Int} {n : Nat} : ∀ (k : Nat) (j : Nat), j < k → uF l (setN j m n) ≤ restI m n l k
  | k + 1, j, h => by
    rw [restI_succ]
    by_cases e : j = k
    · subst e; omega
    · have := restI_ge (m := m) (n := n) k j (by omega); omega
theorem few_rest (h : Few c lc t lv l w) : restF c l = restI c.Shards c.Spread.toNat l c.Shards.toNat := by
  unfold restF; rw [if_neg (by have := few_ok h; omega)]
/-- The rest is at most the total. -/
theorem rest_tot (h : Few c lc t lv l w) : restF c l ≤ totalF l := by
  rw [few_rest h]
  have h0 : 0 ≤ totalF l := by
    obtain ⟨h3, _⟩ := few_sum h
    rw [h3]
    exact sumI_pos fun i _ => (totAt_bd h i).1
  refine restI_le h0 _ fun j hj => ?_
  obtain ⟨h3, h4⟩ := few_set h (f := uAt l) (fun i => uAt_bd h i) (hm := j) (by omega) (by omega)
  have h3' : uF l (setN j c.Shards c.Spread.toNat) = _ := h3
  rw [h3']; exact h4
theorem untracked_find {s : Summ} {k : ByteArray} (hs : s ∈ l) (hk : k.data.toList ∉ keysL l) : s.es.find? (keyEq k) = none := by
  rw [List.find?_eq_none]
  intro e he hq
  refine hk (List.mem_flatMap.2 ⟨s, hs, List.mem_map.2 ⟨e, he, ?_⟩⟩)
  unfold keyEq at hq
  have := eq_of_beq hq
  rw [ByteArray.toList_eq, ByteArray.toList_eq] at this
  exact this
theorem bP_un {k : ByteArray} (hk : k.data.toList ∉ keysL l) (ho : SumsOk l) (i : Int) : (bP c t l k i).1 = 0 ∧ (bP c t l k i).2 ≤ uAt l i := by
  unfold bP uAt
  cases e : l[i.toNat]? with
  | none => exact ⟨rfl, Int.le_refl _⟩
  | some s =>
    have hm := List.mem_of_getElem? e
    have h3 := w64_sEst (c := c) (t := t) (ho.wf s hm).total (ho.rows s hm) k
    unfold W64 at h3
    have hb : bndE s.es s.untr k = (0, s.untr) := by unfold bndE; rw [untracked_find hm hk]
    simp only [hb, Option.map_some, Option.getD_some]
    omega
/-- A key that is not tracked weighs at most the rest. -/
theorem line_rest (h : Few c lc t lv l w) {k : ByteArray} (hk : k.data.toList ∉ keysL l) : (lineF c t l k).1 = 0 ∧ (lineF c t l k).2 ≤ restF c l := by
  have hs := h.nums.shards
  obtain ⟨h1, h2⟩ := homeF_bd c t k hs.1
  rw [lineF_all hs.1 h.len]
  refine ⟨?_, ?_⟩
  · rw [(foldB_2 k _).1]
    have : ∀ (is : List Int), is.foldl (fun a i => satA a (bP c t l k i).1) 0 = 0 := by
      intro is
      induction is with
      | nil => rfl
      | cons i is ih =>
        simp only [List.foldl_cons]
        rw [(bP_un hk h.ok i).1]
        exact ih
    exact this _
  · rw [(foldB_2 k _).2, few_rest h]
    obtain ⟨h3, _⟩ := few_set h (f := fun i => (bP c t l k i).2) (fun i => bP_tot h k i) h1 h2
    obtain ⟨h5, _⟩ := few_set h (f := uAt l) (fun i => uAt_bd h i) h1 h2
    have h3' : (setF c t k).foldl (fun a i => satA a (bP c t l k i).2) 0 = sumI (fun i => (bP c t l k i).2) (setN (homeF c t k) c.Shards c.Spread.toNat) := h3
    rw [h3']
    have h6 : sumI (fun i => (bP c t l k i).2) (setN (homeF c t k) c.Shards c.Spread.toNat) ≤ sumI (uAt l) (setN (homeF c t k) c.Shards c.Spread.toNat) := sumI_mono fun i _ => (bP_un hk h.ok i).2
    obtain ⟨j, hj⟩ : ∃ j : Nat, homeF c t k = j := ⟨(homeF c t k).toNat, by omega⟩
    rw [hj] at h6 h5 ⊢
    have h7 : uF l (setN j c.Shards c.Spread.toNat) = sumI (uAt l) (setN j c.Shards c.Spread.toNat) := h5
    have h8 := restI_ge (l := l) (m := c.Shards) (n := c.Spread.toNat) c.Shards.toNat j (by omega)
    omega
end
theorem keysL_few {c : Cfg} {lc : List (Int × Int)} {t : List Int} {lv : Value} {l : List Summ} {w : World} (h : Few c lc t lv l w) : (keysL l).length ≤ 32 := by
  have : ∀ l : List Summ, (∀ s ∈ l, s.es.length ≤ 4) → (keysL l).length ≤ 4 * l.length := by
    intro l
    induction l with
    | nil => simp [keysL]
    | cons s l ih =>
      intro h
      have h1 := ih fun x hx => h x (by simp [hx])
      have h2 := h s (by simp)
      simp only [keysL, List.flatMap_cons, List.length_append, List.length_map, List.length_cons] at *
      omega
  have h1 := this l fun s hs => (h.good s hs).few
  have h2 := h.len
  have h3 := h.nums.shards
  omega
theorem key_few {c : Cfg} {lc : List (Int × Int)} {t : List Int} {lv : Value} {l : List Summ} {w : World} (h : Few c lc t lv l w) : ∀ s ∈ l, ∀ e ∈ s.es, e.key.size ≤ 9223372036854775807 := fun s hs e he => (h.good s hs).small.key e he

end Go.Proofs.YtiagjiaahnkefaaGreat

/- Stores into slices of the call's own. -/
namespace Go.Proofs.YtiagjiaahnkefaaGreat
open Go.RowKit

theorem cellsOf_set {α : Type} {f : α → List Value} {s : Nat} (hs : ∀ x, (f x).length = s) : ∀ {l : List α} {i j : Nat} {u : Value} {y : α}, (hi : i < l.length) → j < s → f y = (f l[i]).set j u → cellsOf f (l.set i y) = (cellsOf f l).set (i * s + j) u
  | [], i, _, _, _, hi, _, _ => by simp at hi
  | a :: l, 0, j, u, y, _, hj, hy => by
    simp only [List.set_cons_zero, cellsOf, List.flatMap_cons, Nat.zero_mul, Nat.zero_add]
    rw [List.set_append_left _ _ (by rw [hs]; exact hj)]
    rw [hy]; rfl
  | a :: l, i + 1, j, u, y, hi, hj, hy => by
    have ih := cellsOf_set hs (l := l) (i := i) (j := j) (u := u) (y := y) (by simpa using hi) hj (by simpa using hy)
    simp only [List.set_cons_succ, cellsOf, List.flatMap_cons] at *
    rw [ih, List.set_append_right _ _ (by rw [hs, Nat.add_mul]; omega), hs]
    congr 2
    rw [Nat.add_mul]; omega
/-- One cell of an element is stored. -/
theorem Own.stored {α : Type} {f : α → List Value} {s : Nat} {e : TypeId} {B : Nat} {w : World} {g n cap : Nat} {l : List α} (h : Own f s e B w (.slice (some ⟨g, 0, none⟩) n cap) l) (hs : ∀ x, (f x).length = s) {i j : Nat} (hi : i < l.length) (hj : j < s) (u : Value) (y : α) (hy : f y = (f l[i]).set j u) :
    Own f s e B (w.setCell ⟨g, i * s + j, none⟩ u) (.slice (some ⟨g, 0, none⟩) n cap) (l.set i y) ∧ w.grownBy (w.setCell ⟨g, i * s + j, none⟩ u) (some g) := by
  obtain ⟨a, c, hv⟩ := h.shape
  cases hv
  have := World.ownsRow.stored (w := w) (base := B) (e := e) (size := s) (g := g) (n := l.length) (cap := cap) (xs := cellsOf f l) h (i * s + j) u
  refine ⟨?_, this.2⟩
  unfold Own
  rw [cellsOf_set hs hi hj hy, List.length_set]
  exact this.1
theorem Own.at_ {α : Type} {f : α → List Value} {s : Nat} {e : TypeId} {B : Nat} {w : World} {v : Value} {l : List α} (h : Own f s e B w v l) (hs : ∀ x, (f x).length = s) {i : Nat} (hi : i < l.length) :
    ∃ g cap, v = .slice (some ⟨g, 0, none⟩) l.length cap ∧ B ≤ g ∧ g < w.heap.size ∧ l.length ≤ cap ∧ (∀ j u, (f l[i])[j]? = some u → w.cell? ⟨g, i * s + j, none⟩ = some u) ∧ ∀ j, w.frozen? ⟨g, j, none⟩ = false := by
  have hR := h.rd
  have hlt := h.lt
  rcases h.2 with ⟨rfl, h0⟩ | ⟨g, cap, cur, rfl, hb, hg, h1, h2, _⟩
  · omega
  · obtain ⟨g', off, cap', hv, hg', hc⟩ := hR.at_ hs hi
    cases hv
    refine ⟨g, cap, rfl, hb, hg', h1, fun j u hu => by simpa using hc j u hu, fun j => World.ownsRow.frozenAt (n := l.length) (cap := cap) h j⟩
end Go.Proofs.YtiagjiaahnkefaaGreat

/- append onto an empty literal: nothing that lies there is written. Insertion into a slice, made anew. -/
namespace Go.Proofs.YtiagjiaahnkefaaGreat
open Go.RowKit

/-- The slice lies in the literal's block or in a new one. -/
theorem run_app_lit {w : World} {st e ty : TypeId} {z : Value} {size bytes : Nat} (E : Elt st e z size bytes) {base g : Nat} (hown : w.ownsRow base e size (.slice (some ⟨g, 0, none⟩) 0 0) 0 [])
    {A : Option Addr} {m c : Nat} {news : List Value} (hr : Rd w size (.slice A m c) m news) (h1 : ∀ u ∈ news, u.oneCell' = true) (h63 : m ≤ maxLen) (hb : m * bytes ≤ 140737488355328) (hbase : base ≤ w.heap.size) :
    ∃ v' w', (Builtin.append_ #[st, st] ty #[.slice (some ⟨g, 0, none⟩) 0 0, .slice A m c]).run Tryz.prog w = .ok v' w' ∧ w'.ownsRow base e size v' m news ∧ w.grownBy w' none ∧ Lies (.slice (some ⟨g, 0, none⟩) 0 0) v' w.heap.size := by
  obtain ⟨i, hi, hz0, hz1, hz2⟩ := info_parts E.info
  rcases Nat.eq_zero_or_pos m with rfl | hm
  · have hn : news = [] := List.eq_nil_of_length_eq_zero (by simpa using hr.1)
    subst hn
    have key : ∀ ad : Addr, ∃ v' w', (Builtin.append_ #[st, st] ty #[.slice (some ⟨g, 0, none⟩) 0 0, .slice (some ad) 0 c]).run Tryz.prog w = .ok v' w' ∧ v' = .slice (some ⟨g, 0, none⟩) 0 0 ∧ w' = w := by
      intro ad
      refine ⟨_, _, ?_, rfl, rfl⟩
      simp [Builtin.append_, run_underlying E.ht, sizeOf, typeInfo, hi, Builtin.lenOf, Builtin.firstCells, storeCells, loadCells, loadCellsFrom]
    cases A with
    | none => exact ⟨_, w, run_app_nil E hown c, hown, World.grownBy.refl w _, .inl rfl⟩
    | some ad =>
      obtain ⟨v', w', h, rfl, rfl⟩ := key ad
      exact ⟨_, _, h, hown, World.grownBy.refl _ _, .inl rfl⟩
  · rcases hr.2.2 with ⟨rfl, _⟩ | ⟨g', off, cap, hv, _, hc⟩
    · omega
    · cases hv
      obtain ⟨v', w', hrun, h2, h3⟩ := run_append_arg_grows (P := Tryz.prog) w st ty e i z size bytes E.ht hi hz0 hz1 hz2 E.cells E.pos ⟨g, 0, none⟩ 0 0 [] (by simp) (by simp) ⟨g', off, none⟩ m c news hr.1 (fun j u hu => by
        have e : (⟨g', off, none⟩ : Addr).add j = ⟨g', off + j, none⟩ := by unfold Addr.add; split <;> simp_all
        rw [e]; exact hc j u hu) (by omega) (by simpa using h63) (by simpa using hb)
      simp only [Nat.zero_add, List.nil_append] at h2
      refine ⟨v', w', hrun, ⟨h2.1, h2.2.imp id fun ⟨g3, cap3, cur3, e1, e2, e3⟩ => ⟨g3, cap3, cur3, e1, Nat.le_trans hbase e2, e3⟩⟩, h3, ?_⟩
      rcases h2.2 with ⟨_, h0⟩ | ⟨g2, cap2, cur, rfl, hb2, _⟩
      · omega
      · exact .inr ⟨g2, rfl, hb2⟩
section
variable {α : Type} {f : α → List Value} {st e : TypeId} {z : Value} {size bytes : Nat} {w : World} {B : Nat} {g : Nat} {l2 : List α} {A : Option Addr} {m c : Nat}
variable {o : Oper} {a : Act} {ops : Array Oper} {rest : List Oper} {Q : Exit → Act → World → Prop}
theorem wp_app_lit (E : Elt st e z size bytes) (h1 : ∀ u ∈ cellsOf f l2, u.oneCell' = true) (hown : Own f size e B w (.slice (some ⟨g, 0, none⟩) 0 0) []) (hr : RdL f size w (.slice A m c) l2) (hm : m = l2.length) (hb : l2.length * bytes ≤ 140737488355328) (h63 : l2.length ≤ 9223372036854775807) (hbase : B ≤ w.heap.size)
    (s x : Operand) (ho : o.op = .call { callee := .builtin .append, args := #[s, x], argTypes := #[st, st] }) (hs : a.eval s = .slice (some ⟨g, 0, none⟩) 0 0) (hx : a.eval x = .slice A m c) {K : Act → World → Prop}
    (h : ∀ v' w', Own f size e B w' v' l2 → w.grownBy w' none → Lies (.slice (some ⟨g, 0, none⟩) 0 0) v' w.heap.size → K (a.put o.dst v') w') : o.wp Tryz.prog a w K Q := by
  subst hm
  obtain ⟨v', w', hrun, h2, h3, h4⟩ := run_app_lit (ty := o.type) E hown hr h1 (by unfold maxLen; exact h63) hb hbase
  unfold Oper.wp execOp
  simp only [ho, resolve, invoke, builtin, Sem.run_bind, Sem.run_pure, Result.andThen_ok, List.map_toArray, List.map_cons, List.map_nil, hs, hx, hrun]
  exact h v' w' h2 h3 h4
/-- append onto an empty literal, in a region that is carried out in order. -/
theorem app_litV (E : Elt st e z size bytes) (h1 : ∀ u ∈ cellsOf f l2, u.oneCell' = true) (hown : Own f size e B w (.slice (some ⟨g, 0, none⟩) 0 0) []) (hr : RdL f size w (.slice A m c) l2) (hm : m = l2.length) (hb : l2.length * bytes ≤ 140737488355328) (h63 : l2.length ≤ 9223372036854775807) (hbase : B ≤ w.heap.size)
    (hgd : o.guard = none) (s x : Operand) (ho : o.op = .call { callee := .builtin .append, args := #[s, x], argTypes := #[st, st] }) (hs : a.eval s = .slice (some ⟨g, 0, none⟩) 0 0) (hx : a.eval x = .slice A m c)
    (h : ∀ v' w', Own f size e B w' v' l2 → w.grownBy w' none → Lies (.slice (some ⟨g, 0, none⟩) 0 0) v' w.heap.size → wpList Tryz.prog ops Q rest (a.put o.dst v') w') : wpList Tryz.prog ops Q (o :: rest) a w :=
  wpList_plain hgd fun _ hK => wp_app_lit E h1 hown hr hm hb h63 hbase s x ho hs hx fun v' w' h2 h3 h4 => hK _ _ (h v' w' h2 h3 h4)
theorem app_lit (E : Elt st e z size bytes) (h1 : OneF f) (hown : Own f size e B w (.slice (some ⟨g, 0, none⟩) 0 0) []) (hr : RdL f size w (.slice A m c) l2) (hm : m = l2.length) (hb : l2.length * bytes ≤ 140737488355328) (h63 : l2.length ≤ 9223372036854775807) (hbase : B ≤ w.heap.size)
    (hgd : o.guard = none) (s x : Operand) (ho : o.op = .call { callee := .builtin .append, args := #[s, x], argTypes := #[st, st] }) (hs : a.eval s = .slice (some ⟨g, 0, none⟩) 0 0) (hx : a.eval x = .slice A m c)
    (h : ∀ v' w', Own f size e B w' v' l2 → w.grownBy w' none → Lies (.slice (some ⟨g, 0, none⟩) 0 0) v' w.heap.size → wpList Tryz.prog ops Q rest (a.put o.dst v') w') : wpList Tryz.prog ops Q (o :: rest) a w :=
  app_litV E (h1.cells l2) hown hr hm hb h63 hbase hgd s x ho hs hx h
end
/-- One element in a block of its own that is known whole. -/
theorem Blk.one {α : Type} {f : α → List Value} {size : Nat} {w : World} {g : Nat} {cs : Array Value} (h : Blk w g cs) (hf : ∀ x, (f x).length = size) (y : α) (hcs : cs.toList = f y) : RdL f size w (.slice (some ⟨g, 0, none⟩) 1 1) [y] := by
  refine ⟨by simp [cellsOf, hf], by simp, .inr ⟨g, 0, 1, rfl, h.lt, fun j u hu => ?_⟩⟩
  simp only [cellsOf, List.flatMap_cons, List.flatMap_nil, List.append_nil, ← hcs] at hu
  rw [Nat.zero_add, h.cell j]
  simpa using hu
end Go.Proofs.YtiagjiaahnkefaaGreat

/- Lines in their order: the reference, which inserts one after the other. -/
namespace Go.Proofs.YtiagjiaahnkefaaGreat
open Go.RowKit Go.Sort

set_option maxHeartbeats 400000 in
theorem rbefore_c (x y : Ln) (w : World) : Calls Tryz.prog 86 #[lnV x, lnV y] w (RetBool (befB x y) w) := by
  have hb := blt_of x.key y.key
  obtain ⟨b, hd⟩ : ∃ b, decide (x.key.data.toList < y.key.data.toList) = b := ⟨_, rfl⟩
  rw [hd] at hb
  by_cases h1 : y.hi < x.hi
  · have HB := Lib.hid (show befB x y = true by simp [befB, h1])
    clear hd
    generalize befB x y = q at *
    go_enter Tryz.func86, Tryz.ntmps86
    go_wp2
    go_ret
    exact retBool HB.out (grownBy_new_block (grownBy_new_block (grownBy_refl _ _) _) _)
  · have h1' : decide (y.hi < x.hi) = false := by simpa using h1
    by_cases h2 : x.hi = y.hi
    · have h2' : ((x.hi : Int) == y.hi) = true := by simp [h2]
      have HB := Lib.hid (show befB x y = b by unfold befB; rw [h1', hd, decide_eq_true h2]; rfl)
      clear hd h2
      generalize befB x y = q at *
      go_enter Tryz.func86, Tryz.ntmps86
      go_wp2
      go_ret
      exact retBool HB.out (grownBy_new_block (grownBy_new_block (grownBy_refl _ _) _) _)
    · have h2' : ((x.hi : Int) == y.hi) = false := by simp [h2]
      have HB := Lib.hid (show befB x y = false by simp [befB, h1', h2])
      clear hd h2
      generalize befB x y = q at *
      go_enter Tryz.func86, Tryz.ntmps86
      go_wp2
      go_ret
      exact retBool HB.out (grownBy_new_block (grownBy_new_block (grownBy_refl _ _) _) _)

/-- Where a line goes: behind the last of the first k that it does not come before. -/
def insK (x : Ln) (L : List Ln) : Nat → Nat
  | 0 => 0
  | k + 1 => if ((L[k]?).map (befB x)).getD false then insK x L k else k + 1
theorem insK_le (x : Ln) (L : List Ln) : ∀ k, insK x L k ≤ k
  | 0 => Nat.le_refl _
  | k + 1 => by
    unfold insK
    split
    · exact Nat.le_succ_of_le (insK_le x L k)
    · exact Nat.le_refl _
def insL (L : List Ln) (x : Ln) : List Ln := L.take (insK x L L.length) ++ [x] ++ L.drop (insK x L L.length)
theorem insL_len (L : List Ln) (x : Ln) : (insL L x).length = L.length + 1 := by
  have := insK_le x L L.length
  unfold insL
  simp; omega
def sortLn (l : List Ln) : List Ln := l.foldl insL []
theorem sortLn_snoc (l : List Ln) (x : Ln) : sortLn (l ++ [x]) = insL (sortLn l) x := by simp [sortLn]
theorem sortLn_len (l : List Ln) : (sortLn l).length = l.length := by
  have : ∀ (l a : List Ln), (l.foldl insL a).length = a.length + l.length := by
    intro l
    induction l with
    | nil => simp
    | cons x l ih => intro a; simp only [List.foldl_cons, ih, insL_len, List.length_cons]; omega
  simpa [sortLn] using this l []

set_option maxHeartbeats 1000000 in
set_option maxRecDepth 100000 in
theorem rsort_c (v : Value) (l : List Ln) (w : World) (h : RdL lnF 3 w v l) (hl : l.length ≤ 1000000) : Calls Tryz.prog 59 #[v] w (RetOwn lnF 3 40 (sortLn l) w) := by
  obtain ⟨a, c, rfl⟩ := h.shape
  have hm := h.2.1
  have H := Lib.hid h
  have hll : (l.length : Int) ≤ 1000000 := by omega
  clear h
  go_enter Tryz.func59, Tryz.ntmps59
  go_wp2_with fail
  go_loopw [3, 9] (fun s3 s9 wk => ∃ (j : Nat), j ≤ l.length ∧ s9 = .int .i64 j ∧ Own lnF 3 40 w.heap.size wk s3 (sortLn (l.take j)) ∧ w.grownBy wk none) (fun _ s9 _ => l.length - (intOf s9).toNat)
  case atStart => exact ⟨0, Nat.zero_le _, rfl, Own.nil _ _ _ _ _, grownBy_refl _ _⟩
  case round =>
    obtain ⟨j, hj, rfl, hO, hg⟩ := hrel
    by_cases hjl : j < l.length
    · obtain ⟨gx, ox, cx, hv, hgx, hcx⟩ := (RdL.same H.out hg).at_ lnF_len hjl
      cases hv
      have c0 := hcx 0 _ rfl
      have c1 := hcx 1 _ rfl
      have c2 := hcx 2 _ rfl
      rw [Nat.add_zero] at c0
      have HT := Lib.hid (show sortLn (l.take (j + 1)) = insL (sortLn (l.take j)) l[j] by rw [List.take_succ_eq_append_getElem hjl, sortLn_snoc])
      have hsl : (sortLn (l.take j)).length ≤ 1000000 := by rw [sortLn_len, List.length_take]; omega
      clear hcx
      generalize sortLn (l.take j) = S at *
      generalize l[j] = x at *
      obtain ⟨oa, oc, rfl⟩ := hO.shape
      go_upto_region 5 with fail
      have O2 := hO.same (World.grownBy_alloc wr (.cells #[.string x.key, .int .u64 x.lo, .int .u64 x.hi] 40) none)
      have G2 := grownBy_new_block hg (.cells #[.string x.key, .int .u64 x.lo, .int .u64 x.hi] 40)
      have A2 := Blk.new wr #[.string x.key, .int .u64 x.lo, .int .u64 x.hi] 40
      generalize wr.alloc (.cells #[.string x.key, .int .u64 x.lo, .int .u64 x.hi] 40) = w2 at *
      generalize wr.heap.size = gk at *
      clear hO hg c0 c1 c2 hgx
      have HK := Lib.hid (show insL S x = S.take (insK x S S.length) ++ [x] ++ S.drop (insK x S S.length) from rfl)
      have hKl := insK_le x S S.length
      obtain ⟨P, hK⟩ : ∃ P, insK x S S.length = P := ⟨_, rfl⟩
      have Hst := Lib.hid hK
      rw [hK] at HK hKl
      clear hK
      have hsm := O2.len
      go_cut [6] (fun s6 wx => s6 = .int .i64 S.length ∧ w2 = wx)
      case first =>
        go_wp2_with fail
        go_meet
        exact ⟨rfl, rfl⟩
      obtain ⟨rfl, rfl⟩ := hcut
      rename_i hK
      refine hK _ _ ?_
      apply wp_seq_k
      intro K1 hK1
      go_cut [6, 15, 16, 17, 18, 19, 20, 21, 22, 23, 24, 25, 26, 27] (fun s6 _ _ _ _ _ _ _ _ _ _ _ _ _ wx => s6 = .int .i64 P ∧ w2.grownBy wx none)
      case first =>
        go_wp2_with fail
        go_loopw [6] (fun s6 wk => ∃ k : Nat, k ≤ S.length ∧ s6 = .int .i64 k ∧ insK x S k = P ∧ w2.grownBy wk none) (fun s6 _ => (intOf s6).toNat)
        case atStart => exact ⟨S.length, Nat.le_refl _, rfl, Hst.out, grownBy_refl _ _⟩
        case round =>
          obtain ⟨k, hk, rfl, hik, hgk⟩ := hrel
          have Hik := Lib.hid hik
          clear hik
          by_cases hk0 : 0 < k
          · have hd : decide ((0 : Int) < (k : Int)) = true := decide_eq_true (by omega)
            obtain ⟨k', hk'⟩ : ∃ k', k = k' + 1 := ⟨k - 1, by omega⟩
            have hkl : k' < S.length := by omega
            obtain ⟨gs, os, cs, hvs, hgs, hcs⟩ := (RdL.same O2.rd hgk).at_ lnF_len hkl
            cases hvs
            have d0 := cell_regrown (hcs 0 _ rfl)
            have d1 := cell_regrown (hcs 1 _ rfl)
            have d2 := cell_regrown (hcs 2 _ rfl)
            rw [Nat.add_zero] at d0
            have a3 := (A2.same hgk).re
            have hst := Lib.hid (show insK x S k = if befB x S[k'] then insK x S k' else k by rw [hk', insK, List.getElem?_eq_getElem hkl]; rfl)
            generalize S[k'] = y at *
            have r4 := call_re (w := wr) fun w' hg => rbefore_c x y w'
            clear hcs
            have hs1 : IntKind.i64.wrap ((k : Int) - 1) = (k' : Int) := by rw [IntWalk.i64_in _ (by omega)]; omega
            have hs2 : (k' : Int) < (S.length : Int) := by omega
            have hs3 : (0 : Int) ≤ (k' : Int) := by omega
            have hs4 : (k : Int) - 1 = (k' : Int) := by omega
            have Hk' := Lib.hid hk'
            clear hk'
            generalize befB x y = bb at *
            go_wp2_with fail
            (refine Tail.wp_region_tail_grown 11 (by kernel_rfl) (by kernel_rfl) ?_; simp only [List.take, List.drop]; (repeat (go_big_quiet_step (with_reducible exact r4 _ _))); refine wpQuiet_nil ?_; rintro _ ⟨⟨d5, os5⟩, rfl⟩)
            have K3 := grownBy_trans hgk (grown_re wr d5 os5)
            generalize grow (redrawn wr d5) os5 = w3 at *
            clear d0 d1 d2 a3 r4 hs1 hs2 hs3
            cases bb
            · go_wp2_with fail
              go_meet
              exact ⟨by rw [← Hik.out, hst.out]; rfl, K3⟩
            · go_wp2_with fail
              exact ⟨⟨k', by omega, rfl, by rw [← Hik.out, hst.out]; rfl, K3⟩, by have := Hk'.out; simp [intOf]; omega⟩
          · obtain rfl : k = 0 := by omega
            have hd : decide ((0 : Int) < ((0 : Nat) : Int)) = false := rfl
            go_wp2_with fail
            go_quiet (fail)
            go_wp2_with fail
            go_meet
            exact ⟨by rw [← Hik.out]; rfl, grownBy_drewN hgk _⟩
      obtain ⟨rfl, h3⟩ := hcut
      have O3 := O2.same h3
      have A3 := A2.same h3
      have G3 := grownBy_trans G2 h3
      clear O2 A2 hK
      refine hK1 _ _ ?_
      clear hK1
      have hcap := O3.cap
      have hP0 : (0 : Int) ≤ (P : Int) := by omega
      have hP1 : (P : Int) ≤ (S.length : Int) := by omega
      have hP2 : (P : Int) ≤ (oc : Int) := by omega
      have hP3 : (S.length : Int) ≤ (oc : Int) := by omega
      have hsz := G3.size
      refine wp_region_any (by kernel_rfl) ?_
      (refine Tail.take_put 8 36 (.slice oa S.length oc) rfl rfl (by kernel_rfl) (by kernel_rfl) (by kernel_rfl) (fun _ _ _ h => h) (Or.inl ⟨by rfl, fun w => ?_⟩) ?_; · go_simp); simp only [List.setIfInBounds_toArray, List.set_cons_zero, List.set_cons_succ]
      (refine Tail.take_put 9 37 (.int .i64 P) rfl rfl (by kernel_rfl) (by kernel_rfl) (by kernel_rfl) (fun _ _ _ h => h) (Or.inl ⟨by rfl, fun w => ?_⟩) ?_; · go_simp); simp only [List.setIfInBounds_toArray, List.set_cons_zero, List.set_cons_succ]
      (refine Tail.take_put 10 38 (.slice (if oc = P then oa else oa.map (·.add (P * 3))) (S.length - P) (oc - P)) rfl rfl (by kernel_rfl) (by kernel_rfl) (by kernel_rfl) (fun _ _ _ h => h) (Or.inl ⟨by rfl, fun w => ?_⟩) ?_; · go_simp); simp only [List.setIfInBounds_toArray, List.set_cons_zero, List.set_cons_succ]
      have RD := Lib.hid fun w' (h : Own lnF 3 40 w.heap.size w' (.slice oa S.length oc) S) => h.rd.drop lnF_len hKl hcap (oc - P)
      generalize (if oc = P then oa else oa.map (·.add (P * 3))) = od at *
      (refine Rg.wpAny_rg 7 #[] #[false, false, false, false, false, false, false, false, true, true, true, false, false] (fun w w' => World.grownBy w w' none) (fun _ _ _ _ _ => False) (by kernel_rfl) (by kernel_rfl) rfl (by kernel_rfl) (by simp only [Rg.tailL, List.drop]; decide) (fun w => grownBy_refl w none) (fun _ _ _ h k => grownBy_trans h k) (fun _ _ _ _ _ h => h) ?_; simp only [List.take, List.drop, Rg.tailL]; simp (decide := true) only [if_true, if_false])
      have Gd : wc.grownBy wc.drew none := (by (repeat (first | exact grownBy_refl _ _ | assumption | refine grownBy_new_block ?_ _ | refine grownBy_drew ?_ | refine grownBy_drewN ?_ _ | refine grownBy_setNew ?_ (by first | (simp; done) | omega | (simp; omega)) _)))
      have Kd := grownBy_trans G3 Gd
      have hb1 : (S.take P).length = P := by simp; omega
      have hb2 : (S.take P).length * 32 ≤ 140737488355328 := by rw [hb1]; omega
      have hb3 : (S.take P).length ≤ 9223372036854775807 := by rw [hb1]; omega
      have hb4 : ((S.take P).length + 1) * 32 ≤ 140737488355328 := by rw [hb1]; omega
      have hb5 : (S.take P).length + 1 ≤ 9223372036854775807 := by rw [hb1]; omega
      have hb6 : (S.take P ++ [x]).length = P + 1 := by rw [List.length_append, hb1]; rfl
      have hb7 : (S.drop P).length = S.length - P := by simp
      have hb8 : ((S.take P ++ [x]).length + (S.drop P).length) * 32 ≤ 140737488355328 := by rw [hb6, hb7]; omega
      have hb9 : (S.take P ++ [x]).length + (S.drop P).length ≤ 9223372036854775807 := by rw [hb6, hb7]; omega
      have Hb1 := Lib.hid hb1.symm
      have Hb7 := Lib.hid hb7.symm
      clear hb1 hb6 hb7
      (refine Rg.tree_op rfl rfl ?_; intro y0 my0 dy0)
      clear dy0
      have zy0 : w.heap.size ≤ y0.heap.size := (grownBy_trans Kd my0).size
      go_wp2_with fail
      refine ⟨World.grownBy_alloc _ _ _, ?_⟩
      have N0 := own_lit0 (e := 40) lnF 3 zy0
      have hg0 : wc.heap.size ≤ y0.heap.size := (grownBy_trans Gd my0).size
      generalize y0.alloc (.cells #[] 40) = e0 at *
      generalize y0.heap.size = g0 at *
      (refine Rg.tree_quiet 3 rfl (by first | exact Or.inl rfl | exact Or.inr rfl) ?_; simp only [List.take, List.drop, List.length_cons, List.length_nil, List.replicate, Nat.reduceAdd]; (try simp only [List.cons_append]); (try simp only [List.nil_append]); (repeat (go_big_quiet_step (fail))); refine wpQuiet_nil ?_)
      (refine Rg.tree_op rfl rfl ?_; intro y4 my4 dy4)
      have N4 := N0.same (dy4.out 0 (by omega) (by kernel_rfl))
      have K4 := grownBy_trans Gd my4
      have R4 := (O3.rd.take lnF_len hKl oc).same K4
      have z4 := (grownBy_trans Kd my4).size
      go_wp2_with (at_builtin; refine app_lit elt_ln one_ln N4 R4 Hb1.out hb2 hb3 z4 (by rfl) _ _ (by rfl) (by rfl) (by rfl) ?_; intro v4 e4 o4 g4 l4; have Hg4 := Lib.hid g4; clear g4)
      refine ⟨Hg4.out, ?_⟩
      have hv4 := Lies.ge l4 (fun k hk => Nat.le_trans hg0 (ge_new _ _ _ k hk)) K4.size
      clear R4 N0 N4 K4 z4 dy4 l4
      (refine Rg.tree_op rfl rfl ?_; intro y5 my5 dy5)
      clear dy5
      have a5 := (A3.same (grownBy_trans Gd my5)).cell
      go_wp2_with fail
      refine ⟨grownBy_refl _ _, ?_⟩
      clear a5
      (refine Rg.tree_op rfl rfl ?_; intro y6 my6 dy6)
      clear dy6
      go_wp2_with fail
      refine ⟨World.grownBy_alloc _ _ _, ?_⟩
      have N6 := Blk.new y6 #[.string x.key, .int .u64 x.lo, .int .u64 x.hi] 40
      generalize y6.alloc (.cells #[.string x.key, .int .u64 x.lo, .int .u64 x.hi] 40) = e6 at *
      generalize y6.heap.size = g6 at *
      (refine Rg.tree_nil ?_; intro z mz dz cz)
      have o5 := o4.same (dz.out 4 (by omega))
      have N7 := (N6.same (dz.out 6 (by omega))).one lnF_len x rfl
      have Kz := grownBy_trans Gd mz
      have KK := grownBy_trans Kd mz
      have z7 := KK.size
      have O7 := O3.same Kz
      have hlo : ∀ k, Value.ownBlock (.slice oa S.length oc) = some k → k < wc.heap.size := fun k hk => (O3.lt k hk).2
      have tok := Lib.hid hP0
      clear dz cz my0 my4 my5 my6 mz Hg4 Kz N6 o4 O3 A3 hg0 zy0 Gd Kd
      go_wp2_with (first
        | (at_builtin; have _t := tok; refine app elt_ln one_ln o5 N7 rfl hb4 hb5 z7 (by rfl) _ _ (by rfl) (by rfl) (by rfl) ?_; intro v7 w7 o7 g7 l7; clear tok; have K7 := grown_own KK o5 (Nat.le_refl _) g7; have R8 := RD.out _ (O7.kept g7 (fun k hk e => by have := hlo k hk; have := hv4 k e; omega)); have z8 := K7.size)
        | (at_builtin; refine app elt_ln one_ln o7 R8 Hb7.out hb8 hb9 z8 (by rfl) _ _ (by rfl) (by rfl) (by rfl) ?_; intro v8 w8 o8 g8 l8; have K8 := grown_own K7 o7 (Nat.le_refl _) g8))
      exact ⟨⟨j + 1, by omega, by go_num, by rw [HT.out, HK.out]; exact o8, K8⟩, by simp [intOf]; omega⟩
    · have hke : l.take j = l := List.take_of_length_le (by omega)
      rw [hke] at hO
      go_wp2_with fail
      go_ret
      exact ⟨_, rfl, hO, hg⟩
end Go.Proofs.YtiagjiaahnkefaaGreat

/- Where slices lie; differences; what selection leaves. -/
namespace Go.Proofs.YtiagjiaahnkefaaGreat
open Go.RowKit Go.Sort

theorem one_word : OneF wordF := by intro x u hu; simp [wordF] at hu; subst hu; rfl
theorem elt_word : Elt 23 25 (.int .u64 0) 1 8 := ⟨Tryz.underlying23, by kernel_rfl, rfl, by decide⟩

def subF (a b : Int) : Int := if a < b then 0 else a - b

def hiMax (l : List Ln) (un : Int) : Int := (l.map (·.hi)).foldl max un
def CapOk (v : Value) : Prop := ∀ a n c, v = .slice a n c → n ≤ c
theorem Own.capOk {α : Type} {f : α → List Value} {s : Nat} {e : TypeId} {B : Nat} {w : World} {v : Value} {l : List α} (h : Own f s e B w v l) : CapOk v := by
  intro a n c hv
  obtain ⟨a', c', hv'⟩ := h.shape
  rw [hv'] at hv
  cases hv
  exact (hv' ▸ h : Own f s e B w (.slice a l.length c) l).cap
/-- A slice in blocks from lo on. -/
def From (lo : Nat) (v : Value) : Prop := ∀ a n c, v = .slice (some a) n c → lo ≤ a.block
theorem Own.from_ {α : Type} {f : α → List Value} {s : Nat} {e : TypeId} {B : Nat} {w : World} {v : Value} {l : List α} (h : Own f s e B w v l) : From B v := by
  intro a n c hv
  rcases h.2 with ⟨rfl, _⟩ | ⟨g, cap, cur, rfl, hb, _⟩
  · cases hv
  · cases hv; exact hb
theorem RdL.keptFrom {α : Type} {f : α → List Value} {s : Nat} {w w' : World} {v : Value} {l : List α} {lo b : Nat} (h : RdL f s w v l) (hf : From lo v) (hg : w.grownBy w' (some b)) (hb : b < lo) : RdL f s w' v l :=
  Rd.kept h hg fun k e a n c hv => by cases e; have := hf a n c hv; omega
theorem From.le {lo lo' : Nat} {v : Value} (h : From lo v) (hl : lo' ≤ lo) : From lo' v := fun a n c hv => Nat.le_trans hl (h a n c hv)
/-- How many lines are listed. -/
def selN (k : Int) (l : List Ln) : Nat := min k.toNat l.length
def SelPost (k : Int) (l : List Ln) (w : World) (e : Ending) (w' : World) : Prop :=
  ∃ v1 v2, e = .returned (.tuple #[v1, v2]) ∧ RdL lnF 3 w' v1 ((sortLn l).take (selN k l)) ∧ RdL lnF 3 w' v2 ((sortLn l).drop (selN k l)) ∧ CapOk v1 ∧ From w.heap.size v1 ∧ From w.heap.size v2 ∧ w.grownBy w' none

end Go.Proofs.YtiagjiaahnkefaaGreat

/- Lines in their order: the program, by the library's stable sort (up to 20 lines: one insertion sort). -/
namespace Go.Proofs.YtiagjiaahnkefaaGreat
open Go.RowKit Go.Sort

def cmpLn (x y : Ln) : Int := if y.hi < x.hi then -1 else if x.hi < y.hi then 1 else Lib.compareBytes x.key.data.toList y.key.data.toList
theorem cb_lt : ∀ a b : List UInt8, Lib.compareBytes a b < 0 ↔ a < b
  | [], [] => by simp [Lib.compareBytes]
  | [], _ :: _ => by simp [Lib.compareBytes]
  | _ :: _, [] => by simp [Lib.compareBytes]
  | a :: r, b :: bs => by
    rw [List.cons_lt_cons_iff]
    unfold Lib.compareBytes
    by_cases h1 : a < b
    · simp [h1]
    · rw [if_neg h1]
      by_cases h2 : b < a
      · rw [if_pos h2]
        refine ⟨fun h => absurd h (by omega), ?_⟩
        rintro (h | ⟨rfl, _⟩)
        · exact absurd h h1
        · exact absurd h2 h1
      · rw [if_neg h2, cb_lt r bs]
        have e : a = b := UInt8.le_antisymm (UInt8.not_lt.1 h2) (UInt8.not_lt.1 h1)
        exact ⟨fun h => .inr ⟨e, h⟩, fun h => h.elim (fun h => absurd h h1) fun h => h.2⟩
theorem cmpLn_neg (x y : Ln) : decide (cmpLn x y < 0) = befB x y := by
  unfold cmpLn befB
  by_cases h1 : y.hi < x.hi
  · rw [if_pos h1, decide_eq_true h1]; rfl
  · rw [if_neg h1, decide_eq_false h1]
    by_cases h2 : x.hi < y.hi
    · rw [if_pos h2, decide_eq_false (show ¬ x.hi = y.hi by omega)]; rfl
    · rw [if_neg h2, decide_eq_true (show x.hi = y.hi by omega), Bool.eq_iff_iff]
      simp only [decide_eq_true_eq, Bool.false_or, Bool.true_and]
      exact cb_lt _ _
theorem mid_at (S R : List Ln) (x : Ln) {j : Nat} (hj : j ≤ S.length) : (S.take j ++ [x] ++ S.drop j ++ R)[j]? = some x := by
  have e : (S.take j).length = j := by simp; omega
  rw [List.append_assoc, List.append_assoc, List.getElem?_append_right (by omega), e]; simp
theorem mid_before (S R : List Ln) (x : Ln) {j k : Nat} (hj : j ≤ S.length) (hk : k < j) : (S.take j ++ [x] ++ S.drop j ++ R)[k]? = S[k]? := by
  have e : (S.take j).length = j := by simp; omega
  rw [List.append_assoc, List.append_assoc, List.getElem?_append_left (by omega), List.getElem?_take, if_pos hk]
theorem mid_len (S R : List Ln) (x : Ln) (j : Nat) : (S.take j ++ [x] ++ S.drop j ++ R).length = S.length + 1 + R.length := by
  simp; omega
theorem mid_swap (S R : List Ln) (x : Ln) {j : Nat} (hj : j + 1 ≤ S.length) : ((S.take (j + 1) ++ [x] ++ S.drop (j + 1) ++ R).set (j + 1) S[j]).set j x = S.take j ++ [x] ++ S.drop j ++ R := by
  have e1 : (S.take (j + 1)).length = j + 1 := by simp; omega
  have e2 : (S.take j).length = j := by simp; omega
  have e3 : S.take (j + 1) = S.take j ++ [S[j]] := List.take_succ_eq_append_getElem (by omega)
  have e4 : S.drop j = S[j] :: S.drop (j + 1) := List.drop_eq_getElem_cons (by omega)
  rw [List.append_assoc, List.append_assoc, List.set_append_right _ _ (by omega), e1, Nat.sub_self, e3]
  simp only [List.cons_append, List.nil_append, List.set_cons_zero, List.append_assoc]
  rw [List.set_append_right _ _ (by omega), e2, Nat.sub_self]
  simp only [List.set_cons_zero]
  rw [e4, List.cons_append]
/-- A whole line is stored. -/
theorem Own.store3 {B : Nat} {w : World} {g n cap : Nat} {l : List Ln} (h : Own lnF 3 40 B w (.slice (some ⟨g, 0, none⟩) n cap) l) {i : Nat} (hi : i < l.length) (y : Ln) :
    Own lnF 3 40 B (((w.setCell ⟨g, i * 3, none⟩ (.string y.key)).setCell ⟨g, i * 3 + 1, none⟩ (.int .u64 y.lo)).setCell ⟨g, i * 3 + 2, none⟩ (.int .u64 y.hi)) (.slice (some ⟨g, 0, none⟩) n cap) (l.set i y) ∧
      w.grownBy (((w.setCell ⟨g, i * 3, none⟩ (.string y.key)).setCell ⟨g, i * 3 + 1, none⟩ (.int .u64 y.lo)).setCell ⟨g, i * 3 + 2, none⟩ (.int .u64 y.hi)) (some g) := by
  have h1 := h.stored lnF_len hi (show 0 < 3 by omega) (.string y.key) ⟨y.key, l[i].lo, l[i].hi⟩ rfl
  have h2 := h1.1.stored lnF_len (i := i) (by simpa using hi) (show 1 < 3 by omega) (.int .u64 y.lo) ⟨y.key, y.lo, l[i].hi⟩ (by simp [lnF])
  have h3 := h2.1.stored lnF_len (i := i) (by simpa using hi) (show 2 < 3 by omega) (.int .u64 y.hi) y (by simp [lnF])
  refine ⟨?_, grownBy_trans h1.2 (grownBy_trans h2.2 h3.2)⟩
  have := h3.1
  rw [List.set_set, List.set_set] at this
  simpa using this

set_option maxHeartbeats 400000 in
theorem sortFn_c (x y : Ln) (w : World) : Calls Tryz.prog 83 #[lnV x, lnV y] w (RetInt (cmpLn x y) w) := by
  have H := Lib.hid (show cmpLn x y = if y.hi < x.hi then -1 else if x.hi < y.hi then 1 else Lib.compareBytes x.key.data.toList y.key.data.toList from rfl)
  have hc := Lib.hid fun w' => Tryz.strings_Compare x.key y.key w'
  generalize cmpLn x y = q at *
  generalize Lib.compareBytes x.key.data.toList y.key.data.toList = r at *
  have HG : Hid (∀ w', World.grownBy ((w.alloc (.cells #[.string x.key, .int .u64 x.lo, .int .u64 x.hi] 40)).alloc (.cells #[.string y.key, .int .u64 y.lo, .int .u64 y.hi] 40)) w' none → w.grownBy w' none) := Lib.hid fun w' h => grownBy_trans (grownBy_new_block (grownBy_new_block (grownBy_refl _ _) _) _) h
  by_cases h1 : y.hi < x.hi
  · have H2 := Lib.hid (H.out.trans (by rw [if_pos h1]))
    clear H
    go_enter Tryz.func83, Tryz.ntmps83
    go_wp2_with fail
    go_ret
    exact retInt H2.out (HG.out _ (grownBy_refl _ _))
  · by_cases h2 : x.hi < y.hi
    · have H2 := Lib.hid (H.out.trans (by rw [if_neg h1, if_pos h2]))
      clear H
      go_enter Tryz.func83, Tryz.ntmps83
      go_wp2_with fail
      go_ret
      exact retInt H2.out (HG.out _ (grownBy_refl _ _))
    · have H2 := Lib.hid (H.out.trans (by rw [if_neg h1, if_neg h2]))
      clear H
      go_enter Tryz.func83, Tryz.ntmps83
      go_wp2_with (go_at_call 84; refine (hc.out _).mono ?_; rintro e w' ⟨rfl, rfl⟩)
      go_ret
      exact retInt H2.out (HG.out _ (grownBy_refl _ _))

/-! ### The insertion sort -/
abbrev sortFn : Value := .func (Fn.func 83) #[] #[]
theorem sorted_one (l : List Ln) : sortLn (l.take 1) ++ l.drop 1 = l := by
  cases l with
  | nil => rfl
  | cons x l => simp [sortLn, insL, insK]

set_option maxHeartbeats 1000000 in
set_option maxRecDepth 100000 in
theorem isort_c (B : Nat) (a : Option Addr) (c : Nat) (l : List Ln) (w : World) (h : Own lnF 3 40 B w (.slice a l.length c) l) (hl : l.length ≤ 1000000) :
    Calls Tryz.prog 127 #[.slice a l.length c, .int .i64 0, .int .i64 l.length, sortFn] w fun e w' =>
      e = .returned (.tuple #[]) ∧ Own lnF 3 40 B w' (.slice a l.length c) (sortLn l) ∧ w.grownBy w' (Value.ownBlock (.slice a l.length c)) := by
  have hm := h.len
  have H := Lib.hid h
  have hll : (l.length : Int) ≤ 1000000 := by omega
  clear h
  generalize hV : (Value.slice a l.length c).ownBlock = rb
  have HV := Lib.hid hV
  clear hV
  go_enter Tryz.func127, Tryz.ntmps127
  go_wp2_with fail
  go_loopw [8, 9, 18, 19] (fun s8 _ _ _ wk => ∃ (i : Nat), 1 ≤ i ∧ s8 = .int .i64 i ∧ Own lnF 3 40 B wk (.slice a l.length c) (sortLn (l.take i) ++ l.drop i) ∧ w.grownBy wk rb) (fun s8 _ _ _ _ => l.length + 1 - (intOf s8).toNat)
  case atStart => exact ⟨1, by omega, rfl, by rw [sorted_one]; exact H.out, grownBy_refl _ _⟩
  case round =>
    obtain ⟨i, hi, rfl, hO, hg⟩ := hrel
    by_cases hil : i < l.length
    · have hdr : l.drop i = l[i] :: l.drop (i + 1) := List.drop_eq_getElem_cons hil
      have HS := Lib.hid (show insL (sortLn (l.take i)) l[i] = sortLn (l.take (i + 1)) by rw [List.take_succ_eq_append_getElem hil, sortLn_snoc])
      have hSl : (sortLn (l.take i)).length = i := by rw [sortLn_len, List.length_take]; omega
      have hO2 : Own lnF 3 40 B wr (.slice a l.length c) ((sortLn (l.take i)).take i ++ [l[i]] ++ (sortLn (l.take i)).drop i ++ l.drop (i + 1)) := by
        rw [List.take_of_length_le (by omega), List.drop_of_length_le (by omega), List.append_nil, List.append_assoc]
        rw [hdr] at hO
        exact hO
      have hRl : (l.drop (i + 1)).length = l.length - (i + 1) := by simp
      have HO := Lib.hid hO2
      clear hO hO2 hdr
      generalize sortLn (l.take i) = S at *
      obtain ⟨R, hR⟩ : ∃ R, l.drop (i + 1) = R := ⟨_, rfl⟩
      have HR := Lib.hid hR
      rw [hR] at hRl HO
      clear hR
      generalize l[i] = x at *
      subst hSl
      have HK := Lib.hid (show insL S x = S.take (insK x S S.length) ++ [x] ++ S.drop (insK x S S.length) from rfl)
      obtain ⟨P, hP⟩ : ∃ P, insK x S S.length = P := ⟨_, rfl⟩
      have Hst := Lib.hid hP
      rw [hP] at HK
      clear hP
      have HRl := Lib.hid hRl
      clear hRl
      go_wp2_with fail
      go_loopw [9, 18, 19] (fun s9 _ _ wk => ∃ j : Nat, j ≤ S.length ∧ s9 = .int .i64 j ∧ insK x S j = P ∧ Own lnF 3 40 B wk (.slice a l.length c) (S.take j ++ [x] ++ S.drop j ++ R) ∧ w.grownBy wk rb) (fun s9 _ _ _ => (intOf s9).toNat)
      case atStart => exact ⟨S.length, Nat.le_refl _, rfl, Hst.out, HO.out, hg⟩
      case round =>
        clear HO hg
        obtain ⟨j, hj, rfl, hik, hO, hg⟩ := hrel
        have Hik := Lib.hid hik
        clear hik
        have hML := mid_len S R x j
        have hmj := mid_at S R x hj
        obtain ⟨gv, cv, hv, hBg, hgv, hcv, hcx, hfz⟩ := hO.at_ lnF_len (i := j) (by omega)
        obtain ⟨rfl, -, rfl⟩ : a = some ⟨gv, 0, none⟩ ∧ l.length = (S.take j ++ [x] ++ S.drop j ++ R).length ∧ c = cv := by simpa only [Value.slice.injEq] using hv
        clear hv
        have ex : (S.take j ++ [x] ++ S.drop j ++ R)[j]'(by omega) = x := by
          have := List.getElem?_eq_getElem (l := S.take j ++ [x] ++ S.drop j ++ R) (i := j) (by omega)
          rw [hmj] at this; exact (Option.some.inj this).symm
        rw [ex] at hcx
        have c0 := hcx 0 _ rfl
        have c1 := hcx 1 _ rfl
        have c2 := hcx 2 _ rfl
        rw [Nat.add_zero] at c0
        clear hcx hmj ex
        by_cases hj0 : 0 < j
        · have hd : decide ((0 : Int) < (j : Int)) = true := decide_eq_true (by omega)
          obtain ⟨k, hk⟩ : ∃ k, j = k + 1 := ⟨j - 1, by omega⟩
          have hkS : k < S.length := by omega
          have hmk := mid_before S R x hj (k := k) (by omega)
          rw [List.getElem?_eq_getElem hkS] at hmk
          obtain ⟨gv', cv', hv', -, -, -, hcy, -⟩ := hO.at_ lnF_len (i := k) (by omega)
          obtain ⟨hg', -, -⟩ : some ⟨gv, 0, none⟩ = some (⟨gv', 0, none⟩ : Addr) ∧ l.length = (S.take j ++ [x] ++ S.drop j ++ R).length ∧ c = cv' := by simpa only [Value.slice.injEq] using hv'
          cases hg'
          clear hv'
          have ey : (S.take j ++ [x] ++ S.drop j ++ R)[k]'(by omega) = S[k] := by
            have := List.getElem?_eq_getElem (l := S.take j ++ [x] ++ S.drop j ++ R) (i := k) (by omega)
            rw [hmk] at this; exact (Option.some.inj this).symm
          rw [ey] at hcy
          have d0 := hcy 0 _ rfl
          have d1 := hcy 1 _ rfl
          have d2 := hcy 2 _ rfl
          rw [Nat.add_zero] at d0
          clear hcy hmk ey
          have hst := Lib.hid (show insK x S j = if befB x S[k] then insK x S k else j by rw [hk, insK, List.getElem?_eq_getElem hkS]; rfl)
          have hms := Lib.hid (mid_swap S R x (j := k) (by omega))
          generalize S[k] = y at *
          have hcn := cmpLn_neg x y
          have hjl : (j : Int) < (l.length : Int) := by omega
          have hkl : (k : Int) < (l.length : Int) := by omega
          have hk0 : (0 : Int) ≤ (k : Int) := by omega
          have hs1 : IntKind.i64.wrap ((j : Int) - 1) = (k : Int) := by rw [IntWalk.i64_in _ (by omega)]; omega
          have hs4 : (j : Int) - 1 = (k : Int) := by omega
          have r0 := cell_regrown c0
          have r1 := cell_regrown c1
          have r2 := cell_regrown c2
          have p0 := cell_regrown d0
          have p1 := cell_regrown d1
          have p2 := cell_regrown d2
          have r4 := call_re (w := wr) fun w' hg => sortFn_c x y w'
          have HC := Lib.hid fun w' (h : World.grownBy wr w' none) => And.intro (((grownBy_cells h).1 gv _ hgv (by simp)).trans c0) (And.intro (((grownBy_cells h).1 gv _ hgv (by simp)).trans c1) (And.intro (((grownBy_cells h).1 gv _ hgv (by simp)).trans c2) (And.intro (((grownBy_cells h).1 gv _ hgv (by simp)).trans d0) (And.intro (((grownBy_cells h).1 gv _ hgv (by simp)).trans d1) (((grownBy_cells h).1 gv _ hgv (by simp)).trans d2)))))
          have HFz := Lib.hid fun w' (h : World.grownBy wr w' none) o => ((grownBy_cells h).2 gv o hgv (by simp)).trans (hfz o)
          have Hk := Lib.hid hk
          have HML := Lib.hid hML
          clear hk hML hfz c0 c1 c2 d0 d1 d2
          generalize cmpLn x y = q at *
          generalize befB x y = bb at *
          go_wp2_with fail
          (refine Tail.wp_region_tail_grown 17 (by kernel_rfl) (by kernel_rfl) ?_; simp only [List.take, List.drop]; (repeat (go_big_quiet_step (with_reducible exact r4 _ _))); refine wpQuiet_nil ?_; rintro _ ⟨⟨d5, os5⟩, rfl⟩)
          have K3 := grownBy_trans hg (grownBy_some (grown_re wr d5 os5) rb)
          have O3 := hO.same (grown_re wr d5 os5)
          have G3 := grown_re wr d5 os5
          generalize grow (redrawn wr d5) os5 = w3 at *
          clear r0 r1 r2 p0 p1 p2 r4 hs1
          cases bb
          · have Hst2 := Lib.hid (hst.out.trans (if_neg (by simp)))
            clear hst
            go_wp2_with fail
            exact ⟨⟨S.length + 1, by omega, by go_num, by rw [← HS.out, HK.out, ← Hik.out, Hst2.out, HR.out]; exact O3, K3⟩, by simp [intOf]; omega⟩
          · have Hst2 := Lib.hid (hst.out.trans (if_pos rfl))
            clear hst
            go_wp2_with fail
            have Gd : wr.grownBy w3.drew none := grownBy_trans G3 (by (repeat (first | exact grownBy_refl _ _ | assumption | refine grownBy_new_block ?_ _ | refine grownBy_drew ?_ | refine grownBy_drewN ?_ _ | refine grownBy_setNew ?_ (by first | (simp; done) | omega | (simp; omega)) _)))
            (refine Rg.wp_region_rgZ 14 #[false, false, true, true, true, false, false, false, false, false, false, false, false, false] (fun w w' => World.grownBy w w' none) (fun _ _ _ _ _ => False) (by kernel_rfl) (by kernel_rfl) (fun w => grownBy_refl w none) (fun _ _ _ h k => grownBy_trans h k) (fun _ _ _ _ _ h => h) ?_; simp only [List.take, List.drop])
            (refine Rg.tree_quiet 9 rfl (by first | exact Or.inl rfl | exact Or.inr rfl) ?_; simp only [List.take, List.drop, List.length_cons, List.length_nil, List.replicate, Nat.reduceAdd]; (try simp only [List.cons_append]); (try simp only [List.nil_append]); (repeat (go_big_quiet_step (fail))); refine wpQuiet_nil ?_)
            (refine Rg.tree_op rfl rfl ?_; intro y9 my9 dy9)
            clear dy9
            obtain ⟨_, _, _, d0, d1, d2⟩ := HC.out y9 (grownBy_trans Gd my9)
            go_wp2_with fail
            refine ⟨grownBy_refl _ _, ?_⟩
            clear d0 d1 d2
            (refine Rg.tree_quiet 3 rfl (by first | exact Or.inl rfl | exact Or.inr rfl) ?_; simp only [List.take, List.drop, List.length_cons, List.length_nil, List.replicate, Nat.reduceAdd]; (try simp only [List.cons_append]); (try simp only [List.nil_append]); (repeat (go_big_quiet_step (fail))); refine wpQuiet_nil ?_)
            (refine Rg.tree_op rfl rfl ?_; intro y13 my13 dy13)
            clear dy13
            obtain ⟨c0, c1, c2, _, _, _⟩ := HC.out y13 (grownBy_trans Gd my13)
            go_wp2_with fail
            refine ⟨grownBy_refl _ _, ?_⟩
            clear c0 c1 c2
            (refine Rg.tree_nil ?_; intro z mz dz cz)
            clear dz cz
            have hfz := HFz.out z (grownBy_trans Gd mz)
            obtain ⟨c0, c1, c2, d0, d1, d2⟩ := HC.out z (grownBy_trans Gd mz)
            have n0 : ¬ (k * 3 = j * 3) := by have := Hk.out; omega
            have n1 : ¬ (j * 3 = k * 3) := by have := Hk.out; omega
            have n2 : ¬ (k * 3 = j * 3 + 1) := by have := Hk.out; omega
            have n3 : ¬ (j * 3 + 1 = k * 3) := by have := Hk.out; omega
            have n4 : ¬ (k * 3 = j * 3 + 2) := by have := Hk.out; omega
            have n5 : ¬ (j * 3 + 2 = k * 3) := by have := Hk.out; omega
            have n6 : ¬ (k * 3 + 1 = j * 3) := by have := Hk.out; omega
            have n7 : ¬ (j * 3 = k * 3 + 1) := by have := Hk.out; omega
            have n8 : ¬ (k * 3 + 1 = j * 3 + 1) := by have := Hk.out; omega
            have n9 : ¬ (j * 3 + 1 = k * 3 + 1) := by have := Hk.out; omega
            have n10 : ¬ (k * 3 + 1 = j * 3 + 2) := by have := Hk.out; omega
            have n11 : ¬ (j * 3 + 2 = k * 3 + 1) := by have := Hk.out; omega
            have n12 : ¬ (k * 3 + 2 = j * 3) := by have := Hk.out; omega
            have n13 : ¬ (j * 3 = k * 3 + 2) := by have := Hk.out; omega
            have n14 : ¬ (k * 3 + 2 = j * 3 + 1) := by have := Hk.out; omega
            have n15 : ¬ (j * 3 + 1 = k * 3 + 2) := by have := Hk.out; omega
            have n16 : ¬ (k * 3 + 2 = j * 3 + 2) := by have := Hk.out; omega
            have n17 : ¬ (j * 3 + 2 = k * 3 + 2) := by have := Hk.out; omega
            go_wp2_with fail
            obtain rfl := Hk.out
            have Oz := O3.same (grownBy_trans (show World.grownBy w3 w3.drew none from (by (repeat (first | exact grownBy_refl _ _ | assumption | refine grownBy_new_block ?_ _ | refine grownBy_drew ?_ | refine grownBy_drewN ?_ _ | refine grownBy_setNew ?_ (by first | (simp; done) | omega | (simp; omega)) _)))) mz)
            have hlt1 : k + 1 < (S.take (k + 1) ++ [x] ++ S.drop (k + 1) ++ R).length := by rw [mid_len]; omega
            have s1 := Oz.store3 hlt1 y
            have s2 := s1.1.store3 (i := k) (by rw [List.length_set]; omega) x
            have hrb : some gv = rb := HV.out
            have s3 := s2.1
            rw [hms.out] at s3
            exact ⟨⟨k, by omega, rfl, by rw [← Hik.out, Hst2.out], s3, grownBy_trans K3 (grownBy_trans (grownBy_some (grownBy_trans (show World.grownBy w3 w3.drew none from (by (repeat (first | exact grownBy_refl _ _ | assumption | refine grownBy_new_block ?_ _ | refine grownBy_drew ?_ | refine grownBy_drewN ?_ _ | refine grownBy_setNew ?_ (by first | (simp; done) | omega | (simp; omega)) _)))) mz) rb) (hrb ▸ grownBy_trans s1.2 s2.2))⟩, by simp [intOf]⟩
        · obtain rfl : j = 0 := by omega
          have hd : decide ((0 : Int) < ((0 : Nat) : Int)) = false := rfl
          clear c0 c1 c2
          go_wp2_with fail
          go_quiet (fail)
          go_wp2_with fail
          have hik2 : P = 0 := by rw [← Hik.out]; rfl
          exact ⟨⟨S.length + 1, by omega, by go_num, by rw [← HS.out, HK.out, HR.out, hik2]; exact hO.same (grownBy_drewN (grownBy_refl _ _) _), grownBy_drewN hg _⟩, by simp [intOf]; omega⟩
    · have e1 : sortLn (l.take i) ++ l.drop i = sortLn l := by rw [List.take_of_length_le (by omega), List.drop_of_length_le (by omega), List.append_nil]
      rw [e1] at hO
      go_wp2_with fail
      go_end0
      exact ⟨rfl, hO, hg⟩
end Go.Proofs.YtiagjiaahnkefaaGreat

/- Selection of the first lines: the program and the reference. -/
namespace Go.Proofs.YtiagjiaahnkefaaGreat
open Go.RowKit Go.Sort

set_option maxHeartbeats 400000 in
set_option maxRecDepth 100000 in
theorem cloneLn_c (v : Value) (l : List Ln) (w : World) (h : RdL lnF 3 w v l) (hl : l.length ≤ 1000000) : Calls Tryz.prog 81 #[v] w (RetOwn lnF 3 40 l w) := by
  obtain ⟨a, c, rfl⟩ := h.shape
  have H := Lib.hid h
  have hb1 : l.length * 32 ≤ 140737488355328 := by omega
  have hb2 : l.length ≤ 9223372036854775807 := by omega
  cases a with
  | none =>
    have hn : l = [] := by
      rcases h.2.2 with ⟨h0, _⟩ | ⟨g, off, cap, hv, _⟩
      · exact List.length_eq_zero_iff.1 h0
      · cases hv
    subst hn
    have hq := fun w => Lib.run_eql_slice_nil (P := Tryz.prog) w _ _ none 0 c 0 0 (elt_ln).ht
    simp only [List.length_nil]
    go_enter Tryz.func81, Tryz.ntmps81
    go_wp2
    go_ret
    exact ⟨_, rfl, Own.nil _ _ _ _ _, grownBy_refl _ _⟩
  | some ad =>
    clear h
    have hq := fun w => Lib.run_eql_slice_nil (P := Tryz.prog) w _ _ (some ad) l.length c 0 0 (elt_ln).ht
    go_enter Tryz.func81, Tryz.ntmps81
    go_upto_region 3 with fail
    have N := own_lit0 (e := 40) lnF 3 (Nat.le_refl w.heap.size)
    have R := H.out.same (World.grownBy_alloc w (.cells #[] 40) none)
    go_wp2_with (at_builtin; refine app_lit elt_ln one_ln N R rfl hb1 hb2 (by simp) (by rfl) _ _ (by rfl) (by rfl) (by rfl) ?_; intro v4 w4 o4 g4 l4)
    go_ret
    exact ⟨_, rfl, o4, grownBy_trans (World.grownBy_alloc w _ none) g4⟩

set_option maxHeartbeats 400000 in
set_option maxRecDepth 100000 in
theorem cloneW_c (v : Value) (l : List Int) (w : World) (h : RdL wordF 1 w v l) (hl : l.length ≤ 1000000) : Calls Tryz.prog 30 #[v] w (RetOwn wordF 1 25 l w) := by
  obtain ⟨a, c, rfl⟩ := h.shape
  have H := Lib.hid h
  have hb1 : l.length * 8 ≤ 140737488355328 := by omega
  have hb2 : l.length ≤ 9223372036854775807 := by omega
  cases a with
  | none =>
    have hn : l = [] := by
      rcases h.2.2 with ⟨h0, _⟩ | ⟨g, off, cap, hv, _⟩
      · exact List.length_eq_zero_iff.1 h0
      · cases hv
    subst hn
    have hq := fun w => Lib.run_eql_slice_nil (P := Tryz.prog) w _ _ none 0 c 0 0 (elt_word).ht
    simp only [List.length_nil]
    go_enter Tryz.func30, Tryz.ntmps30
    go_wp2
    go_ret
    exact ⟨_, rfl, Own.nil _ _ _ _ _, grownBy_refl _ _⟩
  | some ad =>
    clear h
    have hq := fun w => Lib.run_eql_slice_nil (P := Tryz.prog) w _ _ (some ad) l.length c 0 0 (elt_word).ht
    go_enter Tryz.func30, Tryz.ntmps30
    go_upto_region 3 with fail
    have N := own_lit0 (e := 25) wordF 1 (Nat.le_refl w.heap.size)
    have R := H.out.same (World.grownBy_alloc w (.cells #[] 25) none)
    go_wp2_with (at_builtin; refine app_lit elt_word one_word N R rfl hb1 hb2 (by simp) (by rfl) _ _ (by rfl) (by rfl) (by rfl) ?_; intro v4 w4 o4 g4 l4)
    go_ret
    exact ⟨_, rfl, o4, grownBy_trans (World.grownBy_alloc w _ none) g4⟩

set_option maxHeartbeats 400000 in
theorem stable_c (B : Nat) (a : Option Addr) (c : Nat) (l : List Ln) (w : World) (h : Own lnF 3 40 B w (.slice a l.length c) l) (hl : l.length ≤ 19) :
    Calls Tryz.prog 109 #[.slice a l.length c, .int .i64 l.length, sortFn] w fun e w' =>
      e = .returned (.tuple #[]) ∧ Own lnF 3 40 B w' (.slice a l.length c) (sortLn l) ∧ w.grownBy w' (Value.ownBlock (.slice a l.length c)) := by
  have hc := Lib.hid (isort_c B a c l w h (by omega))
  have h1 : ¬ (20 : Int) ≤ (l.length : Int) := by omega
  have h2 : ¬ (20 : Int) < (l.length : Int) := by omega
  clear h
  go_enter Tryz.func109, Tryz.ntmps109
  go_wp2_with fail
  go_loopw [7, 8] (fun s7 s8 wk => s7 = .int .i64 0 ∧ s8 = .int .i64 20 ∧ w = wk) (fun _ _ _ => 0)
  case atStart => exact ⟨rfl, rfl, rfl⟩
  case round =>
    obtain ⟨rfl, rfl, rfl⟩ := hrel
    go_wp2_with (go_at_call 127; refine hc.out.mono ?_; rintro e w2 ⟨rfl, o2, g2⟩)
    go_loopw [6] (fun s6 wk => s6 = .int .i64 20 ∧ w2 = wk) (fun _ _ => 0)
    case atStart => exact ⟨rfl, rfl⟩
    case round =>
      obtain ⟨rfl, rfl⟩ := hrel
      go_wp2_with fail
      go_end0
      exact ⟨rfl, o2, g2⟩

set_option maxHeartbeats 400000 in
theorem sstable_c (B : Nat) (a : Option Addr) (c : Nat) (l : List Ln) (w : World) (h : Own lnF 3 40 B w (.slice a l.length c) l) (hl : l.length ≤ 19) :
    Calls Tryz.prog 82 #[.slice a l.length c, sortFn] w fun e w' =>
      e = .returned (.tuple #[]) ∧ Own lnF 3 40 B w' (.slice a l.length c) (sortLn l) ∧ w.grownBy w' (Value.ownBlock (.slice a l.length c)) := by
  have hc := Lib.hid (stable_c B a c l w h hl)
  clear h
  go_enter Tryz.func82, Tryz.ntmps82
  go_wp2_with (go_at_call 109; refine hc.out.mono ?_; rintro e w2 ⟨rfl, o2, g2⟩)
  go_end0
  exact ⟨rfl, o2, g2⟩

set_option maxHeartbeats 400000 in
theorem bsort_c (v : Value) (l : List Ln) (w : World) (h : RdL lnF 3 w v l) (hl : l.length ≤ 19) : Calls Tryz.prog 56 #[v] w (RetOwn lnF 3 40 (sortLn l) w) := by
  obtain ⟨a, c, rfl⟩ := h.shape
  have hc1 := Lib.hid (cloneLn_c _ l w h (by omega))
  have hsl := Lib.hid (sortLn_len l)
  have hc2 := Lib.hid fun a c w' h => sstable_c w.heap.size a c l w' h hl
  clear h
  go_enter Tryz.func56, Tryz.ntmps56
  go_wp2_with (first
    | (go_at_call 81; refine hc1.out.mono ?_; rintro e w2 ⟨v2, rfl, o2, g2⟩; obtain ⟨a2, c2, rfl⟩ := o2.shape)
    | (go_at_call 82; refine (hc2.out _ _ _ o2).mono ?_; rintro e w3 ⟨rfl, o3, g3⟩))
  go_ret
  exact ⟨_, rfl, o3, grown_own g2 o2 (Nat.le_refl _) g3⟩

set_option maxHeartbeats 400000 in
theorem greatest_c (first : Int) (v : Value) (l : List Int) (w : World) (h : RdL wordF 1 w v l) : Calls Tryz.prog 57 #[.int .u64 first, v] w (RetWord (l.foldl max first) w) := by
  obtain ⟨a, c, rfl⟩ := h.shape
  have hm := h.2.1
  have H := Lib.hid h
  clear h
  go_enter Tryz.func57, Tryz.ntmps57
  go_wp2_with fail
  go_loopw [0, 9] (fun s0 s9 wk => ∃ k : Nat, k ≤ l.length ∧ s9 = .int .i64 k ∧ s0 = .int .u64 ((l.take k).foldl max first) ∧ w.grownBy wk none) (fun _ s9 _ => l.length - (intOf s9).toNat)
  case atStart => exact ⟨0, Nat.zero_le _, rfl, rfl, grownBy_refl _ _⟩
  case round =>
    obtain ⟨k, hk, rfl, rfl, hg⟩ := hrel
    by_cases hlt : k < l.length
    · obtain ⟨g, off, cap, hv, hgl, hc⟩ := (H.out.same hg).one word_one hlt
      cases hv
      have HS := Lib.hid (show (l.take (k + 1)).foldl max first = max ((l.take k).foldl max first) l[k] by rw [List.take_succ_eq_append_getElem hlt, List.foldl_append]; rfl)
      generalize (l.take k).foldl max first = m at *
      generalize l[k] = x at *
      go_wp2_with fail
      exact ⟨⟨k + 1, by omega, by go_num, by rw [HS.out], hg⟩, by simp [intOf]; omega⟩
    · have hl : l.take k = l := List.take_of_length_le (by omega)
      rw [hl]
      go_wp2_with fail
      go_ret
      exact retWord rfl hg


set_option maxHeartbeats 400000 in
set_option maxRecDepth 100000 in
theorem trest_c (v : Value) (l : List Ln) (un : Int) (w : World) (h : RdL lnF 3 w v l) (hl : l.length ≤ 1000000) : Calls Tryz.prog 28 #[v, .int .u64 un] w (RetWord (hiMax l un) w) := by
  obtain ⟨a, c, rfl⟩ := h.shape
  have hm := h.2.1
  have H := Lib.hid h
  have HM := Lib.hid (show hiMax l un = (l.map (·.hi)).foldl max un from rfl)
  clear h
  generalize hiMax l un = q at *
  go_enter Tryz.func28, Tryz.ntmps28
  go_wp2_with fail
  go_loopw [5, 10] (fun s5 s10 wk => ∃ k : Nat, k ≤ l.length ∧ s10 = .int .i64 k ∧ Own wordF 1 25 w.heap.size wk s5 ((l.take k).map (·.hi)) ∧ w.grownBy wk none) (fun _ s10 _ => l.length - (intOf s10).toNat)
  case atStart => exact ⟨0, Nat.zero_le _, rfl, Own.nil _ _ _ _ _, grownBy_refl _ _⟩
  case round =>
    obtain ⟨k, hk, rfl, hO, hg⟩ := hrel
    by_cases hlt : k < l.length
    · obtain ⟨g, off, cap, hv, hgl, hc⟩ := (RdL.same H.out hg).at_ lnF_len hlt
      cases hv
      have c0 := hc 0 _ rfl
      have c1 := hc 1 _ rfl
      have c2 := hc 2 _ rfl
      rw [Nat.add_zero] at c0
      clear hc
      have HS := Lib.hid (show (l.take (k + 1)).map (·.hi) = (l.take k).map (·.hi) ++ [l[k].hi] by rw [List.take_succ_eq_append_getElem hlt, List.map_append]; rfl)
      have hb1 : (((l.take k).map (·.hi)).length + 1) * 8 ≤ 140737488355328 := by rw [List.length_map, List.length_take]; omega
      have hb2 : ((l.take k).map (·.hi)).length + 1 ≤ 9223372036854775807 := by omega
      generalize (l.take k).map (·.hi) = M at *
      generalize l[k] = x at *
      go_upto_region 5 with fail
      have O2 := hO.same (World.grownBy_alloc wr (.cells #[.string x.key, .int .u64 x.lo, .int .u64 x.hi] 40) none)
      have G2 := grownBy_new_block hg (.cells #[.string x.key, .int .u64 x.lo, .int .u64 x.hi] 40)
      have A2 := (Blk.new wr #[.string x.key, .int .u64 x.lo, .int .u64 x.hi] 40).cell
      have hsz := G2.size
      have Hcs := Lib.hid (show (#[Value.int .u64 x.hi] : Array Value).toList = wordF x.hi from rfl)
      generalize wr.alloc (.cells #[.string x.key, .int .u64 x.lo, .int .u64 x.hi] 40) = w2 at *
      clear hO hg c0 c1 c2 hgl
      go_wp2_with (at_builtin; refine app_one elt_word one_word (fun _ => rfl) O2 x.hi hb1 hb2 hsz Hcs.out rfl (.tmp 14) (.tmp 17) rfl rfl rfl ?_; intro v3 w3 o3 g3 l3)
      exact ⟨⟨k + 1, by omega, by go_num, by rw [HS.out]; exact o3, grown_own G2 O2 (Nat.le_refl _) g3⟩, by simp [intOf]; omega⟩
    · have hle : l.take k = l := List.take_of_length_le (by omega)
      rw [hle] at hO
      clear hle
      obtain ⟨oa, oc, rfl⟩ := hO.shape
      have hcc := fun w' (h : wr.grownBy w' none) => greatest_c un _ _ w' (hO.rd.same h)
      rw [← HM.out, List.length_map] at hcc
      have Hcc := Lib.hid hcc
      clear hcc
      rw [List.length_map]
      go_wp2_with (go_at_call 57; refine (Hcc.out _ (grownBy_refl _ _)).mono ?_; rintro e w4 ⟨rfl, g4⟩)
      go_ret
      exact retWord rfl (grownBy_trans hg g4)
end Go.Proofs.YtiagjiaahnkefaaGreat
