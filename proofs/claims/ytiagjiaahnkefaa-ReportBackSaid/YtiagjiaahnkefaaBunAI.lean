/- Several texts in one file; each begins with a comment that says what is proved in it. -/
import Derived.Test.YtiagjiaahnkefaaBunAH
import Derived.Test.YtiagjiaahnkefaaBunAC
import Derived.Test.YtiagjiaahnkefaaBunAD
import Derived.StillTailTactics
import Derived.Test.YtiagjiaahnkefaaBunAB
import Derived.Test.YtiagjiaahnkefaaBunAA
import Derived.Test.YtiagjiaahnkefaaBunAE
import Derived.Maps.OwnSet
import Derived.StringKeys
import Derived.Maps.OwnOps
import Derived.Carry
import Derived.Lib.MinMax
import Derived.Test.YtiagjiaahnkefaaBunAG

/- The rest and the totals of the deck's summaries: plain laws. -/
namespace Go.Proofs.Ytiagjiaahnkefaa
open Go.RowKit

def sumI (f : Int → Int) (is : List Int) : Int := is.foldl (fun a i => a + f i) 0
theorem sumI_from (f : Int → Int) : ∀ (is : List Int) (a : Int), is.foldl (fun a i => a + f i) a = a + sumI f is
  | [], a => by simp [sumI]
  | i :: is, a => by
    unfold sumI
    simp only [List.foldl_cons]
    rw [sumI_from f is (a + f i), sumI_from f is (0 + f i)]
    omega
theorem sumI_cons (f : Int → Int) (i : Int) (is : List Int) : sumI f (i :: is) = f i + sumI f is := by
  show (i :: is).foldl (fun a i => a + f i) 0 = _
  simp only [List.foldl_cons]
  rw [sumI_from]; omega
theorem sumI_nil (f : Int → Int) : sumI f [] = 0 := rfl
theorem sumI_perm (f : Int → Int) {is is' : List Int} (h : is.Perm is') : sumI f is = sumI f is' :=
  h.foldl_eq' (fun x _ y _ z => by omega) _
theorem sumI_pos {f : Int → Int} : ∀ {is : List Int}, (∀ i ∈ is, 0 ≤ f i) → 0 ≤ sumI f is
  | [], _ => by simp [sumI]
  | i :: is, h => by
    rw [sumI_cons]
    have := sumI_pos fun x hx => h x (List.mem_cons_of_mem _ hx)
    have := h i (by simp)
    omega
theorem sumI_filter {f : Int → Int} (p : Int → Bool) : ∀ {is : List Int}, (∀ i ∈ is, 0 ≤ f i) → sumI f (is.filter p) ≤ sumI f is
  | [], _ => by simp [sumI]
  | i :: is, h => by
    have h1 := sumI_filter p fun x hx => h x (List.mem_cons_of_mem i hx)
    have h2 := h i (by simp)
    rw [sumI_cons]
    by_cases hp : p i = true
    · rw [List.filter_cons_of_pos hp, sumI_cons]; omega
    · rw [List.filter_cons_of_neg hp]; omega
theorem sumI_le {f : Int → Int} {n : Nat} {is : List Int} (hn : is.Nodup) (hi : ∀ i ∈ is, 0 ≤ i ∧ i < n) (hf : ∀ i ∈ rangeI n, 0 ≤ f i) : sumI f is ≤ sumI f (rangeI n) := by
  have hp : is.Perm ((rangeI n).filter fun x => is.contains x) := by
    refine perm_of_nodup hn ((rangeI_nodup n).filter _) fun x => ?_
    simp only [List.mem_filter, mem_rangeI, List.contains_iff_mem]
    exact ⟨fun h => ⟨hi x h, h⟩, fun h => h.2⟩
  rw [sumI_perm f hp]
  exact sumI_filter _ hf
theorem sumI_mono {f g : Int → Int} : ∀ {is : List Int}, (∀ i ∈ is, f i ≤ g i) → sumI f is ≤ sumI g is
  | [], _ => by simp [sumI]
  | i :: is, h => by
    rw [sumI_cons, sumI_cons]
    have := sumI_mono fun x hx => h x (List.mem_cons_of_mem _ hx)
    have := h i (by simp)
    omega
theorem sumI_bd {f : Int → Int} {C : Int} : ∀ {is : List Int}, (∀ i ∈ is, f i ≤ C) → sumI f is ≤ C * is.length
  | [], _ => by simp [sumI]
  | i :: is, h => by
    rw [sumI_cons]
    have := sumI_bd fun x hx => h x (List.mem_cons_of_mem _ hx)
    have := h i (by simp)
    simp only [List.length_cons]
    rw [Int.natCast_add, Int.mul_add]
    omega
/-- The saturated sum is the sum, as long as it fits. -/
theorem satSum {f : Int → Int} {M : Int} : ∀ {is : List Int} {a : Int}, (∀ i ∈ is, 0 ≤ f i) → a + sumI f is ≤ 18446744073709551615 → is.foldl (fun a i => satA a (f i)) a = a + sumI f is
  | [], a, _, _ => by simp [sumI]
  | i :: is, a, h, hb => by
    have h1 := sumI_pos fun x hx => h x (List.mem_cons_of_mem i hx)
    rw [sumI_cons] at hb ⊢
    simp only [List.foldl_cons]
    have e : satA a (f i) = a + f i := by unfold satA; rw [if_pos (by omega)]
    rw [e, satSum (M := M) (fun x hx => h x (List.mem_cons_of_mem i hx)) (by omega)]
    omega
def totAt (l : List Summ) (i : Int) : Int := ((l[i.toNat]?).map (·.total)).getD 0
theorem totalF_range (l : List Summ) : totalF l = (rangeI l.length).foldl (fun a i => satA a (totAt l i)) 0 := by
  have : ∀ k, k ≤ l.length → totalF (l.take k) = (rangeI k).foldl (fun a i => satA a (totAt l i)) 0 := by
    intro k
    induction k with
    | zero => intro _; rfl
    | succ k ih =>
      intro hk
      rw [take_succ (show k < l.length by omega), totalF_snoc, rangeI_succ, List.foldl_append, ih (by omega)]
      simp [totAt, List.getElem?_eq_getElem (show k < l.length by omega)]
  have h := this l.length (Nat.le_refl _)
  rwa [List.take_length] at h
section
variable {c : Cfg} {lc : List (Int × Int)} {t : List Int} {lv : Value} {l : List Summ} {w : World}
theorem totAt_bd (h : Few c lc t lv l w) : ∀ i, 0 ≤ totAt l i ∧ totAt l i ≤ capF c := by
  intro i
  have hs := h.nums.shards.1
  have hc := (capF_le (c := c) hs).1
  unfold totAt
  cases e : l[i.toNat]? with
  | none => exact ⟨Int.le_refl _, hc⟩
  | some s =>
    have hg := h.good s (List.mem_of_getElem? e)
    exact ⟨hg.pos, (Int.le_ediv_iff_mul_le (by omega)).2 hg.total⟩
theorem few_sum (h : Few c lc t lv l w) : totalF l = sumI (totAt l) (rangeI l.length) ∧ totalF l ≤ 4611686018427387904 := by
  have hs := h.nums.shards.1
  have h1 := sumI_bd (C := capF c) (is := rangeI l.length) fun i _ => (totAt_bd h i).2
  rw [rangeI_len, h.len] at h1
  have h2 := (capF_le (c := c) hs).2
  have h3 : totalF l = sumI (totAt l) (rangeI l.length) := by
    rw [totalF_range, satSum (M := 0) (fun i _ => (totAt_bd h i).1) (by omega)]; omega
  exact ⟨h3, by omega⟩
theorem few_ok (h : Few c lc t lv l w) : mergeErr c l = 0 := by
  unfold mergeErr
  rw [if_neg (by have := h.len; omega), sums_no fun i hi => (h.good _ (List.getElem_mem hi)).err, if_neg (by simp), if_neg (by have := (few_sum h).2; omega)]
theorem few_set (h : Few c lc t lv l w) {f : Int → Int} (hf : ∀ i, 0 ≤ f i ∧ f i ≤ totAt l i) {hm : Int} (h0 : 0 ≤ hm) (h1 : hm < c.Shards) :
    (setN hm c.Shards c.Spread.toNat).foldl (fun a i => satA a (f i)) 0 = sumI f (setN hm c.Shards c.Spread.toNat) ∧ sumI f (setN hm c.Shards c.Spread.toNat) ≤ totalF l := by
  have hs := h.nums.shards
  have hp := h.nums.spread
  have hn : (setN hm c.Shards c.Spread.toNat).Nodup := setN_nodup h0 h1 (by omega) (by omega)
  have hl := h.len
  have ha : sumI f (setN hm c.Shards c.Spread.toNat) ≤ sumI f (rangeI l.length) := sumI_le hn (fun i hi => by have := setN_in hs.1 i hi; omega) fun i _ => (hf i).1
  have hb : sumI f (rangeI l.length) ≤ sumI (totAt l) (rangeI l.length) := sumI_mono fun i _ => (hf i).2
  obtain ⟨h3, h4⟩ := few_sum h
  refine ⟨?_, by omega⟩
  rw [satSum (M := 0) (fun i _ => (hf i).1) (by omega)]; omega
theorem bP_tot (h : Few c lc t lv l w) (k : ByteArray) (i : Int) : 0 ≤ (bP c t l k i).2 ∧ (bP c t l k i).2 ≤ totAt l i := by
  refine ⟨((bP_w (c := c) (t := t) h.ok k i).2).1, ?_⟩
  unfold bP totAt
  cases e : l[i.toNat]? with
  | none => exact Int.le_refl _
  | some s =>
    have hg := h.good s (List.mem_of_getElem? e)
    have h2 : (bndE s.es s.untr k).2 ≤ s.total := by
      unfold bndE
      split
      · rename_i en he
        have hm := List.mem_of_find?_eq_some he
        have h3 := hg.sum en hm
        obtain ⟨h4, h5⟩ := hg.num.es en hm
        unfold W64 at h4 h5
        have h6 := hg.num.total
        unfold W64 at h6
        unfold satA
        simp only
        rw [if_pos (by omega)]
        omega
      · exact hg.un
    show min (bndE s.es s.untr k).2 (sEstF c t s k) ≤ s.total
    omega
theorem foldB_2 (k : ByteArray) (is : List Int) : (foldB c t l k is).1 = is.foldl (fun a i => satA a (bP c t l k i).1) 0 ∧ (foldB c t l k is).2 = is.foldl (fun a i => satA a (bP c t l k i).2) 0 := by
  unfold foldB
  have : ∀ (is : List Int) (a : Int × Int), (is.foldl (fun a i => addP a (bP c t l k i)) a).1 = is.foldl (fun a i => satA a (bP c t l k i).1) a.1 ∧ (is.foldl (fun a i => addP a (bP c t l k i)) a).2 = is.foldl (fun a i => satA a (bP c t l k i).2) a.2 := by
    intro is
    induction is with
    | nil => exact fun _ => ⟨rfl, rfl⟩
    | cons i is ih =>
      intro a
      simp only [List.foldl_cons]
      exact ih (addP a (bP c t l k i))
  exact this is (0, 0)
/-- No line exceeds the total. -/
theorem line_tot (h : Few c lc t lv l w) (k : ByteArray) : (lineF c t l k).2 ≤ totalF l := by
  have hs := h.nums.shards
  obtain ⟨h1, h2⟩ := homeF_bd c t k hs.1
  rw [lineF_all hs.1 h.len, (foldB_2 k _).2]
  obtain ⟨h3, h4⟩ := few_set h (f := fun i => (bP c t l k i).2) (fun i => bP_tot h k i) h1 h2
  have h3' : (setF c t k).foldl (fun a i => satA a (bP c t l k i).2) 0 = sumI (fun i => (bP c t l k i).2) (setN (homeF c t k) c.Shards c.Spread.toNat) := h3
  rw [h3']
  exact h4
theorem uAt_bd (h : Few c lc t lv l w) (i : Int) : 0 ≤ uAt l i ∧ uAt l i ≤ totAt l i := by
  unfold uAt totAt
  cases e : l[i.toNat]? with
  | none => exact ⟨Int.le_refl _, Int.le_refl _⟩
  | some s =>
    have hg := h.good s (List.mem_of_getElem? e)
    exact ⟨(hg.num.untr).1, hg.un⟩
theorem restI_le {m : Int} {n : Nat} {T : Int} (h0 : 0 ≤ T) : ∀ (k : Nat), (∀ j : Nat, j < k → uF l (setN j m n) ≤ T) → restI m n l k ≤ T
  | 0, _ => by simpa [restI, rangeI] using h0
  | k + 1, h => by
    rw [restI_succ]
    have h1 := restI_le h0 k fun j hj => h j (by omega)
    have h2 := h k (by omega)
    omega
theorem restI_ge {m : Int} {n : Nat} : ∀ (k : Nat) (j : Nat), j < k → uF l (setN j m n) ≤ restI m n l k
  | k + 1, j, h => by
    rw [restI_succ]
    by_cases e : j = k
    · subst e; omega
    · have := restI_ge (m := m) (n := n) k j (by omega); omega
theorem few_rest (h : Few c lc t lv l w) : restF c l = restI c.Shards c.Spread.toNat l c.Shards.toNat := by
  unfold restF; rw [if_neg (by have := few_ok h; omega)]
/-- The rest is at most the total. -/
theorem rest_tot (h : Few c lc t lv l w) : restF c l ≤ totalF l := by
  rw [few_rest h]
  have h0 : 0 ≤ totalF l := by
    obtain ⟨h3, _⟩ := few_sum h
    rw [h3]
    exact sumI_pos fun i _ => (totAt_bd h i).1
  refine restI_le h0 _ fun j hj => ?_
  obtain ⟨h3, h4⟩ := few_set h (f := uAt l) (fun i => uAt_bd h i) (hm := j) (by omega) (by omega)
  have h3' : uF l (setN j c.Shards c.Spread.toNat) = _ := h3
  rw [h3']; exact h4
theorem untracked_find {s : Summ} {k : ByteArray} (hs : s ∈ l) (hk : k.data.toList ∉ keysL l) : s.es.find? (keyEq k) = none := by
  rw [List.find?_eq_none]
  intro e he hq
  refine hk (List.mem_flatMap.2 ⟨s, hs, List.mem_map.2 ⟨e, he, ?_⟩⟩)
  unfold keyEq at hq
  have := eq_of_beq hq
  rw [ByteArray.toList_eq, ByteArray.toList_eq] at this
  exact this
theorem bP_un {k : ByteArray} (hk : k.data.toList ∉ keysL l) (ho : SumsOk l) (i : Int) : (bP c t l k i).1 = 0 ∧ (bP c t l k i).2 ≤ uAt l i := by
  unfold bP uAt
  cases e : l[i.toNat]? with
  | none => exact ⟨rfl, Int.le_refl _⟩
  | some s =>
    have hm := List.mem_of_getElem? e
    have h3 := w64_sEst (c := c) (t := t) (ho.wf s hm).total (ho.rows s hm) k
    unfold W64 at h3
    have hb : bndE s.es s.untr k = (0, s.untr) := by unfold bndE; rw [untracked_find hm hk]
    simp only [hb, Option.map_some, Option.getD_some]
    omega
/-- A key that is not tracked weighs at most the rest. -/
theorem line_rest (h : Few c lc t lv l w) {k : ByteArray} (hk : k.data.toList ∉ keysL l) : (lineF c t l k).1 = 0 ∧ (lineF c t l k).2 ≤ restF c l := by
  have hs := h.nums.shards
  obtain ⟨h1, h2⟩ := homeF_bd c t k hs.1
  rw [lineF_all hs.1 h.len]
  refine ⟨?_, ?_⟩
  · rw [(foldB_2 k _).1]
    have : ∀ (is : List Int), is.foldl (fun a i => satA a (bP c t l k i).1) 0 = 0 := by
      intro is
      induction is with
      | nil => rfl
      | cons i is ih =>
        simp only [List.foldl_cons]
        rw [(bP_un hk h.ok i).1]
        exact ih
    exact this _
  · rw [(foldB_2 k _).2, few_rest h]
    obtain ⟨h3, _⟩ := few_set h (f := fun i => (bP c t l k i).2) (fun i => bP_tot h k i) h1 h2
    obtain ⟨h5, _⟩ := few_set h (f := uAt l) (fun i => uAt_bd h i) h1 h2
    have h3' : (setF c t k).foldl (fun a i => satA a (bP c t l k i).2) 0 = sumI (fun i => (bP c t l k i).2) (setN (homeF c t k) c.Shards c.Spread.toNat) := h3
    rw [h3']
    have h6 : sumI (fun i => (bP c t l k i).2) (setN (homeF c t k) c.Shards c.Spread.toNat) ≤ sumI (uAt l) (setN (homeF c t k) c.Shards c.Spread.toNat) := sumI_mono fun i _ => (bP_un hk h.ok i).2
    obtain ⟨j, hj⟩ : ∃ j : Nat, homeF c t k = j := ⟨(homeF c t k).toNat, by omega⟩
    rw [hj] at h6 h5 ⊢
    have h7 : uF l (setN j c.Shards c.Spread.toNat) = sumI (uAt l) (setN j c.Shards c.Spread.toNat) := h5
    have h8 := restI_ge (l := l) (m := c.Shards) (n := c.Spread.toNat) c.Shards.toNat j (by omega)
    omega
end
theorem keysL_few {c : Cfg} {lc : List (Int × Int)} {t : List Int} {lv : Value} {l : List Summ} {w : World} (h : Few c lc t lv l w) : (keysL l).length ≤ 32 := by
  have : ∀ l : List Summ, (∀ s ∈ l, s.es.length ≤ 4) → (keysL l).length ≤ 4 * l.length := by
    intro l
    induction l with
    | nil => simp [keysL]
    | cons s l ih =>
      intro h
      have h1 := ih fun x hx => h x (by simp [hx])
      have h2 := h s (by simp)
      simp only [keysL, List.flatMap_cons, List.length_append, List.length_map, List.length_cons] at *
      omega
  have h1 := this l fun s hs => (h.good s hs).few
  have h2 := h.len
  have h3 := h.nums.shards
  omega
theorem key_few {c : Cfg} {lc : List (Int × Int)} {t : List Int} {lv : Value} {l : List Summ} {w : World} (h : Few c lc t lv l w) : ∀ s ∈ l, ∀ e ∈ s.es, e.key.size ≤ 9223372036854775807 := fun s hs e he => (h.good s hs).small.key e he

end Go.Proofs.Ytiagjiaahnkefaa

/- Lines in their order: the reference, which inserts one after the other. -/
namespace Go.Proofs.Ytiagjiaahnkefaa
open Go.RowKit Go.Sort

set_option maxHeartbeats 400000 in
theorem rbefore_c (x y : Ln) (w : World) : Calls Try.prog 53 #[lnV x, lnV y] w (RetBool (befB x y) w) := by
  have hb := blt_of x.key y.key
  obtain ⟨b, hd⟩ : ∃ b, decide (x.key.data.toList < y.key.data.toList) = b := ⟨_, rfl⟩
  rw [hd] at hb
  by_cases h1 : y.hi < x.hi
  · have HB := Lib.hid (show befB x y = true by simp [befB, h1])
    clear hd
    generalize befB x y = q at *
    go_enter Try.func53, Try.ntmps53
    go_wp2
    go_ret
    exact retBool HB.out (grownBy_new_block (grownBy_new_block (grownBy_refl _ _) _) _)
  · have h1' : decide (y.hi < x.hi) = false := by simpa using h1
    by_cases h2 : x.hi = y.hi
    · have h2' : ((x.hi : Int) == y.hi) = true := by simp [h2]
      have HB := Lib.hid (show befB x y = b by unfold befB; rw [h1', hd, decide_eq_true h2]; rfl)
      clear hd h2
      generalize befB x y = q at *
      go_enter Try.func53, Try.ntmps53
      go_wp2
      go_ret
      exact retBool HB.out (grownBy_new_block (grownBy_new_block (grownBy_refl _ _) _) _)
    · have h2' : ((x.hi : Int) == y.hi) = false := by simp [h2]
      have HB := Lib.hid (show befB x y = false by simp [befB, h1', h2])
      clear hd h2
      generalize befB x y = q at *
      go_enter Try.func53, Try.ntmps53
      go_wp2
      go_ret
      exact retBool HB.out (grownBy_new_block (grownBy_new_block (grownBy_refl _ _) _) _)

/-- Where a line goes: behind the last of the first k that it does not come before. -/
def insK (x : Ln) (L : List Ln) : Nat → Nat
  | 0 => 0
  | k + 1 => if ((L[k]?).map (befB x)).getD false then insK x L k else k + 1
theorem insK_le (x : Ln) (L : List Ln) : ∀ k, insK x L k ≤ k
  | 0 => Nat.le_refl _
  | k + 1 => by
    unfold insK
    split
    · exact Nat.le_succ_of_le (insK_le x L k)
    · exact Nat.le_refl _
def insL (L : List Ln) (x : Ln) : List Ln := L.take (insK x L L.length) ++ [x] ++ L.drop (insK x L L.length)
theorem insL_len (L : List Ln) (x : Ln) : (insL L x).length = L.length + 1 := by
  have := insK_le x L L.length
  unfold insL
  simp; omega
def sortLn (l : List Ln) : List Ln := l.foldl insL []
theorem sortLn_snoc (l : List Ln) (x : Ln) : sortLn (l ++ [x]) = insL (sortLn l) x := by simp [sortLn]
theorem sortLn_len (l : List Ln) : (sortLn l).length = l.length := by
  have : ∀ (l a : List Ln), (l.foldl insL a).length = a.length + l.length := by
    intro l
    induction l with
    | nil => simp
    | cons x l ih => intro a; simp only [List.foldl_cons, ih, insL_len, List.length_cons]; omega
  simpa [sortLn] using this l []

set_option maxHeartbeats 1000000 in
set_option maxRecDepth 100000 in
theorem rsort_c (v : Value) (l : List Ln) (w : World) (h : RdL lnF 3 w v l) (hl : l.length ≤ 1000000) : Calls Try.prog 118 #[v] w (RetOwn lnF 3 71 (sortLn l) w) := by
  obtain ⟨a, c, rfl⟩ := h.shape
  have hm := h.2.1
  have H := Lib.hid h
  have hll : (l.length : Int) ≤ 1000000 := by omega
  clear h
  go_enter Try.func118, Try.ntmps118
  go_wp2_with fail
  go_loopw [3, 9] (fun s3 s9 wk => ∃ (j : Nat), j ≤ l.length ∧ s9 = .int .i64 j ∧ Own lnF 3 71 w.heap.size wk s3 (sortLn (l.take j)) ∧ w.grownBy wk none) (fun _ s9 _ => l.length - (intOf s9).toNat)
  case atStart => exact ⟨0, Nat.zero_le _, rfl, Own.nil _ _ _ _ _, grownBy_refl _ _⟩
  case round =>
    obtain ⟨j, hj, rfl, hO, hg⟩ := hrel
    by_cases hjl : j < l.length
    · obtain ⟨gx, ox, cx, hv, hgx, hcx⟩ := (RdL.same H.out hg).at_ lnF_len hjl
      cases hv
      have c0 := hcx 0 _ rfl
      have c1 := hcx 1 _ rfl
      have c2 := hcx 2 _ rfl
      rw [Nat.add_zero] at c0
      have HT := Lib.hid (show sortLn (l.take (j + 1)) = insL (sortLn (l.take j)) l[j] by rw [List.take_succ_eq_append_getElem hjl, sortLn_snoc])
      have hsl : (sortLn (l.take j)).length ≤ 1000000 := by rw [sortLn_len, List.length_take]; omega
      clear hcx
      generalize sortLn (l.take j) = S at *
      generalize l[j] = x at *
      obtain ⟨oa, oc, rfl⟩ := hO.shape
      go_upto_region 5 with fail
      have O2 := hO.same (World.grownBy_alloc wr (.cells #[.string x.key, .int .u64 x.lo, .int .u64 x.hi] 71) none)
      have G2 := grownBy_new_block hg (.cells #[.string x.key, .int .u64 x.lo, .int .u64 x.hi] 71)
      have A2 := Blk.new wr #[.string x.key, .int .u64 x.lo, .int .u64 x.hi] 71
      generalize wr.alloc (.cells #[.string x.key, .int .u64 x.lo, .int .u64 x.hi] 71) = w2 at *
      generalize wr.heap.size = gk at *
      clear hO hg c0 c1 c2 hgx
      have HK := Lib.hid (show insL S x = S.take (insK x S S.length) ++ [x] ++ S.drop (insK x S S.length) from rfl)
      have hKl := insK_le x S S.length
      obtain ⟨P, hK⟩ : ∃ P, insK x S S.length = P := ⟨_, rfl⟩
      have Hst := Lib.hid hK
      rw [hK] at HK hKl
      clear hK
      have hsm := O2.len
      go_cut [6] (fun s6 wx => s6 = .int .i64 S.length ∧ w2 = wx)
      case first =>
        go_wp2_with fail
        go_meet
        exact ⟨rfl, rfl⟩
      obtain ⟨rfl, rfl⟩ := hcut
      rename_i hK
      refine hK _ _ ?_
      apply wp_seq_k
      intro K1 hK1
      go_cut [6, 15, 16, 17, 18, 19, 20, 21, 22, 23, 24, 25, 26, 27] (fun s6 _ _ _ _ _ _ _ _ _ _ _ _ _ wx => s6 = .int .i64 P ∧ w2.grownBy wx none)
      case first =>
        go_wp2_with fail
        go_loopw [6] (fun s6 wk => ∃ k : Nat, k ≤ S.length ∧ s6 = .int .i64 k ∧ insK x S k = P ∧ w2.grownBy wk none) (fun s6 _ => (intOf s6).toNat)
        case atStart => exact ⟨S.length, Nat.le_refl _, rfl, Hst.out, grownBy_refl _ _⟩
        case round =>
          obtain ⟨k, hk, rfl, hik, hgk⟩ := hrel
          have Hik := Lib.hid hik
          clear hik
          by_cases hk0 : 0 < k
          · have hd : decide ((0 : Int) < (k : Int)) = true := decide_eq_true (by omega)
            obtain ⟨k', hk'⟩ : ∃ k', k = k' + 1 := ⟨k - 1, by omega⟩
            have hkl : k' < S.length := by omega
            obtain ⟨gs, os, cs, hvs, hgs, hcs⟩ := (RdL.same O2.rd hgk).at_ lnF_len hkl
            cases hvs
            have d0 := cell_regrown (hcs 0 _ rfl)
            have d1 := cell_regrown (hcs 1 _ rfl)
            have d2 := cell_regrown (hcs 2 _ rfl)
            rw [Nat.add_zero] at d0
            have a3 := (A2.same hgk).re
            have hst := Lib.hid (show insK x S k = if befB x S[k'] then insK x S k' else k by rw [hk', insK, List.getElem?_eq_getElem hkl]; rfl)
            generalize S[k'] = y at *
            have r4 := call_re (w := wr) fun w' hg => rbefore_c x y w'
            clear hcs
            have hs1 : IntKind.i64.wrap ((k : Int) - 1) = (k' : Int) := by rw [IntWalk.i64_in _ (by omega)]; omega
            have hs2 : (k' : Int) < (S.length : Int) := by omega
            have hs3 : (0 : Int) ≤ (k' : Int) := by omega
            have hs4 : (k : Int) - 1 = (k' : Int) := by omega
            have Hk' := Lib.hid hk'
            clear hk'
            generalize befB x y = bb at *
            go_wp2_with fail
            (refine Tail.wp_region_tail_grown 11 (by kernel_rfl) (by kernel_rfl) ?_; simp only [List.take, List.drop]; (repeat (go_big_quiet_step (with_reducible exact r4 _ _))); refine wpQuiet_nil ?_; rintro _ ⟨⟨d5, os5⟩, rfl⟩)
            have K3 := grownBy_trans hgk (grown_re wr d5 os5)
            generalize grow (redrawn wr d5) os5 = w3 at *
            clear d0 d1 d2 a3 r4 hs1 hs2 hs3
            cases bb
            · go_wp2_with fail
              go_meet
              exact ⟨by rw [← Hik.out, hst.out]; rfl, K3⟩
            · go_wp2_with fail
              exact ⟨⟨k', by omega, rfl, by rw [← Hik.out, hst.out]; rfl, K3⟩, by have := Hk'.out; simp [intOf]; omega⟩
          · obtain rfl : k = 0 := by omega
            have hd : decide ((0 : Int) < ((0 : Nat) : Int)) = false := rfl
            go_wp2_with fail
            go_quiet (fail)
            go_wp2_with fail
            go_meet
            exact ⟨by rw [← Hik.out]; rfl, grownBy_drewN hgk _⟩
      obtain ⟨rfl, h3⟩ := hcut
      have O3 := O2.same h3
      have A3 := A2.same h3
      have G3 := grownBy_trans G2 h3
      clear O2 A2 hK
      refine hK1 _ _ ?_
      clear hK1
      have hcap := O3.cap
      have hP0 : (0 : Int) ≤ (P : Int) := by omega
      have hP1 : (P : Int) ≤ (S.length : Int) := by omega
      have hP2 : (P : Int) ≤ (oc : Int) := by omega
      have hP3 : (S.length : Int) ≤ (oc : Int) := by omega
      have hsz := G3.size
      refine wp_region_any (by kernel_rfl) ?_
      (refine Tail.take_put 8 36 (.slice oa S.length oc) rfl rfl (by kernel_rfl) (by kernel_rfl) (by kernel_rfl) (fun _ _ _ h => h) (Or.inl ⟨by rfl, fun w => ?_⟩) ?_; · go_simp); simp only [List.setIfInBounds_toArray, List.set_cons_zero, List.set_cons_succ]
      (refine Tail.take_put 9 37 (.int .i64 P) rfl rfl (by kernel_rfl) (by kernel_rfl) (by kernel_rfl) (fun _ _ _ h => h) (Or.inl ⟨by rfl, fun w => ?_⟩) ?_; · go_simp); simp only [List.setIfInBounds_toArray, List.set_cons_zero, List.set_cons_succ]
      (refine Tail.take_put 10 38 (.slice (if oc = P then oa else oa.map (·.add (P * 3))) (S.length - P) (oc - P)) rfl rfl (by kernel_rfl) (by kernel_rfl) (by kernel_rfl) (fun _ _ _ h => h) (Or.inl ⟨by rfl, fun w => ?_⟩) ?_; · go_simp); simp only [List.setIfInBounds_toArray, List.set_cons_zero, List.set_cons_succ]
      have RD := Lib.hid fun w' (h : Own lnF 3 71 w.heap.size w' (.slice oa S.length oc) S) => h.rd.drop lnF_len hKl hcap (oc - P)
      generalize (if oc = P then oa else oa.map (·.add (P * 3))) = od at *
      (refine Rg.wpAny_rg 7 #[] #[false, false, false, false, false, false, false, false, true, true, true, false, false] (fun w w' => World.grownBy w w' none) (fun _ _ _ _ _ => False) (by kernel_rfl) (by kernel_rfl) rfl (by kernel_rfl) (by simp only [Rg.tailL, List.drop]; decide) (fun w => grownBy_refl w none) (fun _ _ _ h k => grownBy_trans h k) (fun _ _ _ _ _ h => h) ?_; simp only [List.take, List.drop, Rg.tailL]; simp (decide := true) only [if_true, if_false])
      have Gd : wc.grownBy wc.drew none := (by (repeat (first | exact grownBy_refl _ _ | assumption | refine grownBy_new_block ?_ _ | refine grownBy_drew ?_ | refine grownBy_drewN ?_ _ | refine grownBy_setNew ?_ (by first | (simp; done) | omega | (simp; omega)) _)))
      have Kd := grownBy_trans G3 Gd
      have hb1 : (S.take P).length = P := by simp; omega
      have hb2 : (S.take P).length * 32 ≤ 140737488355328 := by rw [hb1]; omega
      have hb3 : (S.take P).length ≤ 9223372036854775807 := by rw [hb1]; omega
      have hb4 : ((S.take P).length + 1) * 32 ≤ 140737488355328 := by rw [hb1]; omega
      have hb5 : (S.take P).length + 1 ≤ 9223372036854775807 := by rw [hb1]; omega
      have hb6 : (S.take P ++ [x]).length = P + 1 := by rw [List.length_append, hb1]; rfl
      have hb7 : (S.drop P).length = S.length - P := by simp
      have hb8 : ((S.take P ++ [x]).length + (S.drop P).length) * 32 ≤ 140737488355328 := by rw [hb6, hb7]; omega
      have hb9 : (S.take P ++ [x]).length + (S.drop P).length ≤ 9223372036854775807 := by rw [hb6, hb7]; omega
      have Hb1 := Lib.hid hb1.symm
      have Hb7 := Lib.hid hb7.symm
      clear hb1 hb6 hb7
      (refine Rg.tree_op rfl rfl ?_; intro y0 my0 dy0)
      clear dy0
      have zy0 : w.heap.size ≤ y0.heap.size := (grownBy_trans Kd my0).size
      go_wp2_with fail
      refine ⟨World.grownBy_alloc _ _ _, ?_⟩
      have N0 := own_lit0 (e := 71) lnF 3 zy0
      have hg0 : wc.heap.size ≤ y0.heap.size := (grownBy_trans Gd my0).size
      generalize y0.alloc (.cells #[] 71) = e0 at *
      generalize y0.heap.size = g0 at *
      (refine Rg.tree_quiet 3 rfl (by first | exact Or.inl rfl | exact Or.inr rfl) ?_; simp only [List.take, List.drop, List.length_cons, List.length_nil, List.replicate, Nat.reduceAdd]; (try simp only [List.cons_append]); (try simp only [List.nil_append]); (repeat (go_big_quiet_step (fail))); refine wpQuiet_nil ?_)
      (refine Rg.tree_op rfl rfl ?_; intro y4 my4 dy4)
      have N4 := N0.same (dy4.out 0 (by omega) (by kernel_rfl))
      have K4 := grownBy_trans Gd my4
      have R4 := (O3.rd.take lnF_len hKl oc).same K4
      have z4 := (grownBy_trans Kd my4).size
      go_wp2_with (at_builtin; refine app_lit elt_ln one_ln N4 R4 Hb1.out hb2 hb3 z4 (by rfl) _ _ (by rfl) (by rfl) (by rfl) ?_; intro v4 e4 o4 g4 l4; have Hg4 := Lib.hid g4; clear g4)
      refine ⟨Hg4.out, ?_⟩
      have hv4 := Lies.ge l4 (fun k hk => Nat.le_trans hg0 (ge_new _ _ _ k hk)) K4.size
      clear R4 N0 N4 K4 z4 dy4 l4
      (refine Rg.tree_op rfl rfl ?_; intro y5 my5 dy5)
      clear dy5
      have a5 := (A3.same (grownBy_trans Gd my5)).cell
      go_wp2_with fail
      refine ⟨grownBy_refl _ _, ?_⟩
      clear a5
      (refine Rg.tree_op rfl rfl ?_; intro y6 my6 dy6)
      clear dy6
      go_wp2_with fail
      refine ⟨World.grownBy_alloc _ _ _, ?_⟩
      have N6 := Blk.new y6 #[.string x.key, .int .u64 x.lo, .int .u64 x.hi] 71
      generalize y6.alloc (.cells #[.string x.key, .int .u64 x.lo, .int .u64 x.hi] 71) = e6 at *
      generalize y6.heap.size = g6 at *
      (refine Rg.tree_nil ?_; intro z mz dz cz)
      have o5 := o4.same (dz.out 4 (by omega))
      have N7 := (N6.same (dz.out 6 (by omega))).one lnF_len x rfl
      have Kz := grownBy_trans Gd mz
      have KK := grownBy_trans Kd mz
      have z7 := KK.size
      have O7 := O3.same Kz
      have hlo : ∀ k, Value.ownBlock (.slice oa S.length oc) = some k → k < wc.heap.size := fun k hk => (O3.lt k hk).2
      have tok := Lib.hid hP0
      clear dz cz my0 my4 my5 my6 mz Hg4 Kz N6 o4 O3 A3 hg0 zy0 Gd Kd
      go_wp2_with (first
        | (at_builtin; have _t := tok; refine app elt_ln one_ln o5 N7 rfl hb4 hb5 z7 (by rfl) _ _ (by rfl) (by rfl) (by rfl) ?_; intro v7 w7 o7 g7 l7; clear tok; have K7 := grown_own KK o5 (Nat.le_refl _) g7; have R8 := RD.out _ (O7.kept g7 (fun k hk e => by have := hlo k hk; have := hv4 k e; omega)); have z8 := K7.size)
        | (at_builtin; refine app elt_ln one_ln o7 R8 Hb7.out hb8 hb9 z8 (by rfl) _ _ (by rfl) (by rfl) (by rfl) ?_; intro v8 w8 o8 g8 l8; have K8 := grown_own K7 o7 (Nat.le_refl _) g8))
      exact ⟨⟨j + 1, by omega, by go_num, by rw [HT.out, HK.out]; exact o8, K8⟩, by simp [intOf]; omega⟩
    · have hke : l.take j = l := List.take_of_length_le (by omega)
      rw [hke] at hO
      go_wp2_with fail
      go_ret
      exact ⟨_, rfl, hO, hg⟩
end Go.Proofs.Ytiagjiaahnkefaa

/- Where slices lie; differences; what selection leaves. -/
namespace Go.Proofs.Ytiagjiaahnkefaa
open Go.RowKit Go.Sort

theorem one_word : OneF wordF := by intro x u hu; simp [wordF] at hu; subst hu; rfl
theorem elt_word : Elt 24 22 (.int .u64 0) 1 8 := ⟨Try.underlying24, by kernel_rfl, rfl, by decide⟩

def subF (a b : Int) : Int := if a < b then 0 else a - b

def hiMax (l : List Ln) (un : Int) : Int := (l.map (·.hi)).foldl max un
def CapOk (v : Value) : Prop := ∀ a n c, v = .slice a n c → n ≤ c
theorem Own.capOk {α : Type} {f : α → List Value} {s : Nat} {e : TypeId} {B : Nat} {w : World} {v : Value} {l : List α} (h : Own f s e B w v l) : CapOk v := by
  intro a n c hv
  obtain ⟨a', c', hv'⟩ := h.shape
  rw [hv'] at hv
  cases hv
  exact (hv' ▸ h : Own f s e B w (.slice a l.length c) l).cap
/-- A slice in blocks from lo on. -/
def From (lo : Nat) (v : Value) : Prop := ∀ a n c, v = .slice (some a) n c → lo ≤ a.block
theorem Own.from_ {α : Type} {f : α → List Value} {s : Nat} {e : TypeId} {B : Nat} {w : World} {v : Value} {l : List α} (h : Own f s e B w v l) : From B v := by
  intro a n c hv
  rcases h.2 with ⟨rfl, _⟩ | ⟨g, cap, cur, rfl, hb, _⟩
  · cases hv
  · cases hv; exact hb
theorem RdL.keptFrom {α : Type} {f : α → List Value} {s : Nat} {w w' : World} {v : Value} {l : List α} {lo b : Nat} (h : RdL f s w v l) (hf : From lo v) (hg : w.grownBy w' (some b)) (hb : b < lo) : RdL f s w' v l :=
  Rd.kept h hg fun k e a n c hv => by cases e; have := hf a n c hv; omega
theorem From.le {lo lo' : Nat} {v : Value} (h : From lo v) (hl : lo' ≤ lo) : From lo' v := fun a n c hv => Nat.le_trans hl (h a n c hv)
/-- How many lines are listed. -/
def selN (k : Int) (l : List Ln) : Nat := min k.toNat l.length
def SelPost (k : Int) (l : List Ln) (w : World) (e : Ending) (w' : World) : Prop :=
  ∃ v1 v2, e = .returned (.tuple #[v1, v2]) ∧ RdL lnF 3 w' v1 ((sortLn l).take (selN k l)) ∧ RdL lnF 3 w' v2 ((sortLn l).drop (selN k l)) ∧ CapOk v1 ∧ From w.heap.size v1 ∧ From w.heap.size v2 ∧ w.grownBy w' none

end Go.Proofs.Ytiagjiaahnkefaa

/- Reports: how they lie; which are accepted: plain. -/
namespace Go.Proofs.Ytiagjiaahnkefaa
open Go.RowKit

/-- A report: its numbers, the slices as they stand, and what these read as. -/
structure Rep where
  (win tot : Int) (vl : Value) (over trk rest : Int) (vr : Value) (lines : List Ln) (rej : List Int)
def repF (r : Rep) : List Value := [.int .i64 r.win, .int .u64 r.tot, r.vl, .int .u64 r.over, .int .i64 r.trk, .int .u64 r.rest, r.vr]
abbrev repV (win tot : Int) (vl : Value) (over trk rest : Int) (vr : Value) : Value := .agg #[.int .i64 win, .int .u64 tot, vl, .int .u64 over, .int .i64 trk, .int .u64 rest, vr]
structure RepRd (w : World) (r : Rep) : Prop where
  lines : RdL lnF 3 w r.vl r.lines
  rej : RdL wordF 1 w r.vr r.rej
  lcap : ∀ a n c, r.vl = .slice a n c → n ≤ c
  rcap : ∀ a n c, r.vr = .slice a n c → n ≤ c
theorem RepRd.same {w w' : World} {r : Rep} (h : RepRd w r) (hg : w.grownBy w' none) : RepRd w' r := ⟨h.lines.same hg, h.rej.same hg, h.lcap, h.rcap⟩
def I64 (n : Int) : Prop := -9223372036854775808 ≤ n ∧ n ≤ 9223372036854775807
structure LnW (x : Ln) : Prop where
  lo : W64 x.lo
  hi : W64 x.hi
  key : x.key.size ≤ 9223372036854775807
/-- The numbers fit their kinds. -/
structure RepW (r : Rep) : Prop where
  win : I64 r.win
  tot : W64 r.tot
  over : W64 r.over
  trk : I64 r.trk
  rest : W64 r.rest
  lines : ∀ x ∈ r.lines, LnW x
  rej : ∀ n ∈ r.rej, W64 n

/-- The first error of the line with an index. -/
def lnErr (tot : Int) (prev : Option Ln) (x : Ln) : Int :=
  if x.key.size = 0 then 3 else if 255 < x.key.size then 4 else if x.hi < x.lo ∨ tot < x.hi then 1 else if (prev.map fun p => !befB p x).getD false then 6 else 0
def prevL (ls : List Ln) : Nat → Option Ln
  | 0 => none
  | i + 1 => ls[i]?
def lnErrAt (tot : Int) (ls : List Ln) (i : Nat) : Int := match ls[i]? with
  | some x => lnErr tot (prevL ls i) x
  | none => 0
def linesErr (tot : Int) (ls : List Ln) : Int := fstN ((List.range ls.length).map (lnErrAt tot ls))
theorem lines_at {tot : Int} {ls : List Ln} {j : Nat} (hj : j < ls.length) (h : ∀ i, i < j → lnErrAt tot ls i = 0) (h2 : lnErrAt tot ls j ≠ 0) : linesErr tot ls = lnErrAt tot ls j := by
  unfold linesErr
  rw [fstN_at (j := j) (by simpa using hj) (fun i hi hij => by simpa using h i hij) (by simpa using h2)]
  simp
theorem lines_no {tot : Int} {ls : List Ln} (h : ∀ i, i < ls.length → lnErrAt tot ls i = 0) : linesErr tot ls = 0 := fstN_no fun i hi => by simpa using h i (by simpa using hi)
theorem lines_none {tot : Int} {ls : List Ln} (h : linesErr tot ls = 0) : ∀ i, i < ls.length → lnErrAt tot ls i = 0 := by
  intro i hi
  induction i using Nat.strongRecOn with
  | _ i ih =>
    by_cases e : lnErrAt tot ls i = 0
    · exact e
    · rw [lines_at hi (fun j hj => ih j hj (by omega)) e] at h
      exact h
/-- The sum of the lower bounds. -/
def loSum (ls : List Ln) : Int := ls.foldl (fun a x => a + x.lo) 0
theorem loSum_snoc (ls : List Ln) (x : Ln) : loSum (ls ++ [x]) = loSum ls + x.lo := by simp [loSum]
theorem loSum_from : ∀ (ls : List Ln) (a : Int), ls.foldl (fun a x => a + x.lo) a = a + loSum ls
  | [], a => by simp [loSum]
  | x :: ls, a => by
    unfold loSum
    simp only [List.foldl_cons]
    rw [loSum_from ls (a + x.lo), loSum_from ls (0 + x.lo)]
    omega
theorem loSum_cons (x : Ln) (ls : List Ln) : loSum (x :: ls) = x.lo + loSum ls := by
  show (x :: ls).foldl (fun a x => a + x.lo) 0 = _
  simp only [List.foldl_cons]
  rw [loSum_from]; omega
theorem loSum_pos : ∀ {ls : List Ln}, (∀ x ∈ ls, 0 ≤ x.lo) → 0 ≤ loSum ls
  | [], _ => by simp [loSum]
  | x :: ls, h => by
    rw [loSum_cons]
    have := loSum_pos fun y hy => h y (List.mem_cons_of_mem x hy)
    have := h x (by simp)
    omega
theorem loSum_take_le {ls : List Ln} (h : ∀ x ∈ ls, 0 ≤ x.lo) (k : Nat) : loSum (ls.take k) ≤ loSum ls := by
  have e : loSum ls = loSum (ls.take k) + loSum (ls.drop k) := by
    have := loSum_from (ls.drop k) (loSum (ls.take k))
    rw [← this, loSum, loSum, ← List.foldl_append, List.take_append_drop]
  have := loSum_pos (ls := ls.drop k) fun x hx => h x (List.mem_of_mem_drop hx)
  omega
def keysN (ls : List Ln) : List (List UInt8) := ls.map fun x => x.key.data.toList
/-- Which reports are accepted, and the error of others. -/
def repErr (r : Rep) : Int :=
  if r.win < 0 ∨ 1099511627776 < r.win ∨ 9223372036854775808 < r.tot ∨ r.tot < r.rest then 1
  else if 64 < r.lines.length ∨ r.trk < r.lines.length ∨ 768 < r.trk then 7
  else if linesErr r.tot r.lines ≠ 0 then linesErr r.tot r.lines
  else if ¬ (keysN r.lines).Nodup then 10
  else if 18446744073709551615 < r.over + loSum r.lines ∨ r.over + loSum r.lines ≠ r.tot then 13
  else if r.rej.length ≠ 7 ∨ r.rej[0]? ≠ some 0 then 3
  else 0
/-- What holds of an accepted report. -/
structure RepOk (r : Rep) : Prop where
  win : 0 ≤ r.win ∧ r.win ≤ 1099511627776
  tot : r.tot ≤ 9223372036854775808
  rest : r.rest ≤ r.tot
  few : r.lines.length ≤ 64
  trk : (r.lines.length : Int) ≤ r.trk ∧ r.trk ≤ 768
  lines : ∀ i, i < r.lines.length → lnErrAt r.tot r.lines i = 0
  keys : (keysN r.lines).Nodup
  sum : r.over + loSum r.lines = r.tot
  fits : r.over + loSum r.lines ≤ 18446744073709551615
  rej : r.rej.length = 7
  rej0 : r.rej[0]? = some 0
theorem rep_ok {r : Rep} (h : repErr r = 0) : RepOk r := by
  unfold repErr at h
  by_cases h1 : r.win < 0 ∨ 1099511627776 < r.win ∨ 9223372036854775808 < r.tot ∨ r.tot < r.rest
  · rw [if_pos h1] at h; cases h
  rw [if_neg h1] at h
  by_cases h2 : 64 < r.lines.length ∨ r.trk < r.lines.length ∨ 768 < r.trk
  · rw [if_pos h2] at h; cases h
  rw [if_neg h2] at h
  by_cases h3 : linesErr r.tot r.lines ≠ 0
  · rw [if_pos h3] at h; exact absurd h h3
  rw [if_neg h3] at h
  by_cases h4 : ¬ (keysN r.lines).Nodup
  · rw [if_pos h4] at h; cases h
  rw [if_neg h4] at h
  by_cases h5 : 18446744073709551615 < r.over + loSum r.lines ∨ r.over + loSum r.lines ≠ r.tot
  · rw [if_pos h5] at h; cases h
  rw [if_neg h5] at h
  by_cases h6 : r.rej.length ≠ 7 ∨ r.rej[0]? ≠ some 0
  · rw [if_pos h6] at h; cases h
  have h7 : r.rej.length = 7 ∧ r.rej[0]? = some 0 := by
    constructor
    · exact Decidable.byContradiction fun e => h6 (.inl e)
    · exact Decidable.byContradiction fun e => h6 (.inr e)
  exact ⟨by omega, by omega, by omega, by omega, by omega, lines_none (Decidable.byContradiction h3), Decidable.byContradiction h4, by omega, by omega, h7.1, h7.2⟩
theorem ln_ok {tot : Int} {p : Option Ln} {x : Ln} (h : lnErr tot p x = 0) : x.key.size ≠ 0 ∧ x.key.size ≤ 255 ∧ x.lo ≤ x.hi ∧ x.hi ≤ tot ∧ (p.map fun p => !befB p x).getD false = false := by
  unfold lnErr at h
  by_cases h1 : x.key.size = 0
  · rw [if_pos h1] at h; cases h
  rw [if_neg h1] at h
  by_cases h2 : 255 < x.key.size
  · rw [if_pos h2] at h; cases h
  rw [if_neg h2] at h
  by_cases h3 : x.hi < x.lo ∨ tot < x.hi
  · rw [if_pos h3] at h; cases h
  rw [if_neg h3] at h
  by_cases h4 : (p.map fun p => !befB p x).getD false = true
  · rw [if_pos h4] at h; cases h
  exact ⟨h1, by omega, by omega, by omega, by simpa using h4⟩
theorem RepOk.ln {r : Rep} (h : RepOk r) {i : Nat} (hi : i < r.lines.length) : r.lines[i].key.size ≠ 0 ∧ r.lines[i].key.size ≤ 255 ∧ r.lines[i].lo ≤ r.lines[i].hi ∧ r.lines[i].hi ≤ r.tot := by
  have := h.lines i hi
  unfold lnErrAt at this
  rw [List.getElem?_eq_getElem hi] at this
  obtain ⟨a, b, c, d, _⟩ := ln_ok this
  exact ⟨a, b, c, d⟩
end Go.Proofs.Ytiagjiaahnkefaa

/- A set of texts, kept as a map to true: how many different ones there are. -/
namespace Go.Proofs.Ytiagjiaahnkefaa
open Go.RowKit Go.Maps Go.WideMaps

theorem strKey (b : List UInt8) : WideAt.IsKeyLit (.string b) := by unfold WideAt.IsKeyLit; trivial
theorem addKey_fold : ∀ (xs acc : List Lit), (∀ x ∈ xs, WideAt.IsKeyLit x) →
    (xs.foldl addKey acc).length ≤ acc.length + xs.length ∧ ((xs.foldl addKey acc).length = acc.length + xs.length ↔ xs.Nodup ∧ ∀ x ∈ xs, acc.any (fun y => y.sameKey x) = false)
  | [], acc, _ => by simp
  | x :: xs, acc, h => by
    have hx := h x (by simp)
    simp only [List.foldl_cons, List.length_cons]
    unfold addKey
    by_cases ha : acc.any (fun y => y.sameKey x) = true
    · rw [if_pos ha]
      obtain ⟨h1, _⟩ := addKey_fold xs acc fun y hy => h y (List.mem_cons_of_mem _ hy)
      unfold addKey at h1
      refine ⟨by omega, fun e => by omega, fun ⟨_, h3⟩ => ?_⟩
      have := h3 x (by simp)
      rw [ha] at this; cases this
    · rw [if_neg ha]
      obtain ⟨h1, h2⟩ := addKey_fold xs (acc ++ [x]) fun y hy => h y (List.mem_cons_of_mem _ hy)
      unfold addKey at h1 h2
      rw [List.length_append, List.length_singleton] at h1 h2
      refine ⟨by omega, ?_⟩
      rw [show acc.length + (xs.length + 1) = acc.length + 1 + xs.length by omega, h2]
      have ha' : acc.any (fun y => y.sameKey x) = false := by simpa using ha
      constructor
      · rintro ⟨h3, h4⟩
        have hne : x ∉ xs := fun hm => by
          have := h4 x hm
          rw [List.any_append, Bool.or_eq_false_iff] at this
          have e := this.2
          simp [WideAt.sameKey_self hx] at e
        refine ⟨List.nodup_cons.2 ⟨hne, h3⟩, fun y hy => ?_⟩
        rcases List.mem_cons.1 hy with e | e
        · rw [e]; exact ha'
        · have := h4 y e
          rw [List.any_append, Bool.or_eq_false_iff] at this
          exact this.1
      · rintro ⟨h3, h4⟩
        obtain ⟨h5, h6⟩ := List.nodup_cons.1 h3
        refine ⟨h6, fun y hy => ?_⟩
        rw [List.any_append, Bool.or_eq_false_iff]
        refine ⟨h4 y (List.mem_cons_of_mem _ hy), ?_⟩
        have hxy : x ≠ y := fun e => h5 (e ▸ hy)
        simp [sameKey_ne hxy]
/-- The set of texts. -/
def setS (L : List (List UInt8)) : DataW Unit := setOf (.lit (.bool true)) (L.map fun b => .string b)
theorem setS_nil : setS [] = .map [] := rfl
theorem setS_snoc (L : List (List UInt8)) (b : List UInt8) : setS (L ++ [b]) = (setS L).put (.string b) (.lit (.bool true)) := by
  unfold setS
  rw [List.map_append]; exact setOf_snoc _ _ _
theorem setS_keys (L : List (List UInt8)) : ∀ x ∈ L.map (fun b => (Lit.string b)), WideAt.IsKeyLit x := by
  intro x hx
  obtain ⟨b, _, rfl⟩ := List.mem_map.1 hx
  exact strKey b
theorem setS_size (L : List (List UInt8)) : Maps.size (setS L) ≤ L.length ∧ (Maps.size (setS L) = L.length ↔ L.Nodup) := by
  have h := addKey_fold (L.map fun b => (Lit.string b)) [] (setS_keys L)
  unfold setS
  rw [size_setOf _ _ (setS_keys L)]
  simp only [List.length_nil, Nat.zero_add, List.length_map, List.any_nil, implies_true, and_true] at h
  refine ⟨h.1, h.2.trans ?_⟩
  rw [List.nodup_iff_pairwise_ne, List.nodup_iff_pairwise_ne, List.pairwise_map]
  exact ⟨fun h => h.imp fun hne e => hne (by rw [e]), fun h => h.imp fun hne e => hne (by cases e; rfl)⟩
end Go.Proofs.Ytiagjiaahnkefaa

/- Which reports are accepted: the program's walks. -/
namespace Go.Proofs.Ytiagjiaahnkefaa
open Go.RowKit Go.Sort

def satL (n : Int) : Int := if n ≤ 18446744073709551615 then n else 18446744073709551615
def fitL (n : Int) : Bool := decide (n ≤ 18446744073709551615)
theorem satL_w {n : Int} (h : 0 ≤ n) : W64 (satL n) := by unfold W64 satL; split <;> omega
theorem satL_add {n x : Int} (hn : 0 ≤ n) (hx : 0 ≤ x) : satA (satL n) x = satL (n + x) := by unfold satA satL; (repeat' split) <;> omega
theorem fitL_add {n x : Int} (hx : 0 ≤ x) : (fitL n && fitA (satL n) x) = fitL (n + x) := by
  unfold fitL fitA satL
  rw [Bool.eq_iff_iff]
  simp only [Bool.and_eq_true, decide_eq_true_eq]
  split <;> constructor <;> intro h <;> omega
theorem fitL_of {n : Int} {b : Bool} (h : fitL n = b) : fitL n = b := h
theorem fitL_0 : fitL 0 = true := by decide
theorem satL_0 : satL 0 = 0 := by decide
def RetSum (n : Int) (w : World) (e : Ending) (w' : World) : Prop := e = .returned (.tuple #[.int .u64 (satL n), .bool (fitL n)]) ∧ w.grownBy w' none

set_option maxHeartbeats 400000 in
theorem lows_c (v : Value) (ls : List Ln) (w : World) (h : RdL lnF 3 w v ls) (hW : ∀ x ∈ ls, LnW x) : Calls Try.prog 51 #[v] w (RetSum (loSum ls) w) := by
  obtain ⟨a, c, rfl⟩ := h.shape
  have hm := h.2.1
  have H := Lib.hid h
  have HW := Lib.hid hW
  have H0 := Lib.hid (show RetSum (loSum ls) w = fun e w' => e = .returned (.tuple #[.int .u64 (satL (loSum ls)), .bool (fitL (loSum ls))]) ∧ w.grownBy w' none from rfl)
  clear h hW
  go_enter Try.func51, Try.ntmps51
  go_wp2_with fail
  go_loopw [2, 3, 9] (fun s2 s3 s9 wk => ∃ k : Nat, k ≤ ls.length ∧ s9 = .int .i64 k ∧ s2 = .int .u64 (satL (loSum (ls.take k))) ∧ s3 = .bool (fitL (loSum (ls.take k))) ∧ w.grownBy wk none) (fun _ _ s9 _ => ls.length - (intOf s9).toNat)
  case atStart => exact ⟨0, Nat.zero_le _, rfl, rfl, rfl, grownBy_refl _ _⟩
  case round =>
    obtain ⟨k, hk, rfl, rfl, rfl, hg⟩ := hrel
    by_cases hlt : k < ls.length
    · obtain ⟨g, off, cap, hv, hgl, hc⟩ := (RdL.same H.out hg).at_ lnF_len hlt
      cases hv
      have c0 := hc 0 _ rfl
      have c1 := hc 1 _ rfl
      have c2 := hc 2 _ rfl
      rw [Nat.add_zero] at c0
      clear hc
      have hx := HW.out _ (List.getElem_mem hlt)
      have hp : 0 ≤ loSum (ls.take k) := loSum_pos fun y hy => (HW.out y (List.mem_of_mem_take hy)).lo.1
      have HS := Lib.hid (show loSum (ls.take (k + 1)) = loSum (ls.take k) + ls[k].lo by rw [take_succ hlt, loSum_snoc])
      have w1 := satL_w hp
      have w2 := hx.lo
      have Ha := Lib.hid (satL_add hp w2.1)
      have Hf := Lib.hid (fitL_add (n := loSum (ls.take k)) w2.1)
      clear hx
      generalize loSum (ls.take k) = n at *
      generalize ls[k] = x at *
      obtain ⟨bt, hbt⟩ : ∃ bt, fitL n = bt := ⟨_, rfl⟩
      rw [hbt] at Hf ⊢
      clear hbt hp
      generalize satL n = sn at *
      cases bt
      · go_wp2_with (go_at_call 52; refine (satAdd_c sn x.lo _ w1 w2).mono ?_; rintro e w' ⟨rfl, rfl⟩)
        exact ⟨⟨k + 1, by omega, by go_num, by rw [HS.out, ← Ha.out], by rw [HS.out, ← Hf.out]; rfl, grownBy_new_block hg _⟩, by simp [intOf]; omega⟩
      · go_wp2_with (go_at_call 52; refine (satAdd_c sn x.lo _ w1 w2).mono ?_; rintro e w' ⟨rfl, rfl⟩)
        exact ⟨⟨k + 1, by omega, by go_num, by rw [HS.out, ← Ha.out], by rw [HS.out, ← Hf.out, Bool.true_and], grownBy_new_block hg _⟩, by simp [intOf]; omega⟩
    · have hl : ls.take k = ls := List.take_of_length_le (by omega)
      rw [hl]
      go_wp2_with fail
      go_ret2
      exact ⟨rfl, hg⟩

theorem ln_empty {tot : Int} {p : Option Ln} {x : Ln} (h : x.key.toList.isEmpty = true) : lnErr tot p x = 3 := by unfold lnErr; rw [if_pos (isE h)]
theorem ln_long {tot : Int} {p : Option Ln} {x : Ln} (h : x.key.toList.isEmpty = false) (h2 : 255 < (x.key.size : Int)) : lnErr tot p x = 4 := by unfold lnErr; rw [if_neg (isN h), if_pos (by omega)]
theorem ln_range {tot : Int} {p : Option Ln} {x : Ln} (h : x.key.toList.isEmpty = false) (h2 : (x.key.size : Int) ≤ 255) (h3 : x.hi < x.lo ∨ tot < x.hi) : lnErr tot p x = 1 := by unfold lnErr; rw [if_neg (isN h), if_neg (by omega), if_pos h3]
theorem ln_rest {tot : Int} {p : Option Ln} {x : Ln} (h : x.key.toList.isEmpty = false) (h2 : (x.key.size : Int) ≤ 255) (h3 : x.lo ≤ x.hi) (h4 : x.hi ≤ tot) : lnErr tot p x = if (p.map fun p => !befB p x).getD false then 6 else 0 := by
  unfold lnErr; rw [if_neg (isN h), if_neg (by omega), if_neg (by omega)]

set_option maxHeartbeats 1000000 in
set_option maxRecDepth 100000 in
theorem line0_c (r : Rep) (w : World) (hR : RepRd w r) (hi : 0 < r.lines.length) : Calls Try.prog 50 #[repV r.win r.tot r.vl r.over r.trk r.rest r.vr, .int .i64 0] w (RetInt (lnErr r.tot none r.lines[0]) w) := by
  obtain ⟨win, tot, vl, over, trk, rest, vr, ls, rj⟩ := r
  obtain ⟨ra, rc, e2⟩ := hR.rej.shape
  simp only at e2 hi ⊢
  subst e2
  obtain ⟨g, off, cap, hv, hgl, hc⟩ := hR.lines.at_ lnF_len hi
  simp only at hv
  subst hv
  have c0 := hc 0 _ rfl
  have c1 := hc 1 _ rfl
  have c2 := hc 2 _ rfl
  have hlen : ls.length ≤ 9223372036854775807 := hR.lines.2.1
  simp only [Nat.zero_mul, Nat.add_zero] at c0 c1 c2
  clear hR hc
  have hl0 : (0 : Int) < (ls.length : Int) := by omega
  generalize ls[0] = x at *
  go_enter Try.func50, Try.ntmps50
  go_upto_region 2 with fail
  have B1 := (Blk.new w #[.int .i64 win, .int .u64 tot, .slice (some ⟨g, off, none⟩) ls.length cap, .int .u64 over, .int .i64 trk, .int .u64 rest, .slice ra rj.length rc] 26).same (World.grownBy_alloc _ (.cells #[.string x.key, .int .u64 x.lo, .int .u64 x.hi] 71) none)
  have B2 := Blk.new' (w.alloc (.cells #[.int .i64 win, .int .u64 tot, .slice (some ⟨g, off, none⟩) ls.length cap, .int .u64 over, .int .i64 trk, .int .u64 rest, .slice ra rj.length rc] 26)) #[.string x.key, .int .u64 x.lo, .int .u64 x.hi] 71 (g := w.heap.size + 1) (by simp)
  have hg := grownBy_new_block (grownBy_new_block (grownBy_refl w none) (.cells #[.int .i64 win, .int .u64 tot, .slice (some ⟨g, off, none⟩) ls.length cap, .int .u64 over, .int .i64 trk, .int .u64 rest, .slice ra rj.length rc] 26)) (.cells #[.string x.key, .int .u64 x.lo, .int .u64 x.hi] 71)
  generalize (w.alloc (.cells #[.int .i64 win, .int .u64 tot, .slice (some ⟨g, off, none⟩) ls.length cap, .int .u64 over, .int .i64 trk, .int .u64 rest, .slice ra rj.length rc] 26)).alloc (.cells #[.string x.key, .int .u64 x.lo, .int .u64 x.hi] 71) = wq at *
  have b1 := B1.cell
  have b2 := B2.cell
  clear c0 c1 c2
  go_wp2_with fail
  · go_ret
    exact retInt (ln_empty (by assumption)) hg
  · go_ret
    exact retInt (ln_long (by assumption) (by assumption)) hg
  · go_ret
    exact retInt (ln_range (by assumption) (by assumption) (by assumption)) hg
  · have he : x.key.toList.isEmpty = false := by assumption
    have hl : (x.key.size : Int) ≤ 255 := by assumption
    have h3 : x.lo ≤ x.hi := by assumption
    have h4 : x.hi ≤ tot := And.right (show x.lo ≤ x.hi ∧ x.hi ≤ tot by assumption)
    have HL := Lib.hid (ln_rest (p := none) he hl h3 h4)
    clear he hl h3 h4
    go_quiet (fail)
    go_wp2_with fail
    go_ret
    exact retInt HL.out (grownBy_drewN hg _)
  · go_ret
    exact retInt (ln_range (by assumption) (by assumption) (Or.inl (by assumption))) hg

set_option maxHeartbeats 1000000 in
set_option maxRecDepth 100000 in
theorem lineS_c (r : Rep) (m : Nat) (w : World) (hR : RepRd w r) (hi : m + 1 < r.lines.length) : Calls Try.prog 50 #[repV r.win r.tot r.vl r.over r.trk r.rest r.vr, .int .i64 (m + 1 : Nat)] w (RetInt (lnErr r.tot (some r.lines[m]) r.lines[m + 1]) w) := by
  obtain ⟨win, tot, vl, over, trk, rest, vr, ls, rj⟩ := r
  obtain ⟨ra, rc, e2⟩ := hR.rej.shape
  simp only at e2 hi ⊢
  subst e2
  obtain ⟨g, off, cap, hv, hgl, hc⟩ := hR.lines.at_ lnF_len hi
  simp only at hv
  subst hv
  have c0 := hc 0 _ rfl
  have c1 := hc 1 _ rfl
  have c2 := hc 2 _ rfl
  obtain ⟨g', off', cap', hv', -, hd⟩ := hR.lines.at_ lnF_len (show m < ls.length by omega)
  cases hv'
  have HD := Lib.hid hd
  have hlen : ls.length ≤ 9223372036854775807 := hR.lines.2.1
  simp only [Nat.add_zero] at c0 c1 c2
  clear hR hc hd
  have hl0 : (0 : Int) ≤ ((m + 1 : Nat) : Int) := by omega
  have hl1 : ((m + 1 : Nat) : Int) < (ls.length : Int) := by omega
  have hl2 : (0 : Int) ≤ (m : Int) := by omega
  have hl3 : (m : Int) < (ls.length : Int) := by omega
  have hs1 : IntKind.i64.wrap (((m + 1 : Nat) : Int) - 1) = (m : Int) := by rw [IntWalk.i64_in _ (by omega)]; omega
  have hs2 : ((m + 1 : Nat) : Int) - 1 = (m : Int) := by omega
  have hgt : decide ((0 : Int) < ((m + 1 : Nat) : Int)) = true := decide_eq_true (by omega)
  generalize ls[m] = y at *
  generalize ls[m + 1] = x at *
  go_enter Try.func50, Try.ntmps50
  go_upto_region 2 with fail
  have B1 := (Blk.new w #[.int .i64 win, .int .u64 tot, .slice (some ⟨g, off, none⟩) ls.length cap, .int .u64 over, .int .i64 trk, .int .u64 rest, .slice ra rj.length rc] 26).same (World.grownBy_alloc _ (.cells #[.string x.key, .int .u64 x.lo, .int .u64 x.hi] 71) none)
  have B2 := Blk.new' (w.alloc (.cells #[.int .i64 win, .int .u64 tot, .slice (some ⟨g, off, none⟩) ls.length cap, .int .u64 over, .int .i64 trk, .int .u64 rest, .slice ra rj.length rc] 26)) #[.string x.key, .int .u64 x.lo, .int .u64 x.hi] 71 (g := w.heap.size + 1) (by simp)
  have hg := grownBy_new_block (grownBy_new_block (grownBy_refl w none) (.cells #[.int .i64 win, .int .u64 tot, .slice (some ⟨g, off, none⟩) ls.length cap, .int .u64 over, .int .i64 trk, .int .u64 rest, .slice ra rj.length rc] 26)) (.cells #[.string x.key, .int .u64 x.lo, .int .u64 x.hi] 71)
  generalize (w.alloc (.cells #[.int .i64 win, .int .u64 tot, .slice (some ⟨g, off, none⟩) ls.length cap, .int .u64 over, .int .i64 trk, .int .u64 rest, .slice ra rj.length rc] 26)).alloc (.cells #[.string x.key, .int .u64 x.lo, .int .u64 x.hi] 71) = wq at *
  have b1 := B1.cell
  have b2 := B2.cell
  clear c0 c1 c2
  go_wp2_with fail
  · go_ret
    exact retInt (ln_empty (by assumption)) hg
  · go_ret
    exact retInt (ln_long (by assumption) (by assumption)) hg
  · go_ret
    exact retInt (ln_range (by assumption) (by assumption) (by assumption)) hg
  · have he : x.key.toList.isEmpty = false := by assumption
    have hl : (x.key.size : Int) ≤ 255 := by assumption
    have h3 : x.lo ≤ x.hi := by assumption
    have h4 : x.hi ≤ tot := And.right (show x.lo ≤ x.hi ∧ x.hi ≤ tot by assumption)
    have HL2 := Lib.hid (show lnErr tot (some y) x = if !(befB y x) then 6 else 0 from ln_rest (p := some y) he hl h3 h4)
    have d0 := cell_regrown ((((grownBy_cells hg).1 g _ hgl (by simp))).trans (HD.out 0 _ rfl))
    have d1 := cell_regrown ((((grownBy_cells hg).1 g _ hgl (by simp))).trans (HD.out 1 _ rfl))
    have d2 := cell_regrown ((((grownBy_cells hg).1 g _ hgl (by simp))).trans (HD.out 2 _ rfl))
    simp only [Nat.add_zero] at d0
    have e1 := B1.re
    have e2 := B2.re
    have r4 := call_re (w := wq) fun w' hg => before_c y x w'
    clear he hl h3 h4 HD b1 b2 B1 B2
    generalize befB y x = bb at *
    (refine Tail.wp_region_tail_grown 14 (by kernel_rfl) (by kernel_rfl) ?_; simp only [List.take, List.drop]; (repeat (go_big_quiet_step (with_reducible exact r4 _ _))); refine wpQuiet_nil ?_; rintro _ ⟨⟨d5, os5⟩, rfl⟩)
    have K3 := grownBy_trans hg (grown_re wq d5 os5)
    generalize grow (redrawn wq d5) os5 = w3 at *
    clear d0 d1 d2 e1 e2 r4
    cases bb
    · go_wp2_with fail
      go_ret
      exact retInt HL2.out K3
    · go_wp2_with fail
      go_ret
      exact retInt HL2.out K3
  · go_ret
    exact retInt (ln_range (by assumption) (by assumption) (Or.inl (by assumption))) hg
end Go.Proofs.Ytiagjiaahnkefaa

/- Differences; selection of the first lines: the program. -/
namespace Go.Proofs.Ytiagjiaahnkefaa
open Go.RowKit Go.Sort

set_option maxHeartbeats 400000 in
theorem rsub_c (a b : Int) (w : World) (ha : W64 a) (hb : W64 b) : Calls Try.prog 93 #[.int .u64 a, .int .u64 b] w (RetWordBool (subF a b) (decide (b ≤ a)) w) := by
  by_cases h : a < b
  · have h1 := Lib.hid (show subF a b = 0 by unfold subF; rw [if_pos h])
    have h2 := Lib.hid (show decide (b ≤ a) = false from decide_eq_false (by omega))
    go_enter Try.func93, Try.ntmps93
    go_wp2
    go_ret2
    first | exact retWB h1.out h2.out | exact retWB h1.out rfl
  · have h1 := Lib.hid (show subF a b = a - b by unfold subF; rw [if_neg h])
    have h2 := Lib.hid (show decide (b ≤ a) = true from decide_eq_true (by omega))
    unfold W64 at ha hb
    have hw : IntKind.u64.wrap (a - b) = a - b := IntWalk.u64_in _ (by omega)
    go_enter Try.func93, Try.ntmps93
    go_wp2
    go_ret2
    first | exact retWB h1.out h2.out | exact retWB h1.out rfl

end Go.Proofs.Ytiagjiaahnkefaa

/- The reference's selection; the deck's counts of rejects. -/
namespace Go.Proofs.Ytiagjiaahnkefaa
open Go.RowKit Go.Sort

set_option maxHeartbeats 1000000 in
set_option maxRecDepth 100000 in
theorem rsel_c (v : Value) (l : List Ln) (k : Int) (w : World) (h : RdL lnF 3 w v l) (hl : l.length ≤ 100000) (hk0 : 0 ≤ k) (hk1 : k ≤ 1000) : Calls Try.prog 91 #[v, .int .i64 k] w (SelPost k l w) := by
  obtain ⟨a, c, rfl⟩ := h.shape
  have Hc := Lib.hid (rsort_c _ l w h (by omega))
  have hsl := sortLn_len l
  have HP := Lib.hid (p := ∀ e w', SelPost k l w e w' ↔ ∃ v1 v2, e = .returned (.tuple #[v1, v2]) ∧ RdL lnF 3 w' v1 ((sortLn l).take (selN k l)) ∧ RdL lnF 3 w' v2 ((sortLn l).drop (selN k l)) ∧ CapOk v1 ∧ From w.heap.size v1 ∧ From w.heap.size v2 ∧ w.grownBy w' none) (fun _ _ => Iff.rfl)
  obtain ⟨kk, hkk⟩ : ∃ kk, selN k l = kk := ⟨_, rfl⟩
  have hkd : kk ≤ l.length ∧ min k (l.length : Int) = (kk : Int) := by unfold selN at hkk; omega
  rw [hkk] at HP
  clear hkk h
  have hmx : max k 0 = k := by omega
  obtain ⟨hkl, hmn⟩ := hkd
  rw [← hsl] at hkl hmn
  have Hsl := Lib.hid hsl
  clear hsl
  generalize sortLn l = S at *
  go_enter Try.func91, Try.ntmps91
  go_upto_region 2 with (go_at_call 118; refine Hc.out.mono ?_; rintro e w2 ⟨v2, rfl, o2, g2⟩; obtain ⟨sa, sc, rfl⟩ := o2.shape)
  have hcap := o2.cap
  have hk2 : (kk : Int) ≤ (S.length : Int) := by omega
  have hk3 : (0 : Int) ≤ (kk : Int) := by omega
  have hk4 : (kk : Int) ≤ (sc : Int) := by omega
  have hk5 : (S.length : Int) ≤ (sc : Int) := by omega
  have H1 := Lib.hid fun w' (h : World.grownBy w2 w' none) => (o2.rd.take lnF_len hkl sc).same h
  have H2 := Lib.hid fun w' (h : World.grownBy w2 w' none) => (o2.rd.drop lnF_len hkl hcap (sc - kk)).same h
  have Hc1 := Lib.hid (show CapOk (.slice sa kk sc) from fun _ _ _ e => by cases e; omega)
  have hff := o2.from_
  have Hf1 := Lib.hid (show From w.heap.size (.slice sa kk sc) from fun a n c e => by cases e; exact hff _ _ _ rfl)
  have Hf2 := Lib.hid (show From w.heap.size (.slice (if sc = kk then sa else sa.map (·.add (kk * 3))) (S.length - kk) (sc - kk)) from fun a n c e => by
    split at e
    · cases e; exact hff _ _ _ rfl
    · rcases sa with _ | sa
      · cases e
      · cases e; have := hff sa _ _ rfl; simp only [Addr.add]; split <;> exact this)
  clear Hc o2 hff
  have hq1 : (kk : Int) ≤ (kk : Int) := Int.le_refl _
  rcases Decidable.em (sc = kk) with hq | hq
  · subst hq
    have e0 : S.length - sc = 0 := by omega
    have e1 : sc - sc = 0 := by omega
    simp only [if_true, e0, e1] at H2 Hf2
    rcases sa with _ | sa
    · go_upto_region 3 with fail
      go_quiet (fail)
      go_wp2
      refine bodyPost_ret (v := .tuple #[.slice none sc sc, .slice none 0 0]) (by simp [results, Try.results91, go_sem]) rfl ?_
      exact (HP.out _ _).2 ⟨_, _, rfl, H1.out _ (by (repeat (first | exact grownBy_refl _ _ | assumption | refine grownBy_new_block ?_ _ | refine grownBy_drew ?_ | refine grownBy_drewN ?_ _ | refine grownBy_setNew ?_ (by first | (simp; done) | omega | (simp; omega)) _))), H2.out _ (by (repeat (first | exact grownBy_refl _ _ | assumption | refine grownBy_new_block ?_ _ | refine grownBy_drew ?_ | refine grownBy_drewN ?_ _ | refine grownBy_setNew ?_ (by first | (simp; done) | omega | (simp; omega)) _))), Hc1.out, Hf1.out, Hf2.out, grownBy_trans g2 (by (repeat (first | exact grownBy_refl _ _ | assumption | refine grownBy_new_block ?_ _ | refine grownBy_drew ?_ | refine grownBy_drewN ?_ _ | refine grownBy_setNew ?_ (by first | (simp; done) | omega | (simp; omega)) _)))⟩
    · go_upto_region 3 with fail
      go_quiet (fail)
      go_wp2
      refine bodyPost_ret (v := .tuple #[.slice (some sa) sc sc, .slice (some sa) 0 0]) (by simp [results, Try.results91, go_sem]) rfl ?_
      exact (HP.out _ _).2 ⟨_, _, rfl, H1.out _ (by (repeat (first | exact grownBy_refl _ _ | assumption | refine grownBy_new_block ?_ _ | refine grownBy_drew ?_ | refine grownBy_drewN ?_ _ | refine grownBy_setNew ?_ (by first | (simp; done) | omega | (simp; omega)) _))), H2.out _ (by (repeat (first | exact grownBy_refl _ _ | assumption | refine grownBy_new_block ?_ _ | refine grownBy_drew ?_ | refine grownBy_drewN ?_ _ | refine grownBy_setNew ?_ (by first | (simp; done) | omega | (simp; omega)) _))), Hc1.out, Hf1.out, Hf2.out, grownBy_trans g2 (by (repeat (first | exact grownBy_refl _ _ | assumption | refine grownBy_new_block ?_ _ | refine grownBy_drew ?_ | refine grownBy_drewN ?_ _ | refine grownBy_setNew ?_ (by first | (simp; done) | omega | (simp; omega)) _)))⟩
  · simp only [if_neg hq] at H2 Hf2
    go_upto_region 3 with fail
    go_quiet (fail)
    go_wp2
    refine bodyPost_ret (v := .tuple #[.slice sa kk sc, .slice (sa.map (·.add (kk * 3))) (S.length - kk) (sc - kk)]) (by simp [results, Try.results91, go_sem]) rfl ?_
    exact (HP.out _ _).2 ⟨_, _, rfl, H1.out _ (by (repeat (first | exact grownBy_refl _ _ | assumption | refine grownBy_new_block ?_ _ | refine grownBy_drew ?_ | refine grownBy_drewN ?_ _ | refine grownBy_setNew ?_ (by first | (simp; done) | omega | (simp; omega)) _))), H2.out _ (by (repeat (first | exact grownBy_refl _ _ | assumption | refine grownBy_new_block ?_ _ | refine grownBy_drew ?_ | refine grownBy_drewN ?_ _ | refine grownBy_setNew ?_ (by first | (simp; done) | omega | (simp; omega)) _))), Hc1.out, Hf1.out, Hf2.out, grownBy_trans g2 (by (repeat (first | exact grownBy_refl _ _ | assumption | refine grownBy_new_block ?_ _ | refine grownBy_drew ?_ | refine grownBy_drewN ?_ _ | refine grownBy_setNew ?_ (by first | (simp; done) | omega | (simp; omega)) _)))⟩

set_option maxHeartbeats 400000 in
theorem above_c (v : Value) (l : List Ln) (un : Int) (w : World) (h : RdL lnF 3 w v l) : Calls Try.prog 92 #[v, .int .u64 un] w (RetWord (hiMax l un) w) := by
  obtain ⟨a, c, rfl⟩ := h.shape
  have hm := h.2.1
  have H := Lib.hid h
  have HM := Lib.hid (show hiMax l un = (l.map (·.hi)).foldl max un from rfl)
  clear h
  generalize hiMax l un = q at *
  go_enter Try.func92, Try.ntmps92
  go_wp2_with fail
  go_loopw [1, 9] (fun s1 s9 wk => ∃ k : Nat, k ≤ l.length ∧ s9 = .int .i64 k ∧ s1 = .int .u64 (((l.take k).map (·.hi)).foldl max un) ∧ w.grownBy wk none) (fun _ s9 _ => l.length - (intOf s9).toNat)
  case atStart => exact ⟨0, Nat.zero_le _, rfl, rfl, grownBy_refl _ _⟩
  case round =>
    obtain ⟨k, hk, rfl, rfl, hg⟩ := hrel
    by_cases hlt : k < l.length
    · obtain ⟨g, off, cap, hv, hgl, hc⟩ := (RdL.same H.out hg).at_ lnF_len hlt
      cases hv
      have c0 := hc 0 _ rfl
      have c1 := hc 1 _ rfl
      have c2 := hc 2 _ rfl
      rw [Nat.add_zero] at c0
      clear hc
      have HS := Lib.hid (show ((l.take (k + 1)).map (·.hi)).foldl max un = max (((l.take k).map (·.hi)).foldl max un) l[k].hi by rw [List.take_succ_eq_append_getElem hlt, List.map_append, List.foldl_append]; rfl)
      generalize ((l.take k).map (·.hi)).foldl max un = M at *
      generalize l[k] = x at *
      have G2 := grownBy_new_block hg (.cells #[.string x.key, .int .u64 x.lo, .int .u64 x.hi] 71)
      have A2 := (Blk.new wr #[.string x.key, .int .u64 x.lo, .int .u64 x.hi] 71).cell
      go_wp2_with fail
      exact ⟨⟨k + 1, by omega, by go_num, by rw [HS.out], G2⟩, by simp [intOf]; omega⟩
    · have hle : l.take k = l := List.take_of_length_le (by omega)
      rw [hle, ← HM.out]
      go_wp2_with fail
      go_ret
      exact retWord rfl hg

def RejsPost (B b : Nat) (w : World) (e : Ending) (w' : World) : Prop :=
  ∃ (g : Nat) (ws : List Int), e = .returned (.slice (some ⟨g, 0, none⟩) 7 7) ∧ w.heap.size ≤ g ∧ ws.length = 7 ∧ ws[0]? = some 0 ∧ (∀ n ∈ ws, 0 ≤ n ∧ n ≤ 8) ∧ Blk w' g (wordCells ws) ∧ Deck B w' b ∧ w.grownBy w' (some b)

set_option maxHeartbeats 600000 in
theorem drejects_c {B : Nat} (b : Nat) (w : World) (hd : Deck B w b) (hB : B ≤ w.heap.size) : Calls Try.prog 49 #[.pointer (some ⟨b, 0, none⟩)] w (RejsPost B b w) := by
  obtain ⟨Z, hmk, hz1, hz2, hz3⟩ : ∃ Z : List Int, (∀ w, (Instr.makeSlice 24 (.int .i64 7) (.int .i64 7)).run Try.prog w = .ok (.slice (some ⟨w.heap.size, 0, none⟩) 7 7) (w.alloc (.cells (wordCells Z) 22))) ∧ Z.length = 7 ∧ Z[0]? = some 0 ∧ ∀ n ∈ Z, 0 ≤ n ∧ n ≤ 8 := ⟨List.replicate 7 0, fun w => make_words 7 (by omega) w, rfl, rfl, fun n hn => by rw [List.eq_of_mem_replicate hn]; omega⟩
  have Hz := Lib.hid (And.intro hz1 (And.intro hz2 hz3))
  clear hz1 hz2 hz3
  have hb := hd.lt
  go_enter Try.func49, Try.ntmps49
  go_upto_region 2 with fail
  have B1 := Blk.new w (wordCells Z) 22
  have G1 : w.grownBy (w.alloc (.cells (wordCells Z) 22)) (some b) := grownBy_some (World.grownBy_alloc _ _ _) _
  have D1 := hd.alloc (.cells (wordCells Z) 22)
  generalize w.alloc (.cells (wordCells Z) 22) = w1 at *
  have hg0 : w.heap.size ≤ w.heap.size := Nat.le_refl _
  have hBg := hB
  clear hB
  generalize hgg : w.heap.size = g at B1 hg0 hb hBg ⊢
  clear hmk
  go_wp2_with fail
  go_loopw [4] (fun s4 wk => ∃ (i : Nat) (ws : List Int), s4 = .int .i64 i ∧ 1 ≤ i ∧ i ≤ 7 ∧ ws.length = 7 ∧ ws[0]? = some 0 ∧ (∀ n ∈ ws, 0 ≤ n ∧ n ≤ 8) ∧ Blk wk g (wordCells ws) ∧ Deck B wk b ∧ w.grownBy wk (some b)) (fun s4 _ => 7 - (intOf s4).toNat)
  case atStart => exact ⟨1, Z, rfl, by omega, by omega, Hz.out.1, Hz.out.2.1, Hz.out.2.2, B1, D1, G1⟩
  case round =>
    obtain ⟨i, ws, rfl, hi1, hi7, hwl, hw0, hws, hB, hD, hG⟩ := hrel
    clear B1 D1 G1
    have Hw0 := Lib.hid hw0
    have Hws := Lib.hid hws
    have Hwl := Lib.hid hwl
    clear hw0 hws hwl
    by_cases hlt : i < 7
    · have hgb : g ≠ b := by omega
      have hi0 : (0 : Int) ≤ (i : Int) := by omega
      have hi9 : (i : Int) < 7 := by omega
      go_upto_region 4 with (go_at_call 48; refine (next_c b _ _ hD (by omega) (by omega)).mono ?_; rintro e w2 ⟨r2, rfl, hr21, hr22, D2, G2⟩; have B2 := hB.kept G2 (by simp; omega); have hw2 : IntKind.u64.wrap r2 = r2 := IntWalk.u64_in _ (by omega); have c2 : w2.cell? ⟨g, i, none⟩ = some (.int .u64 (ws.getD i 0)) := (by rw [B2.cell i]; simp [wordCells, List.getElem?_eq_getElem (show i < ws.length by have := Hwl.out; omega)]); have f2 := fun k => B2.free k)
      have B3 : Blk (w2.setCell ⟨g, i, none⟩ (.int .u64 r2)) g (wordCells (ws.set i r2)) := B2.set_ i _ (by simp [wordCells, List.map_set])
      have G3 : w2.grownBy (w2.setCell ⟨g, i, none⟩ (.int .u64 r2)) (some g) := grownBy_set (grownBy_refl _ _) _ _
      have D3 := D2.kept G3 (fun k e => by cases e; exact hBg)
      have K3 := grownBy_new (grownBy_trans hG G2) G3 (by omega)
      have hl3 : (ws.set i r2).length = 7 := by rw [List.length_set]; exact Hwl.out
      have h03 : (ws.set i r2)[0]? = some 0 := by rw [List.getElem?_set_ne (by omega)]; exact Hw0.out
      have ha3 : ∀ n ∈ ws.set i r2, 0 ≤ n ∧ n ≤ 8 := fun n hn => by
        rcases List.mem_or_eq_of_mem_set hn with h | h
        · exact Hws.out n h
        · subst h; omega
      have Hall := Lib.hid (And.intro hl3 (And.intro h03 ha3))
      clear hl3 h03 ha3 c2 f2
      generalize w2.setCell ⟨g, i, none⟩ (.int .u64 r2) = w3 at *
      generalize ws.set i r2 = ws3 at *
      go_wp2_with fail
      exact ⟨⟨i + 1, ws3, by go_num, by omega, by omega, Hall.out.1, Hall.out.2.1, Hall.out.2.2, B3, D3, K3⟩, by simp [intOf]; omega⟩
    · obtain rfl : i = 7 := by omega
      go_wp2_with fail
      go_ret
      exact ⟨g, ws, rfl, by omega, Hwl.out, Hw0.out, Hws.out, hB, hD, hG⟩
end Go.Proofs.Ytiagjiaahnkefaa

/- The report of valid summaries: plain. -/
namespace Go.Proofs.Ytiagjiaahnkefaa
open Go.RowKit Go.Sort

theorem keysF_nodup (l : List Summ) : (keysF l).Nodup := (ascF_ok _).1.imp fun h => by intro e; rw [e] at h; exact List.lt_irrefl _ h
theorem keysF_few {c : Cfg} {lc : List (Int × Int)} {t : List Int} {lv : Value} {l : List Summ} {w : World} (h : Few c lc t lv l w) : (keysF l).length ≤ 13 := by
  have : keysF l ⊆ (List.range 13).map fun i : Nat => (keyS ((97 + i : Nat) : Int)).data.toList := by
    intro b hb
    obtain ⟨s, hs, e, he, rfl⟩ := mem_keysF hb
    obtain ⟨n, hn, h1, h2⟩ := (h.good s hs).keys e he
    refine List.mem_map.2 ⟨(n - 97).toNat, by simp; omega, ?_⟩
    have e1 : ((97 + (n - 97).toNat : Nat) : Int) = n := by omega
    rw [e1, ← hn]; rfl
  have := List.Nodup.length_le_of_subset (keysF_nodup l) this
  simpa using this
theorem allF_len (c : Cfg) (t : List Int) (l : List Summ) : (allF c t l).length = (keysF l).length := by simp [allF]
theorem allF_w {c : Cfg} {lc : List (Int × Int)} {t : List Int} {lv : Value} {l : List Summ} {w : World} (h : Few c lc t lv l w) : ∀ x ∈ allF c t l, LnW x := by
  intro x hx
  obtain ⟨b, hb, rfl⟩ := List.mem_map.1 hx
  have := foldB_w (c := c) (t := t) h.ok (bA b) ((setF c t (bA b)).filter (fun i : Int => decide (i < (l.length : Int))))
  refine ⟨this.1, this.2, ?_⟩
  obtain ⟨s, hs, e, he, rfl⟩ := mem_keysF hb
  have := key_few h s hs e he
  show (entK e).toArray.size ≤ _
  simpa [entK] using this
def bLs (c : Cfg) (t : List Int) (l : List Summ) : List Ln := (sortLn (allF c t l)).take (selN c.Top (allF c t l))
def bOm (c : Cfg) (t : List Int) (l : List Summ) : List Ln := (sortLn (allF c t l)).drop (selN c.Top (allF c t l))
theorem insL_perm (L : List Ln) (x : Ln) : (insL L x).Perm (L ++ [x]) := by
  unfold insL
  generalize insK x L L.length = k
  have h1 : (L.take k ++ [x] ++ L.drop k).Perm (L.take k ++ (L.drop k ++ [x])) := by
    rw [List.append_assoc]
    exact List.Perm.append_left _ List.perm_append_comm
  rw [← List.append_assoc, List.take_append_drop] at h1
  exact h1
theorem sortLn_perm (l : List Ln) : (sortLn l).Perm l := by
  have : ∀ (l a : List Ln), (l.foldl insL a).Perm (a ++ l) := by
    intro l
    induction l with
    | nil => intro a; simp
    | cons x l ih =>
      intro a
      simp only [List.foldl_cons]
      refine (ih _).trans ?_
      have := (insL_perm a x).append_right l
      simpa using this
  simpa [sortLn] using this l []
theorem mem_sortLn {l : List Ln} {x : Ln} (h : x ∈ sortLn l) : x ∈ l := (sortLn_perm l).mem_iff.1 h
theorem bLs_w {c : Cfg} {lc : List (Int × Int)} {t : List Int} {lv : Value} {l : List Summ} {w : World} (h : Few c lc t lv l w) : ∀ x ∈ bLs c t l, LnW x := fun x hx => allF_w h x (mem_sortLn (List.mem_of_mem_take hx))
def bOver (c : Cfg) (t : List Int) (l : List Summ) : Int := subF (totalF l) (satL (loSum (bLs c t l)))
def bRest (c : Cfg) (t : List Int) (l : List Summ) : Int := hiMax (bOm c t l) (restF c l)
/-- The report that is built. -/
def BuildPost (c : Cfg) (t : List Int) (l : List Summ) (win : Int) (rej : List Int) (w : World) (e : Ending) (w' : World) : Prop :=
  ∃ vl vr, e = .returned (repV win (totalF l) vl (bOver c t l) ((keysF l).length) (bRest c t l) vr) ∧ RdL lnF 3 w' vl (bLs c t l) ∧ RdL wordF 1 w' vr rej ∧ CapOk vl ∧ CapOk vr ∧ From w.heap.size vl ∧ From w.heap.size vr ∧ w.grownBy w' none
theorem totalF_w {c : Cfg} {lc : List (Int × Int)} {t : List Int} {lv : Value} {l : List Summ} {w : World} (h : Few c lc t lv l w) : W64 (totalF l) := by
  have h1 := rest_tot h
  have h2 := (few_sum h).2
  have h3 : 0 ≤ totalF l := by
    obtain ⟨h3, h4⟩ := few_sum h
    rw [h3]
    exact sumI_pos fun i _ => (totAt_bd h i).1
  unfold W64
  omega
end Go.Proofs.Ytiagjiaahnkefaa
