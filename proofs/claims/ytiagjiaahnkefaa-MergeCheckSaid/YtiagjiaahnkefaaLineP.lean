/- Lines: plain. -/
import Derived.Test.YtiagjiaahnkefaaBounds
namespace Go.Proofs.Ytiagjiaahnkefaa
open Go.RowKit

/-- The bounds of a key in shard i. -/
def bP (c : Cfg) (t : List Int) (l : List Summ) (k : ByteArray) (i : Int) : Int × Int := match l[i.toNat]? with
  | some s => (min (bndE s.es s.untr k).1 (sEstF c t s k), min (bndE s.es s.untr k).2 (sEstF c t s k))
  | none => (0, 0)
def addP (a x : Int × Int) : Int × Int := (satA a.1 x.1, satA a.2 x.2)
def foldB (c : Cfg) (t : List Int) (l : List Summ) (k : ByteArray) (is : List Int) : Int × Int := is.foldl (fun a i => addP a (bP c t l k i)) (0, 0)
/-- The line of a key: over the shards of its set that there are. -/
def lineF (c : Cfg) (t : List Int) (l : List Summ) (k : ByteArray) : Int × Int := foldB c t l k ((setF c t k).filter (fun i : Int => decide (i < (l.length : Int))))

theorem satA_comm2 {a x y : Int} (hx : 0 ≤ x) (hy : 0 ≤ y) : satA (satA a x) y = satA (satA a y) x := by
  unfold satA; split <;> split <;> split <;> split <;> omega
/-- The summaries that the laws speak of: the numbers fit, no row is empty. -/
structure SumsOk (l : List Summ) : Prop where
  wf : ∀ s ∈ l, SumW s
  rows : ∀ s ∈ l, RowsOk s.rows
  len : ∀ s ∈ l, s.rows.length ≤ 1000
theorem bndE_w {s : Summ} (h : SumW s) (k : ByteArray) : W64 (bndE s.es s.untr k).1 ∧ W64 (bndE s.es s.untr k).2 := by
  unfold bndE
  split
  · rename_i e he
    obtain ⟨h1, h2⟩ := h.es e (List.mem_of_find?_eq_some he)
    exact ⟨h1, satA_w h1 h2⟩
  · exact ⟨w64_0, h.untr⟩
theorem bP_w {c : Cfg} {t : List Int} {l : List Summ} (h : SumsOk l) (k : ByteArray) (i : Int) : W64 (bP c t l k i).1 ∧ W64 (bP c t l k i).2 := by
  unfold bP
  split
  · rename_i s hs
    have hm := List.mem_of_getElem? hs
    obtain ⟨h1, h2⟩ := bndE_w (h.wf s hm) k
    have h3 := w64_sEst (c := c) (t := t) (h.wf s hm).total (h.rows s hm) k
    exact ⟨w64_min h1 h3, w64_min h2 h3⟩
  · exact ⟨w64_0, w64_0⟩
theorem foldB_w {c : Cfg} {t : List Int} {l : List Summ} (h : SumsOk l) (k : ByteArray) (is : List Int) : W64 (foldB c t l k is).1 ∧ W64 (foldB c t l k is).2 := by
  unfold foldB
  have : ∀ (is : List Int) (a : Int × Int), W64 a.1 ∧ W64 a.2 → W64 (is.foldl (fun a i => addP a (bP c t l k i)) a).1 ∧ W64 (is.foldl (fun a i => addP a (bP c t l k i)) a).2 := by
    intro is
    induction is with
    | nil => exact fun _ h => h
    | cons i is ih =>
      intro a ha
      simp only [List.foldl_cons]
      obtain ⟨h1, h2⟩ := bP_w (c := c) (t := t) h k i
      exact ih _ ⟨satA_w ha.1 h1, satA_w ha.2 h2⟩
  exact this is _ ⟨w64_0, w64_0⟩
theorem foldB_snoc (c : Cfg) (t : List Int) (l : List Summ) (k : ByteArray) (is : List Int) (i : Int) : foldB c t l k (is ++ [i]) = addP (foldB c t l k is) (bP c t l k i) := by simp [foldB]
theorem foldB_perm {c : Cfg} {t : List Int} {l : List Summ} (h : SumsOk l) (k : ByteArray) {is is' : List Int} (hp : is.Perm is') : foldB c t l k is = foldB c t l k is' := by
  unfold foldB
  refine hp.foldl_eq' (fun x _ y _ z => ?_) _
  obtain ⟨h1, h2⟩ := bP_w (c := c) (t := t) h k x
  obtain ⟨h3, h4⟩ := bP_w (c := c) (t := t) h k y
  unfold addP
  simp only
  rw [satA_comm2 h1.1 h3.1, satA_comm2 h2.1 h4.1]

theorem setN_nodup {h m : Int} {n : Nat} (h0 : 0 ≤ h) (h1 : h < m) (hm : m ≤ 8) (hn : (n : Int) ≤ m) : (setN h m n).Nodup := by
  unfold setN rangeI
  rw [List.map_map]
  refine List.pairwise_map.2 (List.pairwise_iff_getElem.2 ?_)
  intro i j hi hj hij
  simp only [List.getElem_range, Function.comp]
  simp only [List.length_range] at hi hj
  have : m = 1 ∨ m = 2 ∨ m = 3 ∨ m = 4 ∨ m = 5 ∨ m = 6 ∨ m = 7 ∨ m = 8 := by omega
  rcases this with rfl | rfl | rfl | rfl | rfl | rfl | rfl | rfl <;> omega
theorem setN_in {h m : Int} {n : Nat} (h1 : 1 ≤ m) : ∀ x ∈ setN h m n, 0 ≤ x ∧ x < m := by
  intro x hx
  obtain ⟨i, _, rfl⟩ := List.mem_map.1 hx
  exact ⟨Int.emod_nonneg _ (by omega), Int.emod_lt_of_pos _ (by omega)⟩
theorem rangeI_nodup (n : Nat) : (rangeI n).Nodup := List.pairwise_map.2 (List.nodup_range.imp fun h e => h (Int.ofNat.inj e))
theorem mem_rangeI {n : Nat} {x : Int} : x ∈ rangeI n ↔ 0 ≤ x ∧ x < n := by
  unfold rangeI
  rw [List.mem_map]
  constructor
  · rintro ⟨i, hi, rfl⟩; have := List.mem_range.1 hi; omega
  · intro h; exact ⟨x.toNat, List.mem_range.2 (by omega), by omega⟩
theorem perm_of_nodup {l l' : List Int} (h : l.Nodup) (h' : l'.Nodup) (hm : ∀ x, x ∈ l ↔ x ∈ l') : l.Perm l' := by
  rw [List.perm_iff_count]
  intro a
  rw [List.Nodup.count h, List.Nodup.count h']
  by_cases ha : a ∈ l
  · rw [if_pos ha, if_pos ((hm a).1 ha)]
  · rw [if_neg ha, if_neg (fun h => ha ((hm a).2 h))]
/-- Whatever the order of merging: the same shards. -/
theorem order_set {c : Cfg} {t : List Int} {k : ByteArray} (hs : 1 ≤ c.Shards ∧ c.Shards ≤ 8) (hp : 1 ≤ c.Spread ∧ c.Spread ≤ c.Shards) (picks : List Int) (len : Nat) :
    ((order picks c.Shards.toNat).filter (fun x : Int => decide (x < (len : Int)) && (setF c t k).contains x)).Perm ((setF c t k).filter (fun i : Int => decide (i < (len : Int)))) := by
  obtain ⟨h1, h2⟩ := homeF_bd c t k hs.1
  have hn : (setF c t k).Nodup := setN_nodup h1 h2 hs.2 (by omega)
  refine ((order_perm picks c.Shards.toNat).filter _).trans (perm_of_nodup ((rangeI_nodup _).filter _) (hn.filter _) ?_)
  intro x
  simp only [List.mem_filter, mem_rangeI, Bool.and_eq_true, decide_eq_true_eq, List.contains_iff_mem]
  constructor
  · rintro ⟨_, h3, h4⟩; exact ⟨h4, h3⟩
  · rintro ⟨h4, h3⟩
    have := setN_in hs.1 x h4
    exact ⟨by omega, h3, h4⟩
theorem line_order {c : Cfg} {t : List Int} {k : ByteArray} {l : List Summ} (h : SumsOk l) (hs : 1 ≤ c.Shards ∧ c.Shards ≤ 8) (hp : 1 ≤ c.Spread ∧ c.Spread ≤ c.Shards) (picks : List Int) :
    foldB c t l k ((order picks c.Shards.toNat).filter (fun x : Int => decide (x < (l.length : Int)) && (setF c t k).contains x)) = lineF c t l k := foldB_perm h k (order_set hs hp picks _)
end Go.Proofs.Ytiagjiaahnkefaa
