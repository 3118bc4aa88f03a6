/- Several texts in one file; each begins with a comment that says what is proved in it. -/
import Derived.Test.YtkdbapbmbhmaiaaGreatRows
import Derived.WalkKit
import Derived.WalkSpells
import Derived.WalkLawsBesides
import Derived.BigQuiet
import Derived.Deep.QuietTactic
import Derived.Deep.DeepCutAuto
import Derived.Lib.Hide
import Derived.OpenShut
import Derived.Deep.Quiet
import Derived.Lib.QuietBelow
import Derived.Deep.RegionHeld3

/- The deck of numbers: what New, Next, Within and Word do. -/
namespace Go.Proofs.YtkdbapbmbhmaiaaGreat
open Go.RowKit

/-! ### Worlds -/
theorem grownBy_refl (w : World) (r : Option Nat) : w.grownBy w r := ⟨rfl, rfl, rfl, Nat.le_refl _, fun _ _ _ => rfl⟩
theorem grownBy_trans {a b c : World} {r : Option Nat} (h : a.grownBy b r) (k : b.grownBy c r) : a.grownBy c r :=
  ⟨k.os.trans h.os, k.tape.trans h.tape, k.output.trans h.output, Nat.le_trans h.size k.size,
    fun i hi hn => (k.block i (Nat.lt_of_lt_of_le hi h.size) hn).trans (h.block i hi hn)⟩
theorem grownBy_some {a b : World} (h : a.grownBy b none) (r : Option Nat) : a.grownBy b r :=
  ⟨h.os, h.tape, h.output, h.size, fun i hi _ => h.block i hi (by simp)⟩
/-- Two steps, the second into a block that the first has made. -/
theorem grownBy_new {a b c : World} {r : Option Nat} {g : Nat} (h : a.grownBy b r) (k : b.grownBy c (some g)) (hg : a.heap.size ≤ g) : a.grownBy c r :=
  ⟨k.os.trans h.os, k.tape.trans h.tape, k.output.trans h.output, Nat.le_trans h.size k.size,
    fun i hi hn => (k.block i (Nat.lt_of_lt_of_le hi h.size) (by simp; omega)).trans (h.block i hi hn)⟩
theorem grownBy_drew {a b : World} {r : Option Nat} (h : a.grownBy b r) : a.grownBy b.drew r := ⟨h.os, h.tape, h.output, h.size, h.block⟩
theorem grownBy_drewN {a b : World} {r : Option Nat} (h : a.grownBy b r) (n : Nat) : a.grownBy (b.drewN n) r := ⟨h.os, h.tape, h.output, h.size, h.block⟩
theorem grownBy_new_block {a b : World} {r : Option Nat} (h : a.grownBy b r) (o : Obj) : a.grownBy (b.alloc o) r := grownBy_trans h (World.grownBy_alloc b o r)
theorem grownBy_set {a b : World} {g : Nat} (h : a.grownBy b (some g)) (o : Nat) (v : Value) : a.grownBy (b.setCell ⟨g, o, none⟩ v) (some g) :=
  grownBy_trans h ⟨rfl, rfl, rfl, by simp [World.setCell], fun i _ hn => Below.heap_setCell _ _ _ _ (by simpa using hn)⟩
theorem grownBy_setNew {a b : World} {r : Option Nat} (h : a.grownBy b r) {p : Addr} (hp : a.heap.size ≤ p.block) (v : Value) : a.grownBy (b.setCell p v) r :=
  ⟨h.os, h.tape, h.output, by have := h.size; simpa [World.setCell] using this, fun i hi hn => (Below.heap_setCell _ _ _ _ (by omega)).trans (h.block i hi hn)⟩
theorem below_of_grown {a b : World} (h : a.grownBy b none) : Below a.heap.size a b := ⟨h.os, h.tape, h.output, h.size, fun i hi => h.block i hi (by simp)⟩
theorem grownBy_cells {a b : World} {r : Option Nat} (h : a.grownBy b r) : (∀ k o, k < a.heap.size → some k ≠ r → b.cell? ⟨k, o, none⟩ = a.cell? ⟨k, o, none⟩) ∧ (∀ k o, k < a.heap.size → some k ≠ r → b.frozen? ⟨k, o, none⟩ = a.frozen? ⟨k, o, none⟩) :=
  ⟨fun k _ hk hn => World.cell?_of_block (h.block k hk hn), fun k _ hk hn => World.frozen?_of_block (h.block k hk hn)⟩

theorem heap_set {w : World} {b o : Nat} {c : Array Value} {t : TypeId} {f : Nat × Nat} (v : Value) (h : w.heap[b]? = some (.cells c t f)) :
    (w.setCell ⟨b, o, none⟩ v).heap[b]? = some (.cells (c.setIfInBounds o v) t f) := by
  simp [World.setCell, Array.getElem?_modify, h]

/-! ### Slices that are read -/
/-- 'v' is a slice of n elements whose cells, one behind the other, are xs. -/
def Rd (w : World) (size : Nat) (v : Value) (n : Nat) (xs : List Value) : Prop :=
  xs.length = n * size ∧ n ≤ 9223372036854775807 ∧ ((n = 0 ∧ ∃ a cap, v = .slice a 0 cap) ∨
    ∃ g off cap, v = .slice (some ⟨g, off, none⟩) n cap ∧ g < w.heap.size ∧ ∀ j u, xs[j]? = some u → w.cell? ⟨g, off + j, none⟩ = some u)
/-- It does not lie in block b. -/
def NotIn (v : Value) (b : Nat) : Prop := ∀ a n c, v = .slice (some a) n c → a.block ≠ b
theorem Rd.kept {w w' : World} {size : Nat} {v : Value} {n : Nat} {xs : List Value} {r : Option Nat} (h : Rd w size v n xs) (hg : w.grownBy w' r) (hr : ∀ b, r = some b → NotIn v b) : Rd w' size v n xs := by
  obtain ⟨h1, h0, h2⟩ := h
  refine ⟨h1, h0, ?_⟩
  rcases h2 with h2 | ⟨g, off, cap, hv, hlt, hc⟩
  · exact .inl h2
  · refine .inr ⟨g, off, cap, hv, Nat.lt_of_lt_of_le hlt hg.size, fun j u hu => ?_⟩
    rw [World.cell?_of_block (a := ⟨g, off + j, none⟩) (hg.block g hlt ?_)]
    · exact hc j u hu
    · intro e; exact hr g e.symm _ _ _ hv rfl
theorem Rd.kept0 {w w' : World} {size : Nat} {v : Value} {n : Nat} {xs : List Value} {r : Option Nat} (h : Rd w size v n xs) (hg : w.grownBy w' r) (hr : 0 < n → ∀ b, r = some b → NotIn v b) : Rd w' size v n xs := by
  rcases Nat.eq_zero_or_pos n with h0 | h0
  · rcases h.2.2 with ⟨_, a, cap, rfl⟩ | ⟨g, off, cap, rfl, _⟩
    · exact ⟨h.1, h.2.1, .inl ⟨h0, a, cap, rfl⟩⟩
    · exact ⟨h.1, h.2.1, .inl ⟨h0, some ⟨g, off, none⟩, cap, by rw [h0]⟩⟩
  · exact h.kept hg (hr h0)
theorem Rd.same {w w' : World} {size : Nat} {v : Value} {n : Nat} {xs : List Value} (h : Rd w size v n xs) (hg : w.grownBy w' none) : Rd w' size v n xs :=
  h.kept hg (by simp)

/-! ### The deck -/
theorem within_num (x n : Int) (h : 0 < n) : (x.tmod n + n) % n = x % n := by
  have h1 : x.tmod n = if 0 ≤ x ∨ n ∣ x then x % n else x % n - n := by
    rw [Int.tmod_eq_emod]; split
    · simp
    · have : (n.natAbs : Int) = n := by omega
      rw [this]
  rw [h1]
  split
  · rw [Int.add_emod_right, Int.emod_emod]
  · rw [show x % n - n + n = x % n from by omega, Int.emod_emod]

theorem within_tmod (x n : Int) (h : 0 < n) : -n < x.tmod n ∧ x.tmod n < n := by
  have h1 : x.tmod n = if 0 ≤ x ∨ n ∣ x then x % n else x % n - n := by
    rw [Int.tmod_eq_emod]; split
    · simp
    · have : (n.natAbs : Int) = n := by omega
      rw [this]
  have a := Int.emod_nonneg x (show n ≠ 0 by omega)
  have b := Int.emod_lt_of_pos x h
  rw [h1]; split <;> omega

set_option maxHeartbeats 400000 in
theorem within_c (x n : Int) (w : World) (h0 : 0 < n) (h1 : n ≤ 4611686018427387904) :
    Calls Tryz.prog 36 #[.int .i64 x, .int .i64 n] w fun e w' => e = .returned (.int .i64 (x % n)) ∧ w = w' := by
  have H := Lib.hid (within_num x n h0)
  obtain ⟨ha, hb⟩ := within_tmod x n h0
  go_enter Tryz.func36, Tryz.ntmps36
  go_wp2
  go_ret
  exact ⟨congrArg (fun i => Ending.returned (Value.int IntKind.i64 i)) H.out, rfl⟩

/-- Block b holds a deck; it and its numbers lie below block B. -/
def Deck (B : Nat) (w : World) (b : Nat) : Prop :=
  ∃ sv, ∃ xs : List Int, ∃ k n : Nat, w.heap[b]? = some (.cells #[sv, .int .i64 k] 67) ∧ k ≤ n ∧ Rd w 1 sv n (xs.map (fun x => Value.int .i64 x)) ∧ (0 < n → NotIn sv b) ∧ b < B ∧ (0 < n → ∀ a n c, sv = .slice (some a) n c → a.block < B)
theorem Deck.lt {B : Nat} {w : World} {b : Nat} (h : Deck B w b) : b < w.heap.size := by
  obtain ⟨_, _, _, _, h, _⟩ := h; exact (Array.getElem?_eq_some_iff.1 h).1
theorem Deck.below {B : Nat} {w : World} {b : Nat} (h : Deck B w b) : b < B := by
  obtain ⟨_, _, _, _, _, _, _, _, h, _⟩ := h; exact h
theorem Deck.kept {B : Nat} {w w' : World} {b : Nat} {r : Option Nat} (h : Deck B w b) (hg : w.grownBy w' r) (hr : ∀ c, r = some c → B ≤ c) : Deck B w' b := by
  have hlt := h.lt
  obtain ⟨sv, xs, k, n, h1, h3, h4, h5, h6, h7⟩ := h
  refine ⟨sv, xs, k, n, (hg.block b hlt (fun e => by have := hr _ e.symm; omega)).trans h1, h3, h4.kept0 hg ?_, h5, h6, h7⟩
  intro h0 c hc a n' c' hv
  have h8 := hr c hc
  have h9 := h7 h0 _ _ _ hv
  omega
theorem Deck.alloc {B : Nat} {w : World} {b : Nat} (h : Deck B w b) (o : Obj) : Deck B (w.alloc o) b := h.kept (World.grownBy_alloc w o none) (by simp)

def NextPost (B b : Nat) (m : Int) (w : World) (e : Ending) (w' : World) : Prop :=
  ∃ r, e = .returned (.int .i64 r) ∧ 0 ≤ r ∧ r < m ∧ Deck B w' b ∧ w.grownBy w' (some b)

set_option maxHeartbeats 400000 in
theorem next_c {B : Nat} (b : Nat) (m : Int) (w : World) (hd : Deck B w b) (h0 : 0 < m) (h1 : m ≤ 4611686018427387904) :
    Calls Tryz.prog 17 #[.pointer (some ⟨b, 0, none⟩), .int .i64 m] w (NextPost B b m w) := by
  have Hd := Lib.hid hd
  obtain ⟨sv, xs, k, n, hb, hk1, hr, hni, hbB, hnB⟩ := hd
  have hn63 := hr.2.1
  have hsv : ∃ a cap, sv = .slice a n cap := by
    rcases hr.2.2 with ⟨rfl, a, cap, rfl⟩ | ⟨g, off, cap, rfl, _⟩
    · exact ⟨_, _, rfl⟩
    · exact ⟨_, _, rfl⟩
  obtain ⟨a, cap, rfl⟩ := hsv
  have c0 : w.cell? ⟨b, 0, none⟩ = some (.slice a n cap) := by simp [World.cell?, hb]
  have c1 : w.cell? ⟨b, 1, none⟩ = some (.int .i64 k) := by simp [World.cell?, hb]
  have f1 : w.frozen? ⟨b, 1, none⟩ = false := by simp [World.frozen?, hb]
  by_cases hlt : k < n
  · rcases hr.2.2 with ⟨h0, _⟩ | ⟨g, off, cap', hv, hg, hc⟩
    · omega
    cases hv
    have hgb : g ≠ b := hni (by omega) _ _ _ rfl
    have hlen : xs.length = n := by simpa using hr.1
    have cx : w.cell? ⟨g, off + k, none⟩ = some (.int .i64 (xs.getD k 0)) := by
      refine hc k _ ?_
      rw [List.getElem?_map, List.getElem?_eq_getElem (by omega)]
      simp [List.getD_eq_getElem?_getD, List.getElem?_eq_getElem (show k < xs.length by omega)]
    generalize xs.getD k 0 = x at cx
    have hr0 := Int.emod_nonneg x (show m ≠ 0 by omega)
    have hr1 := Int.emod_lt_of_pos x h0
    have Hb := Lib.hid hb
    have Hr := Lib.hid hr
    have HnB := Lib.hid hnB
    clear hb hr hc hlen hni hnB
    go_enter Tryz.func17, Tryz.ntmps17
    go_wp2
    go_quiet (fail)
    obtain ⟨n1, rfl⟩ : ∃ n1, n1 = nq := ⟨_, rfl⟩
    go_wp2
    have hwr : IntKind.i64.wrap (k : Int) = k := IntWalk.i64_in _ (by omega)
    go_quiet ((go_at_call 36; exact Calls.quiet_of_same ((within_c _ _ _ h0 h1).mono fun _ _ ⟨he, hw⟩ => ⟨he, hw.symm⟩)))
    clear hwr
    go_wp2
    go_ret
    have G : w.grownBy (((w.drewN n1).setCell ⟨b, 1, none⟩ (.int .i64 ((k : Int) + 1))).drewN nq) (some b) := grownBy_drewN (grownBy_set (grownBy_drewN (grownBy_refl w _) _) _ _) _
    refine ⟨x % m, rfl, hr0, hr1, ⟨_, xs, k + 1, n, ?_, hlt, Hr.out.kept G ?_, ?_, hbB, HnB.out⟩, G⟩
    · exact heap_set _ Hb.out
    · intro c hc; cases hc; intro a n' c' hv; cases hv; exact hgb
    · intro _ a n' c' hv; cases hv; exact hgb
  · have hle : n ≤ k := by omega
    clear hlt
    have Hb := Lib.hid hb
    have Hr := Lib.hid hr
    clear hb hr hnB
    go_enter Tryz.func17, Tryz.ntmps17
    go_wp2
    go_quiet (fail)
    go_wp2
    go_ret
    exact ⟨0, rfl, Int.le_refl _, h0, Hd.out.kept (grownBy_drewN (grownBy_refl w none) _) (by simp), grownBy_drewN (grownBy_refl w _) _⟩
end Go.Proofs.YtkdbapbmbhmaiaaGreat

/- Size classes as they are specified: Fit, Classes. -/
namespace Go.Proofs.YtkdbapbmbhmaiaaGreat
open Go.RowKit

theorem Rd.shape {w : World} {size : Nat} {v : Value} {n : Nat} {xs : List Value} (h : Rd w size v n xs) : ∃ a cap, v = .slice a n cap := by
  rcases h.2.2 with ⟨rfl, a, cap, rfl⟩ | ⟨g, off, cap, rfl, _⟩
  · exact ⟨_, _, rfl⟩
  · exact ⟨_, _, rfl⟩

theorem Rd.blockLt {w : World} {size : Nat} {v : Value} {n : Nat} {xs : List Value} (h : Rd w size v n xs) (h0 : 0 < n) : ∀ a n' c, v = .slice (some a) n' c → a.block < w.heap.size := by
  intro a n' c hv
  rcases h.2.2 with ⟨h, _⟩ | ⟨g, off, cap, h, hg, _⟩
  · omega
  · rw [h] at hv; cases hv; exact hg

/-- The cells of a list of elements. -/
def cellsOf {α : Type} (f : α → List Value) (l : List α) : List Value := l.flatMap f

theorem length_cellsOf {α : Type} (f : α → List Value) (s : Nat) (hs : ∀ x, (f x).length = s) (l : List α) : (cellsOf f l).length = l.length * s := by
  induction l with
  | nil => simp [cellsOf]
  | cons x l ih => simp only [cellsOf, List.flatMap_cons, List.length_append, List.length_cons] at *; rw [ih, hs, Nat.add_mul]; omega

theorem get_cellsOf {α : Type} (f : α → List Value) (s : Nat) (hs : ∀ x, (f x).length = s) (l : List α) (i j : Nat) (hj : j < s) (x : α) (hx : l[i]? = some x) :
    (cellsOf f l)[i * s + j]? = (f x)[j]? := by
  induction l generalizing i with
  | nil => simp at hx
  | cons y l ih =>
    cases i with
    | zero =>
      simp at hx; subst hx
      simp only [cellsOf, List.flatMap_cons, Nat.zero_mul, Nat.zero_add]
      rw [List.getElem?_append_left (by rw [hs]; exact hj)]
    | succ i =>
      simp only [List.getElem?_cons_succ] at hx
      have := ih i hx
      simp only [cellsOf, List.flatMap_cons] at *
      rw [List.getElem?_append_right (by rw [hs, Nat.add_mul]; omega), hs, ← this]
      congr 1
      rw [Nat.add_mul]; omega

def RdL {α : Type} (f : α → List Value) (s : Nat) (w : World) (v : Value) (l : List α) : Prop := Rd w s v l.length (cellsOf f l)

theorem RdL.cell {α : Type} {f : α → List Value} {s : Nat} {w : World} {v : Value} {l : List α} (h : RdL f s w v l) (hs : ∀ x, (f x).length = s) (hl : 0 < l.length) :
    ∃ g off cap, v = .slice (some ⟨g, off, none⟩) l.length cap ∧ g < w.heap.size ∧ ∀ i x, l[i]? = some x → ∀ j u, (f x)[j]? = some u → w.cell? ⟨g, off + i * s + j, none⟩ = some u := by
  rcases h.2.2 with ⟨h0, _⟩ | ⟨g, off, cap, rfl, hg, hc⟩
  · omega
  · refine ⟨g, off, cap, rfl, hg, fun i x hx j u hu => ?_⟩
    have hj : j < s := by rw [← hs x]; exact (List.getElem?_eq_some_iff.1 hu).1
    rw [Nat.add_assoc]
    exact hc _ _ ((get_cellsOf f s hs l i j hj x hx).trans hu)

/-- A size class: its size and its count. -/
def clsF (p : Int × Int) : List Value := [.int .i64 p.1, .int .i64 p.2]
theorem clsF_len (p : Int × Int) : (clsF p).length = 2 := rfl

def fit (l : List (Int × Int)) (size : Int) : Option Nat := if 1 ≤ size then l.findIdx? (fun p => decide (size ≤ p.1)) else none
def fitI (l : List (Int × Int)) (size : Int) : Nat := (fit l size).getD 0
def fitE (l : List (Int × Int)) (size : Int) : Int := if (fit l size).isSome then 0 else 1
def FitPost (l : List (Int × Int)) (size : Int) (w : World) (e : Ending) (w' : World) : Prop :=
  e = .returned (.tuple #[.int .i64 (fitI l size : Nat), .int .i64 (fitE l size)]) ∧ w.grownBy w' none
theorem fitI_lt {l : List (Int × Int)} (n : Int) (h : 0 < l.length) : fitI l n < l.length := by
  unfold fitI fit
  split
  · cases hf : l.findIdx? _ with
    | none => simpa using h
    | some k =>
      rw [List.findIdx?_eq_some_iff_getElem] at hf
      obtain ⟨h, _⟩ := hf
      simpa using h
  · simpa using h

theorem fit_none {l : List (Int × Int)} {size : Int} (h : ∀ (j : Nat) (p : Int × Int), l[j]? = some p → p.1 < size) : fit l size = none := by
  unfold fit; split
  · rw [List.findIdx?_eq_none_iff]
    intro x hx
    obtain ⟨i, hi⟩ := List.mem_iff_getElem?.1 hx
    have := h i x hi
    simp; omega
  · rfl
theorem fit_some {l : List (Int × Int)} {size : Int} {k : Nat} {p : Int × Int} (hs : 1 ≤ size) (h : ∀ (j : Nat) (p : Int × Int), j < k → l[j]? = some p → p.1 < size) (hk : l[k]? = some p) (hp : size ≤ p.1) : fit l size = some k := by
  unfold fit; rw [if_pos hs, List.findIdx?_eq_some_iff_getElem]
  obtain ⟨hlt, rfl⟩ := List.getElem?_eq_some_iff.1 hk
  refine ⟨hlt, by simpa using hp, fun j hj => ?_⟩
  have := h j l[j] hj (List.getElem?_eq_getElem _)
  simp; omega

set_option maxHeartbeats 400000 in
theorem fit_c (v : Value) (l : List (Int × Int)) (size : Int) (w : World) (h : RdL clsF 2 w v l) :
    Calls Tryz.prog 38 #[v, .int .i64 size] w (FitPost l size w) := by
  obtain ⟨a, cap, rfl⟩ := h.shape
  have hm := h.2.1
  by_cases hs : 1 ≤ size
  · go_enter Tryz.func38, Tryz.ntmps38
    go_wp2
    go_loopw [12] (fun i wr => ∃ k : Nat, k ≤ l.length ∧ i = .int .i64 k ∧ (∀ j (p : Int × Int), j < k → l[j]? = some p → p.1 < size) ∧ w.grownBy wr none) (fun i _ => l.length - (intOf i).toNat)
    case atStart => exact ⟨0, Nat.zero_le _, rfl, by simp, grownBy_refl _ _⟩
    case round =>
      obtain ⟨k, hk, rfl, hall, hg⟩ := hrel
      by_cases hlt : k < l.length
      · obtain ⟨g, off, cap', hv, hgl, hc⟩ := h.cell clsF_len (by omega)
        cases hv
        obtain ⟨p, hp⟩ : ∃ p, l[k]? = some p := ⟨l[k], List.getElem?_eq_getElem hlt⟩
        have hcell := grownBy_cells hg
        have c0 : wr.cell? ⟨g, off + k * 2, none⟩ = some (.int .i64 p.1) := by rw [hcell.1 _ _ hgl (by simp)]; exact hc k p hp 0 _ rfl
        have c1 : wr.cell? ⟨g, off + k * 2 + 1, none⟩ = some (.int .i64 p.2) := by rw [hcell.1 _ _ hgl (by simp)]; exact hc k p hp 1 _ rfl
        clear hcell hc
        have Hp := Lib.hid hp
        have Hall := Lib.hid hall
        clear hp hall
        by_cases hsz : size ≤ p.1
        · go_wp2
          go_ret2
          have hf := fit_some hs Hall.out Hp.out hsz
          exact ⟨by simp [fitI, fitE, hf], grownBy_new_block hg _⟩
        · go_wp2
          refine ⟨⟨k + 1, by omega, by go_num, ?_, grownBy_new_block hg _⟩, ?_⟩
          · intro j q hj hq
            by_cases e : j = k
            · subst e; rw [Hp.out] at hq; cases hq; omega
            · exact Hall.out j q (by omega) hq
          · simp [intOf]; omega
      · have hk' : k = l.length := by omega
        have hn : fit l size = none := fit_none fun j p hp => hall j p (by rw [hk']; exact (List.getElem?_eq_some_iff.1 hp).1) hp
        have Hn := Lib.hid hn
        have Hk := Lib.hid hk'
        clear hn hall hk'
        go_wp2
        go_ret2
        exact ⟨by simp [fitI, fitE, Hn.out], hg⟩
  · have hn : fit l size = none := by unfold fit; rw [if_neg hs]
    go_enter Tryz.func38, Tryz.ntmps38
    have Hn := Lib.hid hn
    clear hn
    go_wp2
    go_ret2
    exact ⟨by simp [fitI, fitE, Hn.out], grownBy_refl _ _⟩
end Go.Proofs.YtkdbapbmbhmaiaaGreat

/- Size classes that are valid; tables of words. -/
namespace Go.Proofs.YtkdbapbmbhmaiaaGreat
open Go.RowKit

structure ClsOk (l : List (Int × Int)) : Prop where
  pos : 0 < l.length
  len : l.length ≤ 8
  size : ∀ (i : Nat) (p : Int × Int), l[i]? = some p → 1 ≤ p.1 ∧ p.1 ≤ 4096 ∧ 0 ≤ p.2 ∧ p.2 ≤ 65536
  asc : ∀ (i : Nat) (p q : Int × Int), l[i]? = some p → l[i + 1]? = some q → p.1 < q.1

set_option maxHeartbeats 400000 in
theorem classes_c (v : Value) (l : List (Int × Int)) (w : World) (h : RdL clsF 2 w v l) (hok : ClsOk l) :
    Calls Tryz.prog 56 #[v] w fun e w' => e = .returned (.int .i64 0) ∧ w.grownBy w' none := by
  obtain ⟨a, cap, rfl⟩ := h.shape
  have hm := h.2.1
  have hp0 : 0 < l.length := hok.pos
  have hp8 : l.length ≤ 8 := hok.len
  have hz : ((l.length : Int) == 0) = false := by rw [beq_eq_false_iff_ne]; omega
  go_enter Tryz.func56, Tryz.ntmps56
  go_wp2
  go_loopw [15] (fun i wr => ∃ k : Nat, k ≤ l.length ∧ i = .int .i64 k ∧ w.grownBy wr none) (fun i _ => l.length - (intOf i).toNat)
  case atStart => exact ⟨0, Nat.zero_le _, rfl, grownBy_refl _ _⟩
  case round =>
    obtain ⟨k, hk, rfl, hg⟩ := hrel
    by_cases hlt : k < l.length
    · obtain ⟨g, off, cap', hv, hgl, hc⟩ := h.cell clsF_len (by omega)
      cases hv
      obtain ⟨p, hp⟩ : ∃ p, l[k]? = some p := ⟨l[k], List.getElem?_eq_getElem hlt⟩
      have hcell := grownBy_cells hg
      have c0 : wr.cell? ⟨g, off + k * 2, none⟩ = some (.int .i64 p.1) := by rw [hcell.1 _ _ hgl (by simp)]; exact hc k p hp 0 _ rfl
      have c1 : wr.cell? ⟨g, off + k * 2 + 1, none⟩ = some (.int .i64 p.2) := by rw [hcell.1 _ _ hgl (by simp)]; exact hc k p hp 1 _ rfl
      obtain ⟨b1, b2, b3, b4⟩ := hok.size k p hp
      by_cases hk0 : k = 0
      · subst hk0
        simp only [Nat.zero_mul, Nat.add_zero] at c0 c1
        clear hcell hc hp
        go_wp2
        go_quiet (fail)
        go_wp2
        refine ⟨⟨1, by omega, by go_num, grownBy_drewN (grownBy_new_block hg _) _⟩, ?_⟩
        simp [intOf]; omega
      · obtain ⟨q, hq⟩ : ∃ q, l[k - 1]? = some q := ⟨l[k - 1], List.getElem?_eq_getElem (by omega)⟩
        have d0 : wr.cell? ⟨g, off + (k - 1) * 2, none⟩ = some (.int .i64 q.1) := by rw [hcell.1 _ _ hgl (by simp)]; exact hc (k - 1) q hq 0 _ rfl
        have hlt' := hok.asc (k - 1) q p hq (by rw [show k - 1 + 1 = k from by omega]; exact hp)
        have hkp : 0 < k := by omega
        have hgw : g < wr.heap.size := Nat.lt_of_lt_of_le hgl hg.size
        clear hcell hc hp hq hk0
        go_wp2
        have hw1 : IntKind.i64.wrap ((k : Int) - 1) = (k : Int) - 1 := IntWalk.i64_in _ (by omega)
        have hw2 : ((k : Int) - 1).toNat = k - 1 := by omega
        have hw3 : (0 : Int) ≤ (k : Int) - 1 := by omega
        have hw4 : (1 : Int) ≤ (k : Int) := by omega
        go_quiet (fail)
        clear hw1 hw2
        go_wp2
        refine ⟨⟨k + 1, by omega, by go_num, grownBy_drewN (grownBy_new_block hg _) _⟩, ?_⟩
        simp [intOf]; omega
    · go_wp2
      go_ret
      exact ⟨rfl, hg⟩

/-- A slice of words. -/
def wordF (n : Int) : List Value := [.int .u64 n]
theorem wordF_len (n : Int) : (wordF n).length = 1 := rfl
def intF (n : Int) : List Value := [.int .i64 n]
theorem cells_word (l : List Int) : cellsOf wordF l = l.map (fun x => Value.int .u64 x) := by
  induction l with
  | nil => rfl
  | cons x l ih => simp only [cellsOf, List.flatMap_cons, List.map_cons] at *; rw [ih]; rfl
theorem cells_int (l : List Int) : cellsOf (fun n : Int => [Value.int .i64 n]) l = l.map (fun x => Value.int .i64 x) := by
  induction l with
  | nil => rfl
  | cons x l ih => simp only [cellsOf, List.flatMap_cons, List.map_cons] at *; rw [ih]; rfl
theorem intF_len (n : Int) : (intF n).length = 1 := rfl

theorem table_c (v : Value) (l : List Int) (w : World) (h : RdL wordF 1 w v l) (hl : l.length = 16) :
    Calls Tryz.prog 67 #[v] w fun e w' => e = .returned (.int .i64 0) ∧ w = w' := by
  obtain ⟨a, cap, rfl⟩ := h.shape
  rw [hl]
  clear h hl
  go_enter Tryz.func67, Tryz.ntmps67
  go_wp2
  go_ret
  exact ⟨rfl, rfl⟩

def WordPost (B b : Nat) (w : World) (e : Ending) (w' : World) : Prop :=
  ∃ r, e = .returned (.int .u64 r) ∧ 0 ≤ r ∧ r < 18446744073709551616 ∧ Deck B w' b ∧ w.grownBy w' (some b)

set_option maxHeartbeats 400000 in
theorem word_c {B : Nat} (b : Nat) (w : World) (hd : Deck B w b) :
    Calls Tryz.prog 19 #[.pointer (some ⟨b, 0, none⟩)] w (WordPost B b w) := by
  go_enter Tryz.func19, Tryz.ntmps19
  go_wp2_with fail
  refine (next_c b _ w hd (by omega) (by omega)).mono ?_
  rintro e w1 ⟨r1, rfl, ha1, hb1, hd1, hg1⟩
  go_wp2_with fail
  refine (next_c b _ w1 hd1 (by omega) (by omega)).mono ?_
  rintro e w2 ⟨r2, rfl, ha2, hb2, hd2, hg2⟩
  go_wp2_with fail
  go_ret
  have hb := bounds_u64 (wf_bits BinOp.xor IntKind.u64 (r1 * 4294967296) r2)
  exact ⟨_, rfl, hb.1, by omega, hd2, grownBy_trans hg1 hg2⟩

/-- Words that fit. -/
def WordsOk (l : List Int) : Prop := ∀ x ∈ l, 0 ≤ x ∧ x < 18446744073709551616
def TablePost (B b : Nat) (w : World) (e : Ending) (w' : World) : Prop :=
  ∃ v, ∃ l : List Int, e = .returned v ∧ RdL wordF 1 w' v l ∧ l.length = 16 ∧ WordsOk l ∧ NotIn v b ∧ (∀ a n c, v = .slice (some a) n c → w.heap.size ≤ a.block) ∧ Deck B w' b ∧ w.grownBy w' (some b)
def TableRel (B b C : Nat) (w : World) (wr : World) : Prop :=
  ∃ ws : List Int, ws.length = 16 ∧ WordsOk ws ∧ wr.heap[C]? = some (.cells (ws.map (fun x => Value.int .u64 x)).toArray 27) ∧ Deck B wr b ∧ w.grownBy wr (some b)

def zeros16 : Array Value := ((List.replicate 16 0).map (fun x : Int => Value.int .u64 x)).toArray
theorem make16 (w : World) : (Instr.makeSlice 29 (.int .i64 16) (.int .i64 16)).run Tryz.prog w = .ok (.slice (some ⟨w.heap.size, 0, none⟩) 16 16) (w.alloc (.cells zeros16 27)) := by kernel_rfl

set_option maxHeartbeats 400000 in
theorem dtable_c {B : Nat} (b : Nat) (w : World) (hd : Deck B w b) (hB : B ≤ w.heap.size) :
    Calls Tryz.prog 18 #[.pointer (some ⟨b, 0, none⟩)] w (TablePost B b w) := by
  have hb := hd.lt
  have hmk := make16
  go_enter Tryz.func18, Tryz.ntmps18
  go_wp2_with fail
  refine (next_c b _ _ (hd.alloc _) (by omega) (by omega)).mono ?_
  rintro e w1 ⟨r1, rfl, ha1, hb1, hd1, hg1⟩
  have HB := Lib.hid (hg1.block w.heap.size (by simp) (by simp; omega))
  clear hmk
  go_wp2_with fail
  go_loopw [12] (fun i wr => ∃ k : Nat, k ≤ 16 ∧ i = .int .i64 k ∧ TableRel B b w.heap.size w wr) (fun i _ => 16 - (intOf i).toNat)
  case atStart =>
    refine ⟨0, by omega, rfl, List.replicate 16 0, rfl, ?_, ?_, hd1, grownBy_trans (World.grownBy_alloc w _ _) hg1⟩
    · intro x hx; rw [List.eq_of_mem_replicate hx]; omega
    · rw [HB.out]; exact heap_alloc_new w _
  case round =>
    obtain ⟨k, hk, rfl, ws, hws, hok, hheap, hdr, hg⟩ := hrel
    by_cases hlt : k < 16
    · have hkk : k < ws.length := by omega
      go_wp2_with fail
      · refine (word_c b wr hdr).mono ?_
        rintro e w2 ⟨r2, rfl, ha2, hb2, hd2, hg2⟩
        have hB2 : w2.heap[w.heap.size]? = some (.cells (ws.map (fun x => Value.int .u64 x)).toArray 27) := by
          rw [hg2.block _ (Array.getElem?_eq_some_iff.1 hheap).1 (by simp; omega)]; exact hheap
        have hc2 : w2.cell? ⟨w.heap.size, k, none⟩ = some (.int .u64 ws[k]) := by
          simp [World.cell?, hB2, List.getElem?_eq_getElem hkk]
        have hf2 : w2.frozen? ⟨w.heap.size, k, none⟩ = false := by simp [World.frozen?, hB2]
        have HB2 := Lib.hid hB2
        clear hB2 hheap
        go_wp2_with fail
        have G : (w2.setCell ⟨w.heap.size, k, none⟩ (.int .u64 r2)).heap[w.heap.size]? = some (.cells ((ws.set k r2).map (fun x => Value.int .u64 x)).toArray 27) := by
          rw [heap_set _ HB2.out]; simp [List.map_set]
        refine ⟨⟨k + 1, by omega, by go_num, ws.set k r2, by simpa using hws, ?_, G, ?_, ?_⟩, ?_⟩
        · intro x hx
          rcases List.mem_or_eq_of_mem_set hx with h | h
          · exact hok x h
          · subst h; exact ⟨ha2, hb2⟩
        · exact hd2.kept (grownBy_set (grownBy_refl w2 _) _ _) (by intro c hc; cases hc; exact hB)
        · exact grownBy_setNew (grownBy_trans hg hg2) (Nat.le_refl _) _
        · simp [intOf]; omega
      · exact ⟨⟨k + 1, by omega, by go_num, ws, hws, hok, hheap, hdr, hg⟩, by simp [intOf]; omega⟩
    · have hk' : k = 16 := by omega
      go_wp2_with fail
      go_ret
      refine ⟨_, ws, rfl, ?_, hws, hok, ?_, ?_, hdr, hg⟩
      · refine ⟨?_, ?_, .inr ⟨w.heap.size, 0, 16, ?_, (Array.getElem?_eq_some_iff.1 hheap).1, ?_⟩⟩
        · rw [length_cellsOf _ 1 wordF_len]
        · omega
        · rw [hws]; rfl
        · intro j u hu
          rw [cells_word] at hu
          simp only [World.cell?, hheap, Nat.zero_add]
          simpa using hu
      · intro a n c h; cases h; simp; omega
      · intro a n c h; cases h; simp
end Go.Proofs.YtkdbapbmbhmaiaaGreat

/- A region that draws its order: all operations but the last ones are quiet in a class of worlds (they read, or they call what only grows the memory), and each of the last ones waits for all before it. The quiet ones are walked once, in the order of the text; the last ones follow as a plain list. -/
namespace Go.Proofs.YtkdbapbmbhmaiaaGreat
namespace Tail

variable {n : Nat} {P : Program} {ops : Array Oper} {C : World → Prop} {Q : Exit → Act → World → Prop}

/-- Operation j waits for i, by itself or through others. -/
def waitsB (ops : Array Oper) : Nat → Nat → Nat → Bool
  | 0, _, _ => false
  | f + 1, j, i => match ops[j]? with
    | none => false
    | some o => o.after.any fun e => Region.binds .any e && (e.on == i || waitsB ops f e.on i)

/-- Edges go back; each operation from n on waits for all before it. -/
def okB (ops : Array Oper) (n : Nat) : Bool :=
  (List.range ops.size).all fun j => match ops[j]? with
    | none => true
    | some o => (o.after.all fun e => !Region.binds .any e || decide (e.on < j)) &&
        (decide (j < n) || (List.range j).all fun i => waitsB ops 4 j i)

theorem back (h : okB ops n = true) {j : Nat} {o : Oper} (hj : ops[j]? = some o) : ∀ e ∈ o.after, Region.binds .any e = true → e.on < j := by
  intro e he hb
  have h1 := List.all_eq_true.1 h j (List.mem_range.2 (Array.getElem?_eq_some_iff.1 hj).1)
  simp only [hj, Bool.and_eq_true] at h1
  have h2 := Array.all_eq_true_iff_forall_mem.1 h1.1 e he
  simpa [hb] using h2
/-- What has come up has all it waits for. -/
def Closed (ops : Array Oper) (listed : Array Bool) : Prop := ∀ (j : Nat) (o : Oper), ops[j]? = some o → listed.getD j true = true → ∀ e ∈ o.after, Region.binds .any e = true → listed.getD e.on false = true
theorem reach {listed : Array Bool} (hc : Closed ops listed) : ∀ (f j i : Nat) (o : Oper), ops[j]? = some o → (∀ e ∈ o.after, Region.binds .any e = true → listed.getD e.on false = true) → waitsB ops f j i = true → listed.getD i false = true
  | 0, _, _, _, _, _, h => by simp [waitsB] at h
  | f + 1, j, i, o, hj, hd, h => by
    simp only [waitsB, hj] at h
    obtain ⟨e, he, h4⟩ := Array.any_eq_true'.1 h
    simp only [Bool.and_eq_true, Bool.or_eq_true, beq_iff_eq] at h4
    have h5 := hd e he h4.1
    rcases h4.2 with h6 | h6
    · rw [← h6]; exact h5
    · cases ho : ops[e.on]? with
      | none => cases f <;> simp [waitsB, ho] at h6
      | some o' =>
        refine reach hc f e.on i o' ho (hc e.on o' ho ?_) h6
        have : e.on < listed.size := by
          rcases Nat.lt_or_ge e.on listed.size with h' | h'
          · exact h'
          · simp [Array.getElem?_eq_none h'] at h5
        simp [this] at h5 ⊢; exact h5
theorem waits (h : okB ops n = true) {listed : Array Bool} (hc : Closed ops listed) {j : Nat} {o : Oper} (hj : ops[j]? = some o) (hn : n ≤ j) {i : Nat} (hi : i < j)
    (hd : ∀ e ∈ o.after, Region.binds .any e = true → listed.getD e.on false = true) : listed.getD i false = true := by
  have h1 := List.all_eq_true.1 h j (List.mem_range.2 (Array.getElem?_eq_some_iff.1 hj).1)
  simp only [hj, Bool.and_eq_true, Bool.or_eq_true, decide_eq_true_eq] at h1
  rcases h1.2 with h2 | h2
  · omega
  · exact reach hc 4 j i o hj hd (List.all_eq_true.1 h2 i (List.mem_range.2 hi))

/-- The operations below m have come up, the others not. -/
def Upto (listed : Array Bool) (N m : Nat) : Prop := listed.size = N ∧ ∀ i, i < N → listed.getD i true = decide (i < m)
theorem Upto.getF {listed : Array Bool} {N m : Nat} (h : Upto listed N m) {i : Nat} (hi : i < N) : listed.getD i false = decide (i < m) := by
  rw [← h.2 i hi]
  have : i < listed.size := by rw [h.1]; exact hi
  simp [this]
theorem Upto.closed {listed : Array Bool} {m : Nat} (hok : okB ops n = true) (h : Upto listed ops.size m) : Closed ops listed := by
  intro j o hj hl e he hb
  have h1 := back hok hj e he hb
  have h2 := (Array.getElem?_eq_some_iff.1 hj).1
  rw [h.2 j h2] at hl
  simp only [decide_eq_true_eq] at hl
  rw [h.getF (by omega)]
  simp; omega
theorem Upto.next {listed : Array Bool} {N m : Nat} (h : Upto listed N m) (_ : m < N) : Upto (listed.setIfInBounds m true) N (m + 1) := by
  refine ⟨by simp [h.1], fun i hi => ?_⟩
  by_cases e : m = i
  · subst e
    have : m < listed.size := by rw [h.1]; exact hi
    simp [this]
  · rw [getD_set_ne true e, h.2 i hi]
    simp; omega

theorem tail_any (hok : okB ops n = true) : ∀ (k m : Nat) (listed : Array Bool) (a : Act) (w : World) (fuel : Nat), n ≤ m → m + k = ops.size → k ≤ fuel → Upto listed ops.size m →
    wpList P ops Q (ops.toList.drop m) a w → wpAny P .any ops Q fuel listed a w := by
  intro k
  induction k with
  | zero =>
    intro m listed a w fuel hn hm hf hu h
    have hr : Region.ready .any ops listed = [] := by
      rw [List.eq_nil_iff_forall_not_mem]
      intro i hi
      rw [mem_ready] at hi
      obtain ⟨h0, o, ho, _⟩ := hi
      have hi' := (Array.getElem?_eq_some_iff.1 ho).1
      rw [hu.2 i hi'] at h0
      simp at h0; omega
    have hd : ops.toList.drop m = [] := List.drop_eq_nil_of_le (by simp; omega)
    rw [hd] at h
    cases fuel with
    | zero => exact ⟨hr, h⟩
    | succ f => exact ⟨fun _ => h, by rw [hr]; simp⟩
  | succ k ih =>
    intro m listed a w fuel hn hm hf hu h
    have hlt : m < ops.size := by omega
    have ho : ops[m]? = some ops[m] := Array.getElem?_eq_getElem hlt
    have hin : m ∈ Region.ready .any ops listed := by
      rw [mem_ready]
      refine ⟨by rw [hu.2 m hlt]; simp, _, ho, fun e he hb => ?_⟩
      have := back hok ho e he hb
      rw [hu.getF (by omega)]; simpa using this
    have hall : ∀ i ∈ Region.ready .any ops listed, i = m := by
      intro i hi
      rw [mem_ready] at hi
      obtain ⟨h0, o, hoi, hdep⟩ := hi
      have hi' := (Array.getElem?_eq_some_iff.1 hoi).1
      rw [hu.2 i hi'] at h0
      simp at h0
      by_cases e : i = m
      · exact e
      · exfalso
        have := waits hok (hu.closed hok) hoi (by omega) (show m < i by omega) hdep
        rw [hu.getF hlt] at this
        simp at this
    cases fuel with
    | zero => omega
    | succ f =>
      refine ⟨fun h0 => (by rw [h0] at hin; cases hin), fun i hi => ?_⟩
      rw [hall i hi]
      have hd : ops.toList.drop m = ops[m] :: ops.toList.drop (m + 1) := by
        rw [List.drop_eq_getElem_cons (by simpa using hlt)]; simp
      rw [hd] at h
      have h' : wpOp P ops Q m (wpList P ops Q (ops.toList.drop (m + 1))) a w := by
        unfold wpOp; simp only [ho]; exact h
      exact wpOp_mono (fun a' w' hk => ih (m + 1) _ a' w' f (by omega) (by omega) (by omega) (hu.next hlt) hk) h'

/-- The two lists of what has come up: for the quiet walk the last ones count as done. -/
def Pair (n N : Nat) (lt lf : Array Bool) : Prop := lt.size = N ∧ lf.size = N ∧ ∀ i, i < N → (i < n → lt.getD i true = lf.getD i true) ∧ (n ≤ i → lt.getD i true = true ∧ lf.getD i true = false)

theorem getF_of {l : Array Bool} {N i : Nat} (h : l.size = N) (hi : i < N) : l.getD i false = l.getD i true := by
  have : i < l.size := by rw [h]; exact hi
  simp [this]

/-- A ready operation comes up. -/
theorem Closed.next {lf : Array Bool} (hc : Closed ops lf) (_ : okB ops n = true) {i : Nat} (hi : i ∈ Region.ready .any ops lf) : Closed ops (lf.setIfInBounds i true) := by
  obtain ⟨_, o, ho, hd⟩ := mem_ready.1 hi
  intro j o' hj hl e he hb
  refine getD_set_true ?_
  by_cases h : i = j
  · subst h; rw [ho] at hj; cases hj; exact hd e he hb
  · rw [getD_set_ne true h] at hl; exact hc j o' hj hl e he hb

theorem head_any (hn : n ≤ ops.size) (hok : okB ops n = true) {QQ : Act → Prop} (hQ : ∀ a w, C w → QQ a → wpList P ops Q (ops.toList.drop n) a w) :
    ∀ (fuel : Nat) (lt lf : Array Bool) (a : Act) (w : World) (fuel' : Nat), fuel + (ops.size - n) ≤ fuel' → Pair n ops.size lt lf → Closed ops lf → C w → wpAnyQ P .any ops C QQ fuel lt a → wpAny P .any ops Q fuel' lf a w := by
  intro fuel
  -- if nothing is ready in the quiet walk, all of the head has come up
  have done : ∀ (lt lf : Array Bool), Pair n ops.size lt lf → Region.ready .any ops lt = [] → Upto lf ops.size n := by
    intro lt lf hp hr
    refine ⟨hp.2.1, ?_⟩
    have key : ∀ i, i < n → lf.getD i true = true := by
      intro i
      induction i using Nat.strongRecOn with
      | _ i ih =>
        intro hi
        have hlt : i < ops.size := by omega
        cases hv : lf.getD i true with
        | true => rfl
        | false =>
          exfalso
          have hin : i ∈ Region.ready .any ops lt := by
            rw [mem_ready]
            refine ⟨by rw [(hp.2.2 i hlt).1 hi, hv], _, Array.getElem?_eq_getElem hlt, fun e he hb => ?_⟩
            have hb' := back hok (Array.getElem?_eq_getElem hlt) e he hb
            rw [getF_of hp.1 (show e.on < ops.size by omega), (hp.2.2 e.on (by omega)).1 (by omega)]
            exact ih e.on hb' (by omega)
          rw [hr] at hin; cases hin
    intro i hi
    by_cases h : i < n
    · rw [key i h]; simpa using h
    · rw [((hp.2.2 i hi).2 (by omega)).2]; simpa using h
  induction fuel with
  | zero =>
    intro lt lf a w fuel' hf hp hcl hC h
    exact tail_any hok (ops.size - n) n lf a w fuel' (Nat.le_refl _) (by omega) (by omega) (done lt lf hp h.1) (hQ a w hC h.2)
  | succ fuel ih =>
    intro lt lf a w fuel' hf hp hcl hC h
    by_cases hr : Region.ready .any ops lt = []
    · exact tail_any hok (ops.size - n) n lf a w fuel' (Nat.le_refl _) (by omega) (by omega) (done lt lf hp hr) (hQ a w hC (h.1 hr))
    · obtain ⟨i0, hi0⟩ := List.exists_mem_of_ne_nil _ hr
      have h0 := mem_ready.1 hi0
      obtain ⟨hun, o0, ho0, hd0⟩ := h0
      have hi0n : i0 < n := by
        rcases Nat.lt_or_ge i0 n with h' | h'
        · exact h'
        · have := ((hp.2.2 i0 (Array.getElem?_eq_some_iff.1 ho0).1).2 h').1
          rw [this] at hun; cases hun
      have hi0s := (Array.getElem?_eq_some_iff.1 ho0).1
      -- what is ready in the one is ready in the other
      have hsub : ∀ i ∈ Region.ready .any ops lf, i < n ∧ i ∈ Region.ready .any ops lt := by
        intro i hi
        obtain ⟨hu, o, ho, hd⟩ := mem_ready.1 hi
        have his := (Array.getElem?_eq_some_iff.1 ho).1
        rcases Nat.lt_or_ge i n with h' | h'
        · refine ⟨h', mem_ready.2 ⟨by rw [(hp.2.2 i his).1 h']; exact hu, o, ho, fun e he hb => ?_⟩⟩
          have hb' := back hok ho e he hb
          rw [getF_of hp.1 (by omega), (hp.2.2 e.on (by omega)).1 (by omega), ← getF_of hp.2.1 (by omega)]
          exact hd e he hb
        · exfalso
          have := waits hok hcl ho h' (show i0 < i by omega) hd
          rw [getF_of hp.2.1 hi0s, ← (hp.2.2 i0 hi0s).1 hi0n, hun] at this
          cases this
      have hrf : i0 ∈ Region.ready .any ops lf := by
        refine mem_ready.2 ⟨by rw [← (hp.2.2 i0 hi0s).1 hi0n]; exact hun, o0, ho0, fun e he hb => ?_⟩
        have hb' := back hok ho0 e he hb
        rw [getF_of hp.2.1 (by omega), ← (hp.2.2 e.on (by omega)).1 (by omega), ← getF_of hp.1 (by omega)]
        exact hd0 e he hb
      cases fuel' with
      | zero => omega
      | succ f =>
        refine ⟨fun h0 => (by rw [h0] at hrf; cases hrf), fun i hi => ?_⟩
        obtain ⟨hin, hil⟩ := hsub i hi
        refine wpOp_of_qOp (C := C) hC (fun a' w' hC' hk => ih _ _ a' w' f (by omega) ?_ (hcl.next hok hi) hC' hk) (h.2 i hil)
        refine ⟨by simp [hp.1], by simp [hp.2.1], fun j hj => ?_⟩
        by_cases e : i = j
        · subst e
          have q1 : i < lt.size := by rw [hp.1]; exact hj
          have q2 : i < lf.size := by rw [hp.2.1]; exact hj
          exact ⟨fun _ => by simp [q1, q2], fun h => by omega⟩
        · rw [getD_set_ne true e, getD_set_ne true e]; exact hp.2.2 j hj

theorem lexH (hs : Region.noSelect ops = true) {QQ : Act → Prop} : ∀ (l : List Oper) (k : Nat) (listed : Array Bool) (a : Act), (∀ j, j < l.length → l[j]? = ops[k + j]?) →
    Region.lexFrom .any ops l.length k listed = true → wpQuiet P ops C QQ l a → wpAnyQ P .any ops C QQ l.length listed a
  | [], _, _, _, _, hB, h => ⟨by simpa [Region.lexFrom] using hB, h⟩
  | o :: l, k, listed, a, hl, hB, h => by
    have h0 : ops[k]? = some o := by simpa using (hl 0 (by simp)).symm
    simp only [List.length_cons, Region.lexFrom, Bool.and_eq_true] at hB
    obtain ⟨⟨hr, hf⟩, hB'⟩ := hB
    obtain ⟨v, hy, hK⟩ := yieldsIn_of_qOp h0 (show qOp P ops C k (wpQuiet P ops C QQ l) a by unfold qOp; simp only [h0]; exact h)
    exact wpAnyQ_first h0 (Region.noSelect_spec hs) l.length listed a (Region.free_spec h0 hf) (by simpa using hr) hy
      (lexH hs l (k + 1) _ _ (fun j hj => by have := hl (j + 1) (by simpa using hj); simpa [Nat.add_assoc, Nat.add_comm 1 j] using this) hB' hK)

def tailB (ops : Array Oper) (n : Nat) : Bool :=
  decide (n ≤ ops.size) && okB ops n && Region.noSelect ops && Region.lexFrom .any ops n 0 (Array.replicate n false ++ Array.replicate (ops.size - n) true)

/-- The region's law. n: how many operations are quiet. -/
theorem wp_region_tail {id : Nat} {a : Act} {w : World} {l : List Oper} (n : Nat) (hm : P.follows .mixedOrders = true) (hB : tailB l.toArray n = true) (hC : C { w with drawn := w.drawn + 1 })
    (h : wpQuiet P l.toArray C (fun a' => ∀ w', C w' → wpList P l.toArray Q (l.drop n) a' w') (l.take n) a) : (Code.region id l.toArray true).wp P Q a w := by
  simp only [tailB, Bool.and_eq_true, decide_eq_true_eq] at hB
  obtain ⟨⟨⟨hn, hok⟩, hs⟩, hlex⟩ := hB
  have hn' : n ≤ l.length := by simpa using hn
  have hl : (l.take n).length = n := by simp; omega
  refine wp_region_any hm ?_
  refine head_any (C := C) (QQ := fun a' => ∀ w', C w' → wpList P l.toArray Q (l.drop n) a' w') hn hok (fun a w hC h => by simpa using h w hC) n
    (Array.replicate n false ++ Array.replicate (l.toArray.size - n) true) (Array.replicate l.toArray.size false) a _ l.toArray.size (by omega) ?_ ?_ hC ?_
  · refine ⟨by simp; omega, by simp, fun i hi => ⟨fun h => ?_, fun h => ?_⟩⟩
    · have hi' : i < l.length := by simpa using hi
      simp [Array.getElem?_append, h, hi']
    · have hi' : i < l.length := by simpa using hi
      have h1 : ¬ i < n := by omega
      have h2 : i - n < l.length - n := by omega
      simp [Array.getElem?_append, h1, h2, hi']
  · intro j o hj hl
    have hj' := (Array.getElem?_eq_some_iff.1 hj).1
    have hj2 : j < l.length := by simpa using hj'
    have hf : (Array.replicate l.toArray.size false).getD j true = false := by simp [hj2]
    rw [hf] at hl
    cases hl
  · have := lexH (P := P) (C := C) hs (QQ := fun a' => ∀ w', C w' → wpList P l.toArray Q (l.drop n) a' w') (l.take n) 0 (Array.replicate n false ++ Array.replicate (l.toArray.size - n) true) a
      (fun j hj => by rw [hl] at hj; simp [hj]) (by rw [hl]; exact hlex) h
    rw [hl] at this; exact this


/-! The same from a point where some operations, which need no memory, have come up already. -/
/-- Edges go back; each operation from n on waits for all before it that have not come up already. -/
def okP (ops : Array Oper) (n : Nat) (pre : Array Bool) : Bool :=
  (List.range ops.size).all fun j => match ops[j]? with
    | none => true
    | some o => (o.after.all fun e => !Region.binds .any e || decide (e.on < j)) &&
        (decide (j < n) || (List.range j).all fun i => (decide (i < n) && pre.getD i false) || waitsB ops 4 j i)
theorem backP {pre : Array Bool} (h : okP ops n pre = true) {j : Nat} {o : Oper} (hj : ops[j]? = some o) : ∀ e ∈ o.after, Region.binds .any e = true → e.on < j := by
  intro e he hb
  have h1 := List.all_eq_true.1 h j (List.mem_range.2 (Array.getElem?_eq_some_iff.1 hj).1)
  simp only [hj, Bool.and_eq_true] at h1
  have h2 := Array.all_eq_true_iff_forall_mem.1 h1.1 e he
  simpa [hb] using h2
theorem waitsP {pre : Array Bool} (h : okP ops n pre = true) {listed : Array Bool} (hc : Closed ops listed) {j : Nat} {o : Oper} (hj : ops[j]? = some o) (hn : n ≤ j) {i : Nat} (hi : i < j) (hp : i < n → pre.getD i false = false)
    (hd : ∀ e ∈ o.after, Region.binds .any e = true → listed.getD e.on false = true) : listed.getD i false = true := by
  have h1 := List.all_eq_true.1 h j (List.mem_range.2 (Array.getElem?_eq_some_iff.1 hj).1)
  simp only [hj, Bool.and_eq_true, Bool.or_eq_true, decide_eq_true_eq] at h1
  rcases h1.2 with h2 | h2
  · omega
  · have h3 := List.all_eq_true.1 h2 i (List.mem_range.2 hi)
    simp only [Bool.and_eq_true, Bool.or_eq_true, decide_eq_true_eq] at h3
    rcases h3 with ⟨h4, h5⟩ | h4
    · rw [hp h4] at h5; cases h5
    · exact reach hc 4 j i o hj hd h4
theorem Upto.closedP {listed pre : Array Bool} {m : Nat} (hok : okP ops n pre = true) (h : Upto listed ops.size m) : Closed ops listed := by
  intro j o hj hl e he hb
  have h1 := backP hok hj e he hb
  have h2 := (Array.getElem?_eq_some_iff.1 hj).1
  rw [h.2 j h2] at hl
  simp only [decide_eq_true_eq] at hl
  rw [h.getF (by omega)]
  simp; omega
theorem tail_anyP {pre : Array Bool} (hok : okP ops n pre = true) : ∀ (k m : Nat) (listed : Array Bool) (a : Act) (w : World) (fuel : Nat), n ≤ m → m + k = ops.size → k ≤ fuel → Upto listed ops.size m →
    wpList P ops Q (ops.toList.drop m) a w → wpAny P .any ops Q fuel listed a w := by
  intro k
  induction k with
  | zero =>
    intro m listed a w fuel hn hm hf hu h
    have hr : Region.ready .any ops listed = [] := by
      rw [List.eq_nil_iff_forall_not_mem]
      intro i hi
      rw [mem_ready] at hi
      obtain ⟨h0, o, ho, _⟩ := hi
      have hi' := (Array.getElem?_eq_some_iff.1 ho).1
      rw [hu.2 i hi'] at h0
      simp at h0; omega
    have hd : ops.toList.drop m = [] := List.drop_eq_nil_of_le (by simp; omega)
    rw [hd] at h
    cases fuel with
    | zero => exact ⟨hr, h⟩
    | succ f => exact ⟨fun _ => h, by rw [hr]; simp⟩
  | succ k ih =>
    intro m listed a w fuel hn hm hf hu h
    have hlt : m < ops.size := by omega
    have ho : ops[m]? = some ops[m] := Array.getElem?_eq_getElem hlt
    have hin : m ∈ Region.ready .any ops listed := by
      rw [mem_ready]
      refine ⟨by rw [hu.2 m hlt]; simp, _, ho, fun e he hb => ?_⟩
      have := backP hok ho e he hb
      rw [hu.getF (by omega)]; simpa using this
    have hall : ∀ i ∈ Region.ready .any ops listed, i = m := by
      intro i hi
      rw [mem_ready] at hi
      obtain ⟨h0, o, hoi, hdep⟩ := hi
      have hi' := (Array.getElem?_eq_some_iff.1 hoi).1
      rw [hu.2 i hi'] at h0
      simp at h0
      by_cases e : i = m
      · exact e
      · exfalso
        have := waitsP hok (hu.closedP hok) hoi (by omega) (show m < i by omega) (fun h => by omega) hdep
        rw [hu.getF hlt] at this
        simp at this
    cases fuel with
    | zero => omega
    | succ f =>
      refine ⟨fun h0 => (by rw [h0] at hin; cases hin), fun i hi => ?_⟩
      rw [hall i hi]
      have hd : ops.toList.drop m = ops[m] :: ops.toList.drop (m + 1) := by
        rw [List.drop_eq_getElem_cons (by simpa using hlt)]; simp
      rw [hd] at h
      have h' : wpOp P ops Q m (wpList P ops Q (ops.toList.drop (m + 1))) a w := by
        unfold wpOp; simp only [ho]; exact h
      exact wpOp_mono (fun a' w' hk => ih (m + 1) _ a' w' f (by omega) (by omega) (by omega) (hu.next hlt) hk) h'

theorem Closed.next' {lf : Array Bool} (hc : Closed ops lf) {i : Nat} (hi : i ∈ Region.ready .any ops lf) : Closed ops (lf.setIfInBounds i true) := by
  obtain ⟨_, o, ho, hd⟩ := mem_ready.1 hi
  intro j o' hj hl e he hb
  refine getD_set_true ?_
  by_cases h : i = j
  · subst h; rw [ho] at hj; cases hj; exact hd e he hb
  · rw [getD_set_ne true h] at hl; exact hc j o' hj hl e he hb
theorem head_anyP {pre : Array Bool} (hn : n ≤ ops.size) (hok : okP ops n pre = true) {QQ : Act → Prop} (hQ : ∀ a w, C w → QQ a → wpList P ops Q (ops.toList.drop n) a w) :
    ∀ (fuel : Nat) (lt lf : Array Bool) (a : Act) (w : World) (fuel' : Nat), fuel + (ops.size - n) ≤ fuel' → Pair n ops.size lt lf → Closed ops lf → (∀ i, i < n → pre.getD i false = true → lf.getD i true = true) → C w → wpAnyQ P .any ops C QQ fuel lt a → wpAny P .any ops Q fuel' lf a w := by
  intro fuel
  have done : ∀ (lt lf : Array Bool), Pair n ops.size lt lf → Region.ready .any ops lt = [] → Upto lf ops.size n := by
    intro lt lf hp hr
    refine ⟨hp.2.1, ?_⟩
    have key : ∀ i, i < n → lf.getD i true = true := by
      intro i
      induction i using Nat.strongRecOn with
      | _ i ih =>
        intro hi
        have hlt : i < ops.size := by omega
        cases hv : lf.getD i true with
        | true => rfl
        | false =>
          exfalso
          have hin : i ∈ Region.ready .any ops lt := by
            rw [mem_ready]
            refine ⟨by rw [(hp.2.2 i hlt).1 hi, hv], _, Array.getElem?_eq_getElem hlt, fun e he hb => ?_⟩
            have hb' := backP hok (Array.getElem?_eq_getElem hlt) e he hb
            rw [getF_of hp.1 (show e.on < ops.size by omega), (hp.2.2 e.on (by omega)).1 (by omega)]
            exact ih e.on hb' (by omega)
          rw [hr] at hin; cases hin
    intro i hi
    by_cases h : i < n
    · rw [key i h]; simpa using h
    · rw [((hp.2.2 i hi).2 (by omega)).2]; simpa using h
  induction fuel with
  | zero =>
    intro lt lf a w fuel' hf hp hcl hpre hC h
    exact tail_anyP hok (ops.size - n) n lf a w fuel' (Nat.le_refl _) (by omega) (by omega) (done lt lf hp h.1) (hQ a w hC h.2)
  | succ fuel ih =>
    intro lt lf a w fuel' hf hp hcl hpre hC h
    by_cases hr : Region.ready .any ops lt = []
    · exact tail_anyP hok (ops.size - n) n lf a w fuel' (Nat.le_refl _) (by omega) (by omega) (done lt lf hp hr) (hQ a w hC (h.1 hr))
    · obtain ⟨i0, hi0⟩ := List.exists_mem_of_ne_nil _ hr
      have h0 := mem_ready.1 hi0
      obtain ⟨hun, o0, ho0, hd0⟩ := h0
      have hi0n : i0 < n := by
        rcases Nat.lt_or_ge i0 n with h' | h'
        · exact h'
        · have := ((hp.2.2 i0 (Array.getElem?_eq_some_iff.1 ho0).1).2 h').1
          rw [this] at hun; cases hun
      have hi0s := (Array.getElem?_eq_some_iff.1 ho0).1
      have hp0 : pre.getD i0 false = false := by
        cases hv : pre.getD i0 false with
        | false => rfl
        | true =>
          have := hpre i0 hi0n hv
          rw [← (hp.2.2 i0 hi0s).1 hi0n, hun] at this; cases this
      have hsub : ∀ i ∈ Region.ready .any ops lf, i < n ∧ i ∈ Region.ready .any ops lt := by
        intro i hi
        obtain ⟨hu, o, ho, hd⟩ := mem_ready.1 hi
        have his := (Array.getElem?_eq_some_iff.1 ho).1
        rcases Nat.lt_or_ge i n with h' | h'
        · refine ⟨h', mem_ready.2 ⟨by rw [(hp.2.2 i his).1 h']; exact hu, o, ho, fun e he hb => ?_⟩⟩
          have hb' := backP hok ho e he hb
          rw [getF_of hp.1 (by omega), (hp.2.2 e.on (by omega)).1 (by omega), ← getF_of hp.2.1 (by omega)]
          exact hd e he hb
        · exfalso
          have := waitsP hok hcl ho h' (show i0 < i by omega) (fun _ => hp0) hd
          rw [getF_of hp.2.1 hi0s, ← (hp.2.2 i0 hi0s).1 hi0n, hun] at this
          cases this
      have hrf : i0 ∈ Region.ready .any ops lf := by
        refine mem_ready.2 ⟨by rw [← (hp.2.2 i0 hi0s).1 hi0n]; exact hun, o0, ho0, fun e he hb => ?_⟩
        have hb' := backP hok ho0 e he hb
        rw [getF_of hp.2.1 (by omega), ← (hp.2.2 e.on (by omega)).1 (by omega), ← getF_of hp.1 (by omega)]
        exact hd0 e he hb
      cases fuel' with
      | zero => omega
      | succ f =>
        refine ⟨fun h0 => (by rw [h0] at hrf; cases hrf), fun i hi => ?_⟩
        obtain ⟨hin, hil⟩ := hsub i hi
        refine wpOp_of_qOp (C := C) hC (fun a' w' hC' hk => ih _ _ a' w' f (by omega) ?_ (hcl.next' hi) ?_ hC' hk) (h.2 i hil)
        · refine ⟨by simp [hp.1], by simp [hp.2.1], fun j hj => ?_⟩
          by_cases e : i = j
          · subst e
            have q1 : i < lt.size := by rw [hp.1]; exact hj
            have q2 : i < lf.size := by rw [hp.2.1]; exact hj
            exact ⟨fun _ => by simp [q1, q2], fun h => by omega⟩
          · rw [getD_set_ne true e, getD_set_ne true e]; exact hp.2.2 j hj
        · intro j hj hpj
          by_cases e : i = j
          · subst e
            have q2 : i < lf.size := by rw [hp.2.1]; omega
            simp [q2]
          · rw [getD_set_ne true e]; exact hpre j hj hpj

/-- The operations at the places where the mask says so. -/
def pickL : List Oper → List Bool → List Oper
  | o :: l, true :: m => o :: pickL l m
  | _ :: l, false :: m => pickL l m
  | _, _ => []
def lexM (ops : Array Oper) : Nat → List Bool → Array Bool → Bool
  | _, [], listed => (Region.ready .any ops listed).isEmpty
  | k, true :: m, listed => (Region.ready .any ops listed).contains k && Region.free .any ops listed k && lexM ops (k + 1) m (listed.setIfInBounds k true)
  | k, false :: m, listed => lexM ops (k + 1) m listed
theorem lexP (hs : Region.noSelect ops = true) {QQ : Act → Prop} : ∀ (m : List Bool) (l : List Oper) (k : Nat) (listed : Array Bool) (a : Act), m.length = l.length → (∀ j, j < l.length → l[j]? = ops[k + j]?) →
    lexM ops k m listed = true → wpQuiet P ops C QQ (pickL l m) a → wpAnyQ P .any ops C QQ (pickL l m).length listed a
  | [], l, k, listed, a, hlen, _, hB, h => by
    have : l = [] := List.eq_nil_of_length_eq_zero (by simpa using hlen.symm)
    subst this
    exact ⟨by simpa [lexM] using hB, h⟩
  | b :: m, [], k, listed, a, hlen, _, _, _ => by simp at hlen
  | true :: m, o :: l, k, listed, a, hlen, hl, hB, h => by
    have h0 : ops[k]? = some o := by simpa using (hl 0 (by simp)).symm
    simp only [lexM, Bool.and_eq_true] at hB
    obtain ⟨⟨hr, hf⟩, hB'⟩ := hB
    simp only [pickL] at h ⊢
    obtain ⟨v, hy, hK⟩ := yieldsIn_of_qOp h0 (show qOp P ops C k (wpQuiet P ops C QQ (pickL l m)) a by unfold qOp; simp only [h0]; exact h)
    exact wpAnyQ_first h0 (Region.noSelect_spec hs) (pickL l m).length listed a (Region.free_spec h0 hf) (by simpa using hr) hy
      (lexP hs m l (k + 1) _ _ (by simpa using hlen) (fun j hj => by have := hl (j + 1) (by simpa using hj); simpa [Nat.add_assoc, Nat.add_comm 1 j] using this) hB' hK)
  | false :: m, o :: l, k, listed, a, hlen, hl, hB, h => by
    simp only [lexM] at hB
    simp only [pickL] at h ⊢
    exact lexP hs m l (k + 1) _ _ (by simpa using hlen) (fun j hj => by have := hl (j + 1) (by simpa using hj); simpa [Nat.add_assoc, Nat.add_comm 1 j] using this) hB h

/-- What has come up is closed. -/
def closedB (ops : Array Oper) (listed : Array Bool) : Bool :=
  (List.range ops.size).all fun j => match ops[j]? with
    | none => true
    | some o => !listed.getD j true || o.after.all fun e => !Region.binds .any e || listed.getD e.on false
theorem closed_of {listed : Array Bool} (h : closedB ops listed = true) : Closed ops listed := by
  intro j o hj hl e he hb
  have h1 := List.all_eq_true.1 h j (List.mem_range.2 (Array.getElem?_eq_some_iff.1 hj).1)
  simp only [hj, hl, Bool.not_true, Bool.false_or] at h1
  have h2 := Array.all_eq_true_iff_forall_mem.1 h1 e he
  simpa [hb] using h2
def preT (n N : Nat) (pre : Array Bool) : Array Bool := ((List.range N).map fun i => decide (n ≤ i) || pre.getD i true).toArray
def tailP (ops : Array Oper) (n : Nat) (m : List Bool) (listed : Array Bool) (fuel : Nat) : Bool :=
  decide (n ≤ ops.size) && okP ops n listed && Region.noSelect ops && lexM ops 0 m (preT n ops.size listed) && closedB ops listed && decide (m.length = n) && decide (listed.size = ops.size) &&
    (List.range ops.size).all (fun i => decide (i < n) || !listed.getD i true) && decide (m.count true + (ops.size - n) ≤ fuel)

theorem pickL_len : ∀ (l : List Oper) (m : List Bool), m.length ≤ l.length → (pickL l m).length = m.count true
  | _, [], _ => by cases ‹List Oper› <;> rfl
  | [], b :: m, h => by simp at h
  | o :: l, true :: m, h => by simp [pickL, pickL_len l m (by simpa using h)]
  | o :: l, false :: m, h => by simp [pickL, pickL_len l m (by simpa using h)]

/-- The law from a point where some operations have come up. m: which of the first n ones have not. -/
theorem wpAny_tailP {l : List Oper} {a : Act} {w : World} {listed : Array Bool} {fuel : Nat} (n : Nat) (m : List Bool) (hB : tailP l.toArray n m listed fuel = true) (hC : C w)
    (h : wpQuiet P l.toArray C (fun a' => ∀ w', C w' → wpList P l.toArray Q (l.drop n) a' w') (pickL (l.take n) m) a) : wpAny P .any l.toArray Q fuel listed a w := by
  simp only [tailP, Bool.and_eq_true, decide_eq_true_eq] at hB
  obtain ⟨⟨⟨⟨⟨⟨⟨⟨hn, hok⟩, hs⟩, hlex⟩, hcl⟩, hml⟩, hsz⟩, htl⟩, hf⟩ := hB
  have hn' : n ≤ l.length := by simpa using hn
  have hl : (l.take n).length = n := by simp; omega
  have hpl : (pickL (l.take n) m).length = m.count true := pickL_len _ _ (by omega)
  refine head_anyP (C := C) (QQ := fun a' => ∀ w', C w' → wpList P l.toArray Q (l.drop n) a' w') hn hok (fun a w hC h => by simpa using h w hC) (m.count true)
    (preT n l.toArray.size listed) listed a w fuel hf ?_ (closed_of hcl) ?_ hC ?_
  · refine ⟨by simp [preT], hsz, fun i hi => ?_⟩
    have e : (preT n l.toArray.size listed).getD i true = (decide (n ≤ i) || listed.getD i true) := by
      have hi' : i < l.length := by simpa using hi
      simp [preT, Array.getD_eq_getD_getElem?, List.getElem?_map, List.getElem?_range hi']
    refine ⟨fun h => ?_, fun h => ?_⟩
    · rw [e, decide_eq_false (by omega)]; rfl
    · have h1 := List.all_eq_true.1 htl i (List.mem_range.2 hi)
      simp only [Bool.or_eq_true, decide_eq_true_eq, Bool.not_eq_true'] at h1
      refine ⟨by rw [e, decide_eq_true h]; rfl, ?_⟩
      rcases h1 with h1 | h1
      · omega
      · exact h1
  · intro i hi hp
    have : i < listed.size := by rw [hsz]; omega
    simp [this] at hp ⊢; exact hp
  · have := lexP (P := P) (C := C) hs (QQ := fun a' => ∀ w', C w' → wpList P l.toArray Q (l.drop n) a' w') m (l.take n) 0 (preT n l.toArray.size listed) a (by omega)
      (fun j hj => by rw [hl] at hj; simp [hj]) hlex h
    rw [hpl] at this; exact this

/-- An operation that needs no memory comes up; the slot d that it writes is told. -/
theorem take_put {md : Region.Mode} (i d : Nat) (v : Value) {oi : Oper} {fuel : Nat} {listed : Array Bool} {a : Act} {w : World} (hi : ops[i]? = some oi) (hd : oi.dst = some d)
    (hs : Region.noSelect ops = true) (hf : Region.free md ops listed i = true) (hr : (Region.ready md ops listed).contains i = true)
    (hQ : ∀ c a w, Q (.panic c) (a.put oi.dst v) w → Q (.panic c) a w) (hy : Yields P ops oi v a)
    (h : wpAny P md ops Q fuel (listed.setIfInBounds i true) ⟨a.tmps.setIfInBounds d v, a.defers⟩ w) : wpAny P md ops Q (fuel + 1) listed a w :=
  wpAny_take hi hs hf hr hQ hy (by unfold Act.put; rw [hd]; exact h)

open Go.RowKit Go.Sort
/-- The same at the class of all worlds that have grown out of this one. -/
theorem wp_region_tail_grown {id : Nat} {a : Act} {w : World} {l : List Oper} (n : Nat) (hm : P.follows .mixedOrders = true) (hB : tailB l.toArray n = true)
    (h : wpQuiet P l.toArray (fun w' => ∃ p : Regrown, w' = grow (redrawn w p.d) p.os) (fun a' => ∀ w', (∃ p : Regrown, w' = grow (redrawn w p.d) p.os) → wpList P l.toArray Q (l.drop n) a' w') (l.take n) a) : (Code.region id l.toArray true).wp P Q a w :=
  wp_region_tail (C := fun w' => ∃ p : Regrown, w' = grow (redrawn w p.d) p.os) n hm hB ⟨⟨w.drawn + 1, #[]⟩, by rw [grow_empty]; rfl⟩ h
theorem wpAny_tail_grown {a : Act} {w : World} {l : List Oper} {listed : Array Bool} {fuel : Nat} (n : Nat) (m : List Bool) (hB : tailP l.toArray n m listed fuel = true)
    (h : wpQuiet P l.toArray (fun w' => ∃ p : Regrown, w' = grow (redrawn w p.d) p.os) (fun a' => ∀ w', (∃ p : Regrown, w' = grow (redrawn w p.d) p.os) → wpList P l.toArray Q (l.drop n) a' w') (pickL (l.take n) m) a) : wpAny P .any l.toArray Q fuel listed a { w with drawn := w.drawn + 1 } :=
  wpAny_tailP (C := fun w' => ∃ p : Regrown, w' = grow (redrawn w p.d) p.os) n m hB ⟨⟨w.drawn + 1, #[]⟩, by rw [grow_empty]; rfl⟩ h
/-- The same at the class of all worlds that are this one but for draws. -/
theorem wp_region_tail_drawn {id : Nat} {a : Act} {w : World} {l : List Oper} (n : Nat) (hm : P.follows .mixedOrders = true) (hB : tailB l.toArray n = true)
    (h : wpQuiet P l.toArray (fun w' => ∃ k, w' = w.drewN k) (fun a' => ∀ w', (∃ k, w' = w.drewN k) → wpList P l.toArray Q (l.drop n) a' w') (l.take n) a) : (Code.region id l.toArray true).wp P Q a w :=
  wp_region_tail (C := fun w' => ∃ k, w' = w.drewN k) n hm hB ⟨1, rfl⟩ h
end Tail

theorem below_of_grown' {a b : World} (h : a.grownBy b none) : Go.RowKit.Below a.heap.size a b := ⟨h.os, h.tape, h.output, h.size, fun i hi => h.block i hi (by simp)⟩

open Go.Sort in
theorem grown_re (w : World) (d : Nat) (os : Array Obj) : w.grownBy (grow (redrawn w d) os) none := by
  have h := below_regrown w d os
  exact ⟨h.os, h.tape, h.output, h.size, fun k hk _ => h.block k hk⟩
open Go.Sort in
/-- A callee whose contract gives one value and a grown world. -/
theorem call_re {P : Program} {f : FuncId} {args : Array Value} {w : World} {v : Value}
    (h : ∀ w', w.grownBy w' none → Calls P f args w' fun e w'' => e = .returned v ∧ w'.grownBy w'' none) (d : Nat) (os : Array Obj) :
    Calls P f args (grow (redrawn w d) os) fun e w'' => e = .returned v ∧ ∃ p : Regrown, w'' = grow (redrawn w p.d) p.os :=
  Calls.regrown_of ((h _ (grown_re w d os)).mono fun _ _ ⟨he, hg⟩ => ⟨he, below_of_grown' hg⟩)
end Go.Proofs.YtkdbapbmbhmaiaaGreat

/- Configurations, as the deck makes them, and what the references say of them. -/
namespace Go.Proofs.YtkdbapbmbhmaiaaGreat
open Go.RowKit

structure Cfg where
  (Length Lateness Windows Shards Spread Queue Mode Slots Exact Promote Depth Width Top Key : Int)
  (Classes Table : Value)
  (Seed : Int)

abbrev Cfg.val (c : Cfg) : Value := .agg #[.int .i64 c.Length, .int .i64 c.Lateness, .int .i64 c.Windows, .int .i64 c.Shards, .int .i64 c.Spread, .int .i64 c.Queue, .int .i64 c.Mode, .int .i64 c.Slots, .int .i64 c.Exact, .int .u64 c.Promote, .int .i64 c.Depth, .int .i64 c.Width, .int .i64 c.Top, .int .i64 c.Key, c.Classes, c.Table, .int .u64 c.Seed]

abbrev Cfg.arr (c : Cfg) : Array Value := #[.int .i64 c.Length, .int .i64 c.Lateness, .int .i64 c.Windows, .int .i64 c.Shards, .int .i64 c.Spread, .int .i64 c.Queue, .int .i64 c.Mode, .int .i64 c.Slots, .int .i64 c.Exact, .int .u64 c.Promote, .int .i64 c.Depth, .int .i64 c.Width, .int .i64 c.Top, .int .i64 c.Key, c.Classes, c.Table, .int .u64 c.Seed]

theorem size_cfg : (Tryz.prog.info? 31).map (·.size) = some 17 := by kernel_rfl

/-- Block b holds a configuration. -/
structure BoxAt (w : World) (b : Nat) (c : Cfg) : Prop where
  block : ∃ t f, w.heap[b]? = some (.cells c.arr t f) ∧ f = (0, 0)
theorem BoxAt.lt {w : World} {b : Nat} {c : Cfg} (h : BoxAt w b c) : b < w.heap.size := by
  obtain ⟨_, _, h, _⟩ := h.block; exact (Array.getElem?_eq_some_iff.1 h).1
theorem BoxAt.cell {w : World} {b : Nat} {c : Cfg} (h : BoxAt w b c) (i : Nat) : w.cell? ⟨b, i, none⟩ = c.arr[i]? := by
  obtain ⟨t, f, h, _⟩ := h.block; simp [World.cell?, h]
theorem BoxAt.kept {w w' : World} {b : Nat} {c : Cfg} {r : Option Nat} (h : BoxAt w b c) (hg : w.grownBy w' r) (hr : r ≠ some b) : BoxAt w' b c := by
  obtain ⟨t, f, hb, hf⟩ := h.block
  exact ⟨t, f, (hg.block b h.lt (fun e => hr e.symm)).trans hb, hf⟩
theorem BoxAt.same {w w' : World} {b : Nat} {c : Cfg} (h : BoxAt w b c) (hg : w.grownBy w' none) : BoxAt w' b c := h.kept hg (by simp)

/-- The configuration is read out of its block. -/
theorem load_cfg {ops : Array Oper} {rest : List Oper} {o : Oper} {a : Act} {w : World} {Q : Exit → Act → World → Prop} (hgd : o.guard = none) (x : Operand) (ho : o.op = .load 31 x)
    (b : Nat) (hx : a.eval x = .pointer (some ⟨b, 0, none⟩)) (c : Cfg) (hb : BoxAt w b c) (h : wpList Tryz.prog ops Q rest (a.put o.dst c.val) w) : wpList Tryz.prog ops Q (o :: rest) a w := by
  obtain ⟨t, f, hbl, _⟩ := hb.block
  exact wpList_load_row hgd _ x ho b hx t _ f _ hbl Tryz.underlying31 rfl size_cfg h
theorem load_cfg_if {ops : Array Oper} {rest : List Oper} {o : Oper} {a : Act} {w : World} {Q : Exit → Act → World → Prop} (hw : Region.wanted o (yielded ops a.tmps) = true) (x : Operand) (ho : o.op = .load 31 x)
    (b : Nat) (hx : a.eval x = .pointer (some ⟨b, 0, none⟩)) (c : Cfg) (hb : BoxAt w b c) (h : wpList Tryz.prog ops Q rest (a.put o.dst c.val) w) : wpList Tryz.prog ops Q (o :: rest) a w := by
  obtain ⟨t, f, hbl, _⟩ := hb.block
  exact BigFrame.wpList_want hw fun K hK => wp_load_row _ x ho b hx t _ f _ hbl Tryz.underlying31 rfl size_cfg (hK _ _ h)

/-! A configuration that is read, as a rule of the walk's own (for regions that draw their order, too). -/
def readCfg (w : World) (b : Nat) : Value := match w.heap[b]? with | some (.cells cs _ _) => .agg cs | _ => undef
def isCfg (w : World) (b : Nat) : Bool := match w.heap[b]? with | some (.cells cs _ _) => cs.size == 17 | _ => false
def loadCfgS (v : Value) : Sem Next := do pure (.value (← Instr.loadAt 31 v))
theorem exec_load_cfg (ρ : Operand → Value) (dst : Option Tmp) (x : Operand) (ty : TypeId) (pos : String) (after : Array Edge) (guard : Option (Nat × Bool)) :
    execOp ρ ⟨dst, .load 31 x, ty, pos, after, guard⟩ = loadCfgS (ρ x) := rfl
theorem run_loadCfgS (w : World) (b : Nat) (h : isCfg w b = true) : (loadCfgS (.pointer (some ⟨b, 0, none⟩))).run Tryz.prog w = .ok (.value (readCfg w b)) w := by
  unfold isCfg at h
  cases hb : w.heap[b]? with
  | none => rw [hb] at h; cases h
  | some o =>
    cases o with
    | cells cs t f =>
      rw [hb] at h
      have hs : cs.size = 17 := by simpa using h
      have := run_loadVar_row (P := Tryz.prog) w b t 31 cs f _ hb Tryz.underlying31 rfl (by rw [size_cfg, hs])
      simp only [loadCfgS, Instr.loadAt, Instr.sureAddr, Sem.run_bind, Sem.run_pure, Result.andThen_ok, this, readCfg, hb]
    | _ => rw [hb] at h; cases h
theorem BoxAt.is {w : World} {b : Nat} {c : Cfg} (h : BoxAt w b c) : isCfg w b = true := by
  obtain ⟨t, f, h, _⟩ := h.block; simp [isCfg, h]
theorem BoxAt.reads {w : World} {b : Nat} {c : Cfg} (h : BoxAt w b c) : readCfg w b = c.val := by
  obtain ⟨t, f, h, _⟩ := h.block; simp [readCfg, h]

@[go_sem] theorem isCfg_drew (w : World) (b : Nat) : isCfg w.drew b = isCfg w b := rfl
@[go_sem] theorem readCfg_drew (w : World) (b : Nat) : readCfg w.drew b = readCfg w b := rfl
@[go_sem] theorem isCfg_drewN (w : World) (n b : Nat) : isCfg (w.drewN n) b = isCfg w b := rfl
@[go_sem] theorem readCfg_drewN (w : World) (n b : Nat) : readCfg (w.drewN n) b = readCfg w b := rfl

open Go.Sort in
/-- What is known of the block in every world that has grown out of this one. -/
theorem BoxAt.re {w : World} {b : Nat} {c : Cfg} (h : BoxAt w b c) : (∀ d os, isCfg (grow (redrawn w d) os) b = true) ∧ (∀ d os, readCfg (grow (redrawn w d) os) b = c.val) ∧ (∀ d os i, (grow (redrawn w d) os).cell? ⟨b, i, none⟩ = c.arr[i]?) :=
  ⟨fun d os => (h.same (grown_re w d os)).is, fun d os => (h.same (grown_re w d os)).reads, fun d os => (h.same (grown_re w d os)).cell⟩

theorem run_box_cfg (c : Cfg) (w : World) : (Instr.box 31 c.val).run Tryz.prog w = .ok (.pointer (some ⟨w.heap.size, 0, none⟩)) (w.alloc (.cells c.arr 31)) := by kernel_rfl

/-- A configuration is laid into a block of its own: what is known then. -/
theorem box_cfg {ops : Array Oper} {rest : List Oper} {o : Oper} {a : Act} {w : World} {Q : Exit → Act → World → Prop} (hgd : o.guard = none) (x : Operand) (ho : o.op = .box 31 x)
    (c : Cfg) (hx : a.eval x = c.val) (h : ∀ w', BoxAt w' w.heap.size c → w.grownBy w' none → w.heap.size < w'.heap.size → wpList Tryz.prog ops Q rest (a.put o.dst (.pointer (some ⟨w.heap.size, 0, none⟩))) w') : wpList Tryz.prog ops Q (o :: rest) a w :=
  wpList_plain hgd fun _ hK => by
    unfold Oper.wp execOp
    simp only [ho, hx, run_box_cfg, Sem.run_bind, Sem.run_pure, Result.andThen_ok]
    exact hK _ _ (h _ ⟨_, _, heap_alloc_new w _, rfl⟩ (World.grownBy_alloc w _ _) (by simp))

theorem BoxAt.free {w : World} {b : Nat} {c : Cfg} (h : BoxAt w b c) (i : Nat) : w.frozen? ⟨b, i, none⟩ = false := by
  obtain ⟨t, f, h, rfl⟩ := h.block
  exact frozen_of_row w b i _ t h
/-- A field is written. -/
theorem BoxAt.setF {w : World} {b : Nat} {c c' : Cfg} (h : BoxAt w b c) (o : Nat) (v : Value) (hc : c.arr.setIfInBounds o v = c'.arr) : BoxAt (w.setCell ⟨b, o, none⟩ v) b c' := by
  obtain ⟨t, f, h, rfl⟩ := h.block
  exact ⟨t, _, by rw [heap_set v h, hc], rfl⟩

def Cfg.zero : Cfg := ⟨0, 0, 0, 0, 0, 0, 0, 0, 0, 0, 0, 0, 0, 0, .slice none 0 0, .slice none 0 0, 0⟩
theorem run_alloc_cfg (w : World) : (Instr.alloc 31 true (.tuple #[])).run Tryz.prog w = .ok (.pointer (some ⟨w.heap.size, 0, none⟩)) (w.alloc (.cells Cfg.zero.arr 31)) := by kernel_rfl

/-- A variable of the type comes to be. -/
theorem alloc_cfg {ops : Array Oper} {rest : List Oper} {o : Oper} {a : Act} {w : World} {Q : Exit → Act → World → Prop} (hgd : o.guard = none) (ho : o.op = .alloc 31)
    (h : ∀ w', BoxAt w' w.heap.size Cfg.zero → w.grownBy w' none → w.heap.size < w'.heap.size → wpList Tryz.prog ops Q rest (a.put o.dst (.pointer (some ⟨w.heap.size, 0, none⟩))) w') : wpList Tryz.prog ops Q (o :: rest) a w :=
  wpList_plain hgd fun _ hK => by
    unfold Oper.wp execOp
    simp only [ho, run_alloc_cfg, Sem.run_bind, Sem.run_pure, Result.andThen_ok]
    exact hK _ _ (h _ ⟨_, _, heap_alloc_new w _, rfl⟩ (World.grownBy_alloc w _ _) (by simp))

/-- A whole configuration is written. -/
theorem store_cfg {ops : Array Oper} {rest : List Oper} {o : Oper} {a : Act} {w : World} {Q : Exit → Act → World → Prop} (hgd : o.guard = none) (x y : Operand) (ho : o.op = .store 31 x y)
    (b : Nat) (hx : a.eval x = .pointer (some ⟨b, 0, none⟩)) (c : Cfg) (hy : a.eval y = c.val) (h1 : c.Classes.oneCell' = true) (h2 : c.Table.oneCell' = true) (c0 : Cfg) (hb : BoxAt w b c0)
    (h : ∀ w', BoxAt w' b c → w.grownBy w' (some b) → wpList Tryz.prog ops Q rest (a.put o.dst undef) w') : wpList Tryz.prog ops Q (o :: rest) a w := by
  obtain ⟨t, f, hbl, rfl⟩ := hb.block
  have hst := run_storeCells_at Tryz.prog b 0 t c.arr.toList 0 c0.arr w hbl (by simp) (by intro v hv; simp at hv; rcases hv with rfl | rfl | rfl | rfl | rfl | rfl | rfl | rfl | rfl | rfl | rfl | rfl | rfl | rfl | rfl | rfl | rfl <;> first | rfl | assumption)
  have hz : (sizeOf 31).run Tryz.prog w = .ok 17 w := by
    have := size_cfg
    cases hq : Tryz.prog.info? 31 with
    | none => rw [hq] at this; simp at this
    | some i => rw [hq] at this; simp [sizeOf, typeInfo, hq]; simpa using this
  refine wpList_plain hgd fun _ hK => ?_
  unfold Oper.wp execOp
  simp only [ho, hx, hy, Instr.storeAt, Instr.sureAddr, storeVar, Sem.run_bind, Sem.run_pure, Result.andThen_ok, hz]
  simp only [Value.cells, List.size_toArray, List.length_cons, List.length_nil, Nat.reduceAdd, ne_eq, not_true_eq_false, if_false]
  rw [hst]
  refine hK _ _ (h _ ⟨t, (0, 0), ?_, rfl⟩ ⟨rfl, rfl, rfl, by simp, fun k _ hk => setRow_other w b k _ (fun e => hk (by simp [e]))⟩)
  rw [setRow_heap w b c0.arr _ t _ hbl]
  simp

/-- A block as it was made is read as it was made. -/
theorem boxed {w w' : World} {cs : Array Value} {t : TypeId} {f : Nat × Nat} (h : (w.alloc (.cells cs t f)).grownBy w' none) (o : Nat) : w'.cell? ⟨w.heap.size, o, none⟩ = cs[o]? := by
  have := h.block w.heap.size (by simp) (by simp)
  rw [heap_alloc_new] at this
  simp [World.cell?, this]

/-- The numbers of a configuration that is valid. -/
structure CfgNums (c : Cfg) : Prop where
  length : 1 ≤ c.Length ∧ c.Length ≤ 1048576
  lateness : 0 ≤ c.Lateness ∧ c.Lateness ≤ 1048576
  windows : 1 ≤ c.Windows ∧ c.Windows ≤ 8
  shards : 1 ≤ c.Shards ∧ c.Shards ≤ 8
  spread : 1 ≤ c.Spread ∧ c.Spread ≤ c.Shards
  queue : 1 ≤ c.Queue ∧ c.Queue ≤ 64
  mode : c.Mode = 1 ∨ c.Mode = 2
  slots : 1 ≤ c.Slots ∧ c.Slots ≤ 64
  exact : 0 ≤ c.Exact ∧ c.Exact ≤ 32
  promote : 0 ≤ c.Promote ∧ c.Promote < 18446744073709551616
  depth : 1 ≤ c.Depth ∧ c.Depth ≤ 4
  width : 1 ≤ c.Width ∧ c.Width ≤ 256
  top : 1 ≤ c.Top ∧ c.Top ≤ 64
  key : 1 ≤ c.Key ∧ c.Key ≤ 255
  seed : 0 ≤ c.Seed ∧ c.Seed < 18446744073709551616

/-- The memory of a configuration: its size classes and its words. -/
structure CfgMem (c : Cfg) (l : List (Int × Int)) (t : List Int) (w : World) : Prop where
  classes : RdL clsF 2 w c.Classes l
  table : RdL wordF 1 w c.Table t
  tlen : t.length = 16
  twords : WordsOk t
theorem CfgMem.same {c : Cfg} {l : List (Int × Int)} {t : List Int} {w w' : World} (h : CfgMem c l t w) (hg : w.grownBy w' none) : CfgMem c l t w' :=
  ⟨h.classes.same hg, h.table.same hg, h.tlen, h.twords⟩

/-- The size classes suit the numbers. -/
structure CfgCls (c : Cfg) (l : List (Int × Int)) : Prop where
  ok : ClsOk l
  last : ∀ p, l[l.length - 1]? = some p → 32 ≤ p.1 ∧ 8 * c.Width ≤ p.1 ∧ c.Key ≤ p.1

set_option maxHeartbeats 400000 in
theorem rclock_c (c : Cfg) (w : World) (hn : CfgNums c) :
    Calls Tryz.prog 54 #[c.val] w fun e w' => e = .returned (.int .i64 0) ∧ w.grownBy w' none := by
  obtain ⟨h1, h2⟩ := hn.length
  obtain ⟨h3, h4⟩ := hn.lateness
  obtain ⟨h5, h6⟩ := hn.windows
  go_enter Tryz.func54, Tryz.ntmps54
  go_wp2
  go_ret
  exact ⟨rfl, World.grownBy_alloc w _ _⟩

set_option maxHeartbeats 400000 in
theorem routes_c (c : Cfg) (l : List (Int × Int)) (t : List Int) (w : World) (hn : CfgNums c) (hm : CfgMem c l t w) :
    Calls Tryz.prog 55 #[c.val] w fun e w' => e = .returned (.int .i64 0) ∧ w.grownBy w' none := by
  obtain ⟨h1, h2⟩ := hn.shards
  obtain ⟨h3, h4⟩ := hn.spread
  go_enter Tryz.func55, Tryz.ntmps55
  go_wp2_with (go_at_call 67; refine (table_c _ t _ (hm.table.same (World.grownBy_alloc w _ _)) hm.tlen).mono ?_; rintro e w' ⟨rfl, rfl⟩)
  go_ret
  exact ⟨rfl, World.grownBy_alloc w _ _⟩
end Go.Proofs.YtkdbapbmbhmaiaaGreat
