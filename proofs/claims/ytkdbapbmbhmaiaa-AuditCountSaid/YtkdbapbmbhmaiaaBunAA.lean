/- Several texts in one file; each begins with a comment that says what is proved in it. -/
import Derived.Sort.Walk0
import Derived.Test.YtkdbapbmbhmaiaaRows
import Derived.WalkKit
import Derived.WalkSpells
import Derived.WalkLawsBesides
import Derived.BigQuiet
import Derived.Deep.QuietTactic
import Derived.Deep.DeepCutAuto
import Derived.Lib.Hide
import Derived.Laws.Externs
import Derived.Lib.MinMax
import Derived.OpenShut
import Derived.Maps.Views
import Derived.Maps.OwnSet
import Derived.Maps.AppendAt
import Derived.OwnWalk
import Derived.Deep.RegionLaw
import Derived.RegionTactic
import Derived.Deep.AppendLies
import Derived.Laws.OwnMore

/- The order of texts: plain. -/
namespace Go.Proofs.Ytkdbapbmbhmaiaa

abbrev Bytes := List UInt8
theorem b_irrefl (a : Bytes) : ¬ a < a := List.lt_irrefl a
theorem b_trans {a b c : Bytes} (h : a < b) (h' : b < c) : a < c := List.lt_trans h h'
theorem b_le {a b : Bytes} : a ≤ b ↔ ¬ b < a := List.not_lt.symm
theorem b_anti {a b : Bytes} (h : a ≤ b) (h' : b ≤ a) : a = b := List.le_antisymm h h'
theorem b_total (a b : Bytes) : a ≤ b ∨ b ≤ a := List.le_total a b
theorem b_lt {a b : Bytes} (h : a ≤ b) (hne : a ≠ b) : a < b := by
  rcases Decidable.em (a < b) with h1 | h1
  · exact h1
  · exact absurd (b_anti h (b_le.2 h1)) hne
theorem b_le_trans {a b c : Bytes} (h : a ≤ b) (h' : b ≤ c) : a ≤ c := List.le_trans h h'
theorem b_lt_le {a b c : Bytes} (h : a < b) (h' : b ≤ c) : a < c := by
  rcases Decidable.em (b = c) with e | e
  · exact e ▸ h
  · exact b_trans h (b_lt h' e)
theorem b_le_lt {a b c : Bytes} (h : a ≤ b) (h' : b < c) : a < c := by
  rcases Decidable.em (a = b) with e | e
  · exact e ▸ h'
  · exact b_trans (b_lt h e) h'
theorem b_of_lt {a b : Bytes} (h : a < b) : a ≤ b := b_le.2 fun h' => b_irrefl _ (b_trans h h')
end Go.Proofs.Ytkdbapbmbhmaiaa

/- The deck of numbers: what New, Next, Within and Word do. -/
namespace Go.Proofs.Ytkdbapbmbhmaiaa
open Go.RowKit

/-! ### Worlds -/
theorem grownBy_refl (w : World) (r : Option Nat) : w.grownBy w r := ⟨rfl, rfl, rfl, Nat.le_refl _, fun _ _ _ => rfl⟩
theorem grownBy_trans {a b c : World} {r : Option Nat} (h : a.grownBy b r) (k : b.grownBy c r) : a.grownBy c r :=
  ⟨k.os.trans h.os, k.tape.trans h.tape, k.output.trans h.output, Nat.le_trans h.size k.size,
    fun i hi hn => (k.block i (Nat.lt_of_lt_of_le hi h.size) hn).trans (h.block i hi hn)⟩
theorem grownBy_some {a b : World} (h : a.grownBy b none) (r : Option Nat) : a.grownBy b r :=
  ⟨h.os, h.tape, h.output, h.size, fun i hi _ => h.block i hi (by simp)⟩
/-- Two steps, the second into a block that the first has made. -/
theorem grownBy_new {a b c : World} {r : Option Nat} {g : Nat} (h : a.grownBy b r) (k : b.grownBy c (some g)) (hg : a.heap.size ≤ g) : a.grownBy c r :=
  ⟨k.os.trans h.os, k.tape.trans h.tape, k.output.trans h.output, Nat.le_trans h.size k.size,
    fun i hi hn => (k.block i (Nat.lt_of_lt_of_le hi h.size) (by simp; omega)).trans (h.block i hi hn)⟩
theorem grownBy_drew {a b : World} {r : Option Nat} (h : a.grownBy b r) : a.grownBy b.drew r := ⟨h.os, h.tape, h.output, h.size, h.block⟩
theorem grownBy_drewN {a b : World} {r : Option Nat} (h : a.grownBy b r) (n : Nat) : a.grownBy (b.drewN n) r := ⟨h.os, h.tape, h.output, h.size, h.block⟩
theorem grownBy_new_block {a b : World} {r : Option Nat} (h : a.grownBy b r) (o : Obj) : a.grownBy (b.alloc o) r := grownBy_trans h (World.grownBy_alloc b o r)
theorem grownBy_set {a b : World} {g : Nat} (h : a.grownBy b (some g)) (o : Nat) (v : Value) : a.grownBy (b.setCell ⟨g, o, none⟩ v) (some g) :=
  grownBy_trans h ⟨rfl, rfl, rfl, by simp [World.setCell], fun i _ hn => Below.heap_setCell _ _ _ _ (by simpa using hn)⟩
theorem grownBy_setNew {a b : World} {r : Option Nat} (h : a.grownBy b r) {p : Addr} (hp : a.heap.size ≤ p.block) (v : Value) : a.grownBy (b.setCell p v) r :=
  ⟨h.os, h.tape, h.output, by have := h.size; simpa [World.setCell] using this, fun i hi hn => (Below.heap_setCell _ _ _ _ (by omega)).trans (h.block i hi hn)⟩
theorem below_of_grown {a b : World} (h : a.grownBy b none) : Below a.heap.size a b := ⟨h.os, h.tape, h.output, h.size, fun i hi => h.block i hi (by simp)⟩
theorem grownBy_cells {a b : World} {r : Option Nat} (h : a.grownBy b r) : (∀ k o, k < a.heap.size → some k ≠ r → b.cell? ⟨k, o, none⟩ = a.cell? ⟨k, o, none⟩) ∧ (∀ k o, k < a.heap.size → some k ≠ r → b.frozen? ⟨k, o, none⟩ = a.frozen? ⟨k, o, none⟩) :=
  ⟨fun k _ hk hn => World.cell?_of_block (h.block k hk hn), fun k _ hk hn => World.frozen?_of_block (h.block k hk hn)⟩

theorem heap_set {w : World} {b o : Nat} {c : Array Value} {t : TypeId} {f : Nat × Nat} (v : Value) (h : w.heap[b]? = some (.cells c t f)) :
    (w.setCell ⟨b, o, none⟩ v).heap[b]? = some (.cells (c.setIfInBounds o v) t f) := by
  simp [World.setCell, Array.getElem?_modify, h]

/-! ### Slices that are read -/
/-- 'v' is a slice of n elements whose cells, one behind the other, are xs. -/
def Rd (w : World) (size : Nat) (v : Value) (n : Nat) (xs : List Value) : Prop :=
  xs.length = n * size ∧ n ≤ 9223372036854775807 ∧ ((n = 0 ∧ ∃ a cap, v = .slice a 0 cap) ∨
    ∃ g off cap, v = .slice (some ⟨g, off, none⟩) n cap ∧ g < w.heap.size ∧ ∀ j u, xs[j]? = some u → w.cell? ⟨g, off + j, none⟩ = some u)
/-- It does not lie in block b. -/
def NotIn (v : Value) (b : Nat) : Prop := ∀ a n c, v = .slice (some a) n c → a.block ≠ b
theorem Rd.kept {w w' : World} {size : Nat} {v : Value} {n : Nat} {xs : List Value} {r : Option Nat} (h : Rd w size v n xs) (hg : w.grownBy w' r) (hr : ∀ b, r = some b → NotIn v b) : Rd w' size v n xs := by
  obtain ⟨h1, h0, h2⟩ := h
  refine ⟨h1, h0, ?_⟩
  rcases h2 with h2 | ⟨g, off, cap, hv, hlt, hc⟩
  · exact .inl h2
  · refine .inr ⟨g, off, cap, hv, Nat.lt_of_lt_of_le hlt hg.size, fun j u hu => ?_⟩
    rw [World.cell?_of_block (a := ⟨g, off + j, none⟩) (hg.block g hlt ?_)]
    · exact hc j u hu
    · intro e; exact hr g e.symm _ _ _ hv rfl
theorem Rd.kept0 {w w' : World} {size : Nat} {v : Value} {n : Nat} {xs : List Value} {r : Option Nat} (h : Rd w size v n xs) (hg : w.grownBy w' r) (hr : 0 < n → ∀ b, r = some b → NotIn v b) : Rd w' size v n xs := by
  rcases Nat.eq_zero_or_pos n with h0 | h0
  · rcases h.2.2 with ⟨_, a, cap, rfl⟩ | ⟨g, off, cap, rfl, _⟩
    · exact ⟨h.1, h.2.1, .inl ⟨h0, a, cap, rfl⟩⟩
    · exact ⟨h.1, h.2.1, .inl ⟨h0, some ⟨g, off, none⟩, cap, by rw [h0]⟩⟩
  · exact h.kept hg (hr h0)
theorem Rd.same {w w' : World} {size : Nat} {v : Value} {n : Nat} {xs : List Value} (h : Rd w size v n xs) (hg : w.grownBy w' none) : Rd w' size v n xs :=
  h.kept hg (by simp)

/-! ### The deck -/
theorem within_num (x n : Int) (h : 0 < n) : (x.tmod n + n) % n = x % n := by
  have h1 : x.tmod n = if 0 ≤ x ∨ n ∣ x then x % n else x % n - n := by
    rw [Int.tmod_eq_emod]; split
    · simp
    · have : (n.natAbs : Int) = n := by omega
      rw [this]
  rw [h1]
  split
  · rw [Int.add_emod_right, Int.emod_emod]
  · rw [show x % n - n + n = x % n from by omega, Int.emod_emod]

theorem within_tmod (x n : Int) (h : 0 < n) : -n < x.tmod n ∧ x.tmod n < n := by
  have h1 : x.tmod n = if 0 ≤ x ∨ n ∣ x then x % n else x % n - n := by
    rw [Int.tmod_eq_emod]; split
    · simp
    · have : (n.natAbs : Int) = n := by omega
      rw [this]
  have a := Int.emod_nonneg x (show n ≠ 0 by omega)
  have b := Int.emod_lt_of_pos x h
  rw [h1]; split <;> omega

set_option maxHeartbeats 400000 in
theorem within_c (x n : Int) (w : World) (h0 : 0 < n) (h1 : n ≤ 4611686018427387904) :
    Calls Try.prog 31 #[.int .i64 x, .int .i64 n] w fun e w' => e = .returned (.int .i64 (x % n)) ∧ w = w' := by
  have H := Lib.hid (within_num x n h0)
  obtain ⟨ha, hb⟩ := within_tmod x n h0
  go_enter Try.func31, Try.ntmps31
  go_wp2
  go_ret
  exact ⟨congrArg (fun i => Ending.returned (Value.int IntKind.i64 i)) H.out, rfl⟩

/-- Block b holds a deck; it and its numbers lie below block B. -/
def Deck (B : Nat) (w : World) (b : Nat) : Prop :=
  ∃ sv, ∃ xs : List Int, ∃ k n : Nat, w.heap[b]? = some (.cells #[sv, .int .i64 k] 54) ∧ k ≤ n ∧ Rd w 1 sv n (xs.map (fun x => Value.int .i64 x)) ∧ (0 < n → NotIn sv b) ∧ b < B ∧ (0 < n → ∀ a n c, sv = .slice (some a) n c → a.block < B)
theorem Deck.lt {B : Nat} {w : World} {b : Nat} (h : Deck B w b) : b < w.heap.size := by
  obtain ⟨_, _, _, _, h, _⟩ := h; exact (Array.getElem?_eq_some_iff.1 h).1
theorem Deck.below {B : Nat} {w : World} {b : Nat} (h : Deck B w b) : b < B := by
  obtain ⟨_, _, _, _, _, _, _, _, h, _⟩ := h; exact h
theorem Deck.kept {B : Nat} {w w' : World} {b : Nat} {r : Option Nat} (h : Deck B w b) (hg : w.grownBy w' r) (hr : ∀ c, r = some c → B ≤ c) : Deck B w' b := by
  have hlt := h.lt
  obtain ⟨sv, xs, k, n, h1, h3, h4, h5, h6, h7⟩ := h
  refine ⟨sv, xs, k, n, (hg.block b hlt (fun e => by have := hr _ e.symm; omega)).trans h1, h3, h4.kept0 hg ?_, h5, h6, h7⟩
  intro h0 c hc a n' c' hv
  have h8 := hr c hc
  have h9 := h7 h0 _ _ _ hv
  omega
theorem Deck.alloc {B : Nat} {w : World} {b : Nat} (h : Deck B w b) (o : Obj) : Deck B (w.alloc o) b := h.kept (World.grownBy_alloc w o none) (by simp)

def NextPost (B b : Nat) (m : Int) (w : World) (e : Ending) (w' : World) : Prop :=
  ∃ r, e = .returned (.int .i64 r) ∧ 0 ≤ r ∧ r < m ∧ Deck B w' b ∧ w.grownBy w' (some b)

set_option maxHeartbeats 400000 in
theorem next_c {B : Nat} (b : Nat) (m : Int) (w : World) (hd : Deck B w b) (h0 : 0 < m) (h1 : m ≤ 4611686018427387904) :
    Calls Try.prog 14 #[.pointer (some ⟨b, 0, none⟩), .int .i64 m] w (NextPost B b m w) := by
  have Hd := Lib.hid hd
  obtain ⟨sv, xs, k, n, hb, hk1, hr, hni, hbB, hnB⟩ := hd
  have hn63 := hr.2.1
  have hsv : ∃ a cap, sv = .slice a n cap := by
    rcases hr.2.2 with ⟨rfl, a, cap, rfl⟩ | ⟨g, off, cap, rfl, _⟩
    · exact ⟨_, _, rfl⟩
    · exact ⟨_, _, rfl⟩
  obtain ⟨a, cap, rfl⟩ := hsv
  have c0 : w.cell? ⟨b, 0, none⟩ = some (.slice a n cap) := by simp [World.cell?, hb]
  have c1 : w.cell? ⟨b, 1, none⟩ = some (.int .i64 k) := by simp [World.cell?, hb]
  have f1 : w.frozen? ⟨b, 1, none⟩ = false := by simp [World.frozen?, hb]
  by_cases hlt : k < n
  · rcases hr.2.2 with ⟨h0, _⟩ | ⟨g, off, cap', hv, hg, hc⟩
    · omega
    cases hv
    have hgb : g ≠ b := hni (by omega) _ _ _ rfl
    have hlen : xs.length = n := by simpa using hr.1
    have cx : w.cell? ⟨g, off + k, none⟩ = some (.int .i64 (xs.getD k 0)) := by
      refine hc k _ ?_
      rw [List.getElem?_map, List.getElem?_eq_getElem (by omega)]
      simp [List.getD_eq_getElem?_getD, List.getElem?_eq_getElem (show k < xs.length by omega)]
    generalize xs.getD k 0 = x at cx
    have hr0 := Int.emod_nonneg x (show m ≠ 0 by omega)
    have hr1 := Int.emod_lt_of_pos x h0
    have Hb := Lib.hid hb
    have Hr := Lib.hid hr
    have HnB := Lib.hid hnB
    clear hb hr hc hlen hni hnB
    go_enter Try.func14, Try.ntmps14
    go_wp2
    go_quiet (fail)
    obtain ⟨n1, rfl⟩ : ∃ n1, n1 = nq := ⟨_, rfl⟩
    go_wp2
    have hwr : IntKind.i64.wrap (k : Int) = k := IntWalk.i64_in _ (by omega)
    go_quiet ((go_at_call 31; exact Calls.quiet_of_same ((within_c _ _ _ h0 h1).mono fun _ _ ⟨he, hw⟩ => ⟨he, hw.symm⟩)))
    clear hwr
    go_wp2
    go_ret
    have G : w.grownBy (((w.drewN n1).setCell ⟨b, 1, none⟩ (.int .i64 ((k : Int) + 1))).drewN nq) (some b) := grownBy_drewN (grownBy_set (grownBy_drewN (grownBy_refl w _) _) _ _) _
    refine ⟨x % m, rfl, hr0, hr1, ⟨_, xs, k + 1, n, ?_, hlt, Hr.out.kept G ?_, ?_, hbB, HnB.out⟩, G⟩
    · exact heap_set _ Hb.out
    · intro c hc; cases hc; intro a n' c' hv; cases hv; exact hgb
    · intro _ a n' c' hv; cases hv; exact hgb
  · have hle : n ≤ k := by omega
    clear hlt
    have Hb := Lib.hid hb
    have Hr := Lib.hid hr
    clear hb hr hnB
    go_enter Try.func14, Try.ntmps14
    go_wp2
    go_quiet (fail)
    go_wp2
    go_ret
    exact ⟨0, rfl, Int.le_refl _, h0, Hd.out.kept (grownBy_drewN (grownBy_refl w none) _) (by simp), grownBy_drewN (grownBy_refl w _) _⟩
end Go.Proofs.Ytkdbapbmbhmaiaa

/- What functions leave: numbers and truths, the memory only grown. -/
namespace Go.Proofs.Ytkdbapbmbhmaiaa
open Go.RowKit

def RetInt (k : Int) (w : World) (e : Ending) (w' : World) : Prop := e = .returned (.int .i64 k) ∧ w.grownBy w' none
def RetBool (b : Bool) (w : World) (e : Ending) (w' : World) : Prop := e = .returned (.bool b) ∧ w.grownBy w' none
theorem retInt {k k' : Int} {w w' : World} (h : k = k') (hg : w.grownBy w' none) : RetInt k w (.returned (.int .i64 k')) w' := ⟨by rw [h], hg⟩
theorem retBool {k k' : Bool} {w w' : World} (h : k = k') (hg : w.grownBy w' none) : RetBool k w (.returned (.bool k')) w' := ⟨by rw [h], hg⟩
def RetTwo (k m : Int) (w : World) (e : Ending) (w' : World) : Prop := e = .returned (.tuple #[.int .i64 k, .int .i64 m]) ∧ w.grownBy w' none
theorem retTwo {k k' m m' : Int} {w w' : World} (h : k = k') (h' : m = m') (hg : w.grownBy w' none) : RetTwo k m w (.returned (.tuple #[.int .i64 k', .int .i64 m'])) w' := ⟨by rw [h, h'], hg⟩
/-- A number of 64 bits without sign. -/
def RetWord (k : Int) (w : World) (e : Ending) (w' : World) : Prop := e = .returned (.int .u64 k) ∧ w.grownBy w' none
theorem retWord {k k' : Int} {w w' : World} (h : k = k') (hg : w.grownBy w' none) : RetWord k w (.returned (.int .u64 k')) w' := ⟨by rw [h], hg⟩
/-- Whatever value. -/
def RetVal (v : Value) (w : World) (e : Ending) (w' : World) : Prop := e = .returned v ∧ w.grownBy w' none
theorem retVal {v v' : Value} {w w' : World} (h : v = v') (hg : w.grownBy w' none) : RetVal v w (.returned v') w' := ⟨by rw [h], hg⟩
end Go.Proofs.Ytkdbapbmbhmaiaa

/- Sums of weights that do not wrap. -/
namespace Go.Proofs.Ytkdbapbmbhmaiaa
open Go.RowKit

/-- A number of 64 bits. -/
def W64 (n : Int) : Prop := 0 ≤ n ∧ n ≤ 18446744073709551615
theorem w64_wf {n : Int} (h : (Lit.int .u64 n).wf = true) : W64 n := by have := bounds_u64 h; unfold W64; omega
theorem w64_of {n : Int} (h0 : 0 ≤ n) (h1 : n ≤ 18446744073709551615) : W64 n := ⟨h0, h1⟩
def most64 : Int := 18446744073709551615
def satA (a b : Int) : Int := if a + b ≤ 18446744073709551615 then a + b else 18446744073709551615
def fitA (a b : Int) : Bool := decide (a + b ≤ 18446744073709551615)
def RetWordBool (k : Int) (b : Bool) (w : World) (e : Ending) (w' : World) : Prop := e = .returned (.tuple #[.int .u64 k, .bool b]) ∧ w = w'
theorem retWB {k k' : Int} {b b' : Bool} {w : World} (h : k = k') (hb : b = b') : RetWordBool k b w (.returned (.tuple #[.int .u64 k', .bool b'])) w := ⟨by rw [h, hb], rfl⟩
theorem satA_w {a b : Int} (ha : W64 a) (hb : W64 b) : W64 (satA a b) := by unfold W64 satA at *; split <;> omega
def sumA (a b : Int) : Int := (a + b + 0) % 18446744073709551616
def carA (a b : Int) : Int := (a + b + 0) / 18446744073709551616
theorem sumA_fit {a b : Int} (ha : W64 a) (hb : W64 b) (h : fitA a b = true) : sumA a b = satA a b ∧ (carA a b != 0) = false := by
  unfold W64 fitA sumA satA carA at *; simp only [decide_eq_true_eq] at h
  rw [if_pos h, bne_eq_false_iff_eq]; omega
theorem sumA_not {a b : Int} (_ : W64 a) (_ : W64 b) (h : fitA a b = false) : satA a b = 18446744073709551615 ∧ (carA a b != 0) = true := by
  unfold W64 fitA satA carA at *; simp only [decide_eq_false_iff_not] at h
  rw [if_neg h, bne_iff_ne]; omega

theorem call_add64 (a b : Int) (ha : W64 a) (hb : W64 b) (w : World) : (callFunc 37 #[.int .u64 a, .int .u64 b, .int .u64 0]).run Try.prog w = .ok (.value (.tuple #[.int .u64 (sumA a b), .int .u64 (carA a b)])) w := by
  rw [run_callFunc_extern (e := add64Entry) Try.func37 (by kernel_rfl) (by kernel_rfl) (by kernel_rfl) (by kernel_rfl), run_add64 a b 0 ha.1 hb.1 (by omega) (by omega)]
  rfl

set_option maxHeartbeats 400000 in
theorem satAdd_c (a b : Int) (w : World) (ha : W64 a) (hb : W64 b) : Calls Try.prog 21 #[.int .u64 a, .int .u64 b] w (RetWordBool (satA a b) (fitA a b) w) := by
  have hc := call_add64 a b ha hb
  cases hf : fitA a b
  · obtain ⟨h1, h2⟩ := sumA_not ha hb hf
    have H1 := Lib.hid h1
    clear h1 hf ha hb
    go_enter Try.func21, Try.ntmps21
    go_wp2
    go_ret2
    exact retWB H1.out rfl
  · obtain ⟨h1, h2⟩ := sumA_fit ha hb hf
    have H1 := Lib.hid h1
    clear h1 hf ha hb
    go_enter Try.func21, Try.ntmps21
    go_wp2
    go_ret2
    exact retWB H1.out.symm rfl

theorem le_fit (a b : Int) : decide (18446744073709551615 - b < a) = !fitA a b := by
  unfold fitA; rw [Bool.eq_iff_iff]; simp; omega

set_option maxHeartbeats 400000 in
theorem radd_c (a b : Int) (w : World) (ha : W64 a) (hb : W64 b) : Calls Try.prog 42 #[.int .u64 a, .int .u64 b] w (RetWordBool (satA a b) (fitA a b) w) := by
  have hw : IntKind.u64.wrap (18446744073709551615 - b) = 18446744073709551615 - b := IntWalk.u64_in _ (by unfold W64 at *; omega)
  have hl := le_fit a b
  cases hf : fitA a b
  · obtain ⟨h1, h2⟩ := sumA_not ha hb hf
    have H1 := Lib.hid h1
    rw [hf] at hl
    clear h1 h2 hf ha hb
    go_enter Try.func42, Try.ntmps42
    go_wp2
    go_ret2
    exact retWB H1.out rfl
  · obtain ⟨h1, h2⟩ := sumA_fit ha hb hf
    have h3 : satA a b = a + b := by unfold satA; unfold fitA at hf; rw [if_pos (of_decide_eq_true hf)]
    have hw2 : IntKind.u64.wrap (a + b) = a + b := by rw [← h3]; have := satA_w ha hb; exact IntWalk.u64_in _ (by unfold W64 at this; omega)
    have H3 := Lib.hid h3
    rw [hf] at hl
    clear h1 h2 h3 hf ha hb
    go_enter Try.func42, Try.ntmps42
    go_wp2
    go_ret2
    exact retWB H3.out rfl
theorem rsum_c (a b : Int) (w : World) (ha : W64 a) (hb : W64 b) : Calls Try.prog 25 #[.int .u64 a, .int .u64 b] w (fun e w' => e = .returned (.int .u64 (satA a b)) ∧ w = w') := by
  go_enter Try.func25, Try.ntmps25
  go_wp2_with (go_at_call 42; refine (radd_c a b _ ha hb).mono ?_; rintro e w' ⟨rfl, rfl⟩)
  go_ret
  exact ⟨rfl, rfl⟩
end Go.Proofs.Ytkdbapbmbhmaiaa

/- The weights of keys: plain laws on lists of keys with their weights, in ascending order, and on maps that read so. -/
namespace Go.Proofs.Ytkdbapbmbhmaiaa
open Go.RowKit Go.Maps

abbrev KW := Bytes × Int
/-- The weight of a key in a list. -/
def ctAt : List KW → Bytes → Int
  | [], _ => 0
  | p :: L, w => if p.1 = w then p.2 else ctAt L w
def ctHas : List KW → Bytes → Bool
  | [], _ => false
  | p :: L, w => decide (p.1 = w) || ctHas L w
/-- The place of a key. -/
def ctK : List KW → Bytes → Nat
  | [], _ => 0
  | p :: L, w => if p.1 < w then ctK L w + 1 else 0
/-- A weight is added to a key. -/
def ctPut : List KW → Bytes → Int → List KW
  | [], w, n => [(w, satA 0 n)]
  | p :: L, w, n => if p.1 < w then p :: ctPut L w n else if p.1 = w then (w, satA p.2 n) :: L else (w, satA 0 n) :: p :: L
/-- The keys ascend. -/
def AscB (L : List KW) : Prop := L.Pairwise (fun p q => p.1 < q.1)

theorem b_ne {a b : Bytes} (h : a < b) : a ≠ b := fun e => b_irrefl a (by rw [e] at h ⊢; exact h)
theorem b_gt {a b : Bytes} (h : ¬ a < b) (hne : a ≠ b) : b < a := b_lt (b_le.2 h) fun e => hne e.symm
theorem ctHas_gt {w : Bytes} : ∀ {L : List KW}, (∀ q ∈ L, w < q.1) → ctHas L w = false
  | [], _ => rfl
  | p :: L, h => by
    have := b_ne (h p (by simp))
    simp only [ctHas, ctHas_gt fun q hq => h q (List.mem_cons_of_mem p hq), Bool.or_false, decide_eq_false_iff_not]
    exact fun e => this e.symm
theorem ctAt_no {w : Bytes} : ∀ {L : List KW}, ctHas L w = false → ctAt L w = 0
  | [], _ => rfl
  | p :: L, h => by
    simp only [ctHas, Bool.or_eq_false_iff, decide_eq_false_iff_not] at h
    simp only [ctAt]; rw [if_neg h.1]; exact ctAt_no h.2
theorem ctHas_iff {w : Bytes} : ∀ {L : List KW}, ctHas L w = true ↔ w ∈ L.map (·.1)
  | [] => by simp [ctHas]
  | p :: L => by simp only [ctHas, Bool.or_eq_true, decide_eq_true_eq, ctHas_iff (L := L), List.map_cons, List.mem_cons]; constructor <;> (rintro (h | h) <;> simp_all)
theorem ctAt_gt {w : Bytes} {L : List KW} (h : ∀ q ∈ L, w < q.1) : ctAt L w = 0 := ctAt_no (ctHas_gt h)
theorem ascB_cons {p : KW} {L : List KW} (h : AscB (p :: L)) : (∀ q ∈ L, p.1 < q.1) ∧ AscB L := List.pairwise_cons.1 h
theorem gt_all {p : KW} {L : List KW} {w : Bytes} (h1 : ∀ q ∈ L, p.1 < q.1) (hp : w < p.1) : ∀ q ∈ p :: L, w < q.1 := fun q hq => by
  rcases List.mem_cons.1 hq with rfl | hq
  · exact hp
  · exact b_trans hp (h1 q hq)
theorem ctAt_put {w v : Bytes} {n : Int} : ∀ {L : List KW}, AscB L → ctAt (ctPut L w n) v = if v = w then satA (ctAt L w) n else ctAt L v
  | [], _ => by
    simp only [ctPut, ctAt]
    by_cases h : v = w
    · rw [if_pos h, if_pos h.symm]
    · rw [if_neg h, if_neg fun e => h e.symm]
  | p :: L, hA => by
    obtain ⟨h1, h2⟩ := ascB_cons hA
    simp only [ctPut]
    by_cases a : p.1 < w
    · rw [if_pos a]
      simp only [ctAt]
      rw [ctAt_put h2]
      by_cases b : v = w
      · rw [if_pos b, if_pos b, if_neg (fun e => b_ne a (e.trans b)), if_neg (b_ne a)]
      · rw [if_neg b, if_neg b]
    · rw [if_neg a]
      by_cases c : p.1 = w
      · rw [if_pos c]
        simp only [ctAt]
        by_cases b : v = w
        · rw [if_pos b, if_pos b.symm, if_pos c]
        · rw [if_neg b, if_neg fun e => b e.symm, if_neg fun e => b (e.symm.trans c)]
      · rw [if_neg c]
        have hz : ctAt (p :: L) w = 0 := ctAt_gt (gt_all h1 (b_gt a c))
        by_cases b : v = w
        · rw [if_pos b, hz]; simp only [ctAt]; rw [if_pos b.symm]
        · rw [if_neg b]
          show (if w = v then satA 0 n else ctAt (p :: L) v) = _
          rw [if_neg fun e => b e.symm]
theorem ctHas_put {w v : Bytes} {n : Int} : ∀ {L : List KW}, ctHas (ctPut L w n) v = (decide (v = w) || ctHas L v)
  | [] => by
    have : (w = v) = (v = w) := propext ⟨Eq.symm, Eq.symm⟩
    simp only [ctPut, ctHas, this]
  | p :: L => by
    have e : (w = v) = (v = w) := propext ⟨Eq.symm, Eq.symm⟩
    simp only [ctPut]
    by_cases a : p.1 < w
    · rw [if_pos a]; simp only [ctHas, ctHas_put (L := L)]
      cases decide (p.1 = v) <;> cases decide (v = w) <;> rfl
    · rw [if_neg a]
      by_cases c : p.1 = w
      · rw [if_pos c]; simp only [ctHas, e, c]
        cases decide (v = w) <;> rfl
      · rw [if_neg c]; simp only [ctHas, e]
theorem mem_ctPut {w : Bytes} {n : Int} {q : KW} : ∀ {L : List KW}, q ∈ ctPut L w n → q.1 = w ∨ q ∈ L
  | [], h => by simp [ctPut] at h; exact .inl (by rw [h])
  | p :: L, h => by
    simp only [ctPut] at h
    by_cases a : p.1 < w
    · rw [if_pos a] at h
      rcases List.mem_cons.1 h with rfl | h
      · exact .inr (by simp)
      · exact (mem_ctPut h).imp id fun h => List.mem_cons_of_mem p h
    · rw [if_neg a] at h
      by_cases c : p.1 = w
      · rw [if_pos c] at h
        rcases List.mem_cons.1 h with rfl | h
        · exact .inl rfl
        · exact .inr (List.mem_cons_of_mem p h)
      · rw [if_neg c] at h
        rcases List.mem_cons.1 h with rfl | h
        · exact .inl rfl
        · exact .inr h
theorem ascB_put {w : Bytes} {n : Int} : ∀ {L : List KW}, AscB L → AscB (ctPut L w n)
  | [], _ => by simp [ctPut, AscB]
  | p :: L, hA => by
    obtain ⟨h1, h2⟩ := ascB_cons hA
    simp only [ctPut]
    by_cases a : p.1 < w
    · rw [if_pos a]
      refine List.pairwise_cons.2 ⟨fun q hq => ?_, ascB_put h2⟩
      rcases mem_ctPut hq with h | h
      · rw [h]; exact a
      · exact h1 q h
    · rw [if_neg a]
      by_cases c : p.1 = w
      · rw [if_pos c]
        exact List.pairwise_cons.2 ⟨fun q hq => by rw [← c]; exact h1 q hq, h2⟩
      · rw [if_neg c]
        exact List.pairwise_cons.2 ⟨gt_all h1 (b_gt a c), hA⟩
theorem ctPut_len {w : Bytes} {n : Int} : ∀ {L : List KW}, (ctPut L w n).length ≤ L.length + 1
  | [] => by simp [ctPut]
  | p :: L => by
    have := ctPut_len (w := w) (n := n) (L := L)
    simp only [ctPut]
    split
    · simp; omega
    · split <;> simp
theorem ctK_le {w : Bytes} : ∀ {L : List KW}, ctK L w ≤ L.length
  | [] => Nat.le_refl _
  | p :: L => by
    simp only [ctK]; split
    · have := ctK_le (w := w) (L := L); simp; exact this
    · simp
/-- The place of a key, found by a loop. -/
theorem ctK_of {w : Bytes} : ∀ {L : List KW} {k : Nat}, k ≤ L.length → (∀ (j : Nat) (p : KW), j < k → L[j]? = some p → p.1 < w) → (∀ p : KW, L[k]? = some p → ¬ p.1 < w) → ctK L w = k
  | [], k, hk, _, _ => by simp at hk; subst hk; rfl
  | p :: L, 0, _, _, h => by simp only [ctK]; rw [if_neg (h p rfl)]
  | p :: L, k + 1, hk, h1, h2 => by
    simp only [ctK]
    rw [if_pos (h1 0 p (by omega) rfl), ctK_of (L := L) (k := k) (by simpa using hk) (fun j q hj hq => h1 (j + 1) q (by omega) (by simpa using hq)) (fun q hq => h2 q (by simpa using hq))]
theorem ctK_lt {w : Bytes} : ∀ {L : List KW} {j : Nat} {p : KW}, j < ctK L w → L[j]? = some p → p.1 < w
  | [], j, p, h, _ => by simp [ctK] at h
  | q :: L, 0, p, h, hp => by
    simp at hp; subst hp
    simp only [ctK] at h; split at h
    · assumption
    · omega
  | q :: L, j + 1, p, h, hp => by
    simp only [ctK] at h; split at h
    · exact ctK_lt (L := L) (j := j) (by omega) (by simpa using hp)
    · omega
/-- The key is there just if it stands at its place. -/
theorem ctHas_at {w : Bytes} : ∀ {L : List KW}, AscB L → (ctHas L w = true ↔ L[ctK L w]? = some (w, ctAt L w))
  | [], _ => by simp [ctHas]
  | p :: L, hA => by
    obtain ⟨h1, h2⟩ := ascB_cons hA
    simp only [ctHas, ctK, ctAt]
    by_cases a : p.1 < w
    · rw [if_pos a, if_neg (b_ne a)]
      simp only [List.getElem?_cons_succ, ← ctHas_at h2, Bool.or_eq_true, decide_eq_true_eq]
      constructor
      · rintro (h | h)
        · exact absurd h (b_ne a)
        · exact h
      · exact .inr
    · rw [if_neg a]
      by_cases c : p.1 = w
      · rw [if_pos c]
        simp only [c, decide_true, Bool.true_or, List.getElem?_cons_zero, true_iff, Option.some.injEq]
        rw [← c]
      · rw [if_neg c]
        rw [show decide (p.1 = w) = false from decide_eq_false c, ctHas_gt fun q hq => b_trans (b_gt a c) (h1 q hq)]
        simp only [Bool.or_self, Bool.false_eq_true, List.getElem?_cons_zero, Option.some.injEq, false_iff]
        intro e; exact c (by rw [e])
theorem ctHas_no {w : Bytes} {L : List KW} (hA : AscB L) {p : KW} (hp : L[ctK L w]? = some p) (hne : p.1 ≠ w) : ctHas L w = false := by
  cases h : ctHas L w with
  | false => rfl
  | true =>
    rw [(ctHas_at hA).1 h] at hp
    cases hp; exact absurd rfl hne
theorem ctHas_end {w : Bytes} {L : List KW} (hA : AscB L) (hk : ctK L w = L.length) : ctHas L w = false := by
  cases h : ctHas L w with
  | false => rfl
  | true =>
    have := (ctHas_at hA).1 h
    rw [hk] at this; simp at this
theorem ctHas_yes {w : Bytes} {L : List KW} {k : Nat} {p : KW} (h : L[k]? = some p) (e : p.1 = w) : ctHas L w = true := by
  rw [ctHas_iff]
  exact List.mem_map.2 ⟨p, List.mem_of_getElem? h, e⟩
theorem ctPut_no {w : Bytes} {n : Int} : ∀ {L : List KW}, AscB L → ctHas L w = false → ctPut L w n = L.take (ctK L w) ++ [(w, satA 0 n)] ++ L.drop (ctK L w)
  | [], _, _ => rfl
  | p :: L, hA, h => by
    obtain ⟨h1, h2⟩ := ascB_cons hA
    simp only [ctHas, Bool.or_eq_false_iff, decide_eq_false_iff_not] at h
    simp only [ctPut, ctK]
    by_cases a : p.1 < w
    · rw [if_pos a, if_pos a, ctPut_no h2 h.2]; rfl
    · rw [if_neg a, if_neg a, if_neg h.1]; rfl
theorem ctPut_yes {w : Bytes} {n : Int} : ∀ {L : List KW}, AscB L → ctHas L w = true → ctPut L w n = L.set (ctK L w) (w, satA (ctAt L w) n)
  | [], _, h => by simp [ctHas] at h
  | p :: L, hA, h => by
    obtain ⟨h1, h2⟩ := ascB_cons hA
    simp only [ctPut, ctK, ctAt]
    by_cases a : p.1 < w
    · simp only [ctHas, show decide (p.1 = w) = false from decide_eq_false (b_ne a), Bool.false_or] at h
      rw [if_pos a, if_pos a, if_neg (b_ne a), ctPut_yes h2 h]; rfl
    · rw [if_neg a, if_neg a]
      by_cases c : p.1 = w
      · rw [if_pos c, if_pos c]; rfl
      · exfalso
        rw [ctHas_gt (gt_all h1 (b_gt a c))] at h
        cases h

/-! ### The map -/
structure CntD {H : Type} (D : DataW H) (L : List KW) : Prop where
  has : ∀ k : Bytes, Maps.has D (.string k) = ctHas L k
  at_ : ∀ k : Bytes, D.atKey (.string k) (.lit (.int .u64 0)) = .lit (.int .u64 (ctAt L k))
section
variable {H : Type} {D : DataW H} {L : List KW}
theorem CntD.nil : CntD (.map [] : DataW H) [] := ⟨fun _ => rfl, fun _ => rfl⟩
theorem litS_ne {k v : Bytes} (h : k ≠ v) : (Lit.string k) ≠ .string v := fun e => by cases e; exact h rfl
theorem CntD.put (h : CntD D L) (hA : AscB L) (hD : IsMap D) {w : Bytes} {n : Int} (hk : WideAt.IsKeyLit (.string w)) : CntD (D.put (.string w) (.lit (.int .u64 (satA (ctAt L w) n)))) (ctPut L w n) := by
  constructor
  · intro k
    rw [ctHas_put]
    by_cases e : k = w
    · subst e; rw [has_put_same hD hk]; simp
    · rw [has_put_other (litS_ne e), h.has]; simp [e]
  · intro k
    rw [ctAt_put hA]
    by_cases e : k = w
    · subst e; rw [atKey_put_same hD hk, if_pos rfl]
    · rw [atKey_put_other (litS_ne e), h.at_, if_neg e]
theorem ascB_nodup {L : List KW} (h : AscB L) : (L.map (·.1)).Nodup := by
  unfold List.Nodup
  rw [List.pairwise_map]
  exact h.imp fun h => b_ne h
theorem ascB_sorted {L : List KW} (h : AscB L) : (L.map (·.1)).Pairwise (fun x y : Bytes => decide (x ≤ y) = true) := by
  rw [List.pairwise_map]
  exact h.imp fun h => by simp [b_of_lt h]
end
end Go.Proofs.Ytkdbapbmbhmaiaa

/- Size classes as they are specified: Fit, Classes. -/
namespace Go.Proofs.Ytkdbapbmbhmaiaa
open Go.RowKit

theorem Rd.shape {w : World} {size : Nat} {v : Value} {n : Nat} {xs : List Value} (h : Rd w size v n xs) : ∃ a cap, v = .slice a n cap := by
  rcases h.2.2 with ⟨rfl, a, cap, rfl⟩ | ⟨g, off, cap, rfl, _⟩
  · exact ⟨_, _, rfl⟩
  · exact ⟨_, _, rfl⟩

theorem Rd.blockLt {w : World} {size : Nat} {v : Value} {n : Nat} {xs : List Value} (h : Rd w size v n xs) (h0 : 0 < n) : ∀ a n' c, v = .slice (some a) n' c → a.block < w.heap.size := by
  intro a n' c hv
  rcases h.2.2 with ⟨h, _⟩ | ⟨g, off, cap, h, hg, _⟩
  · omega
  · rw [h] at hv; cases hv; exact hg

/-- The cells of a list of elements. -/
def cellsOf {α : Type} (f : α → List Value) (l : List α) : List Value := l.flatMap f

theorem length_cellsOf {α : Type} (f : α → List Value) (s : Nat) (hs : ∀ x, (f x).length = s) (l : List α) : (cellsOf f l).length = l.length * s := by
  induction l with
  | nil => simp [cellsOf]
  | cons x l ih => simp only [cellsOf, List.flatMap_cons, List.length_append, List.length_cons] at *; rw [ih, hs, Nat.add_mul]; omega

theorem get_cellsOf {α : Type} (f : α → List Value) (s : Nat) (hs : ∀ x, (f x).length = s) (l : List α) (i j : Nat) (hj : j < s) (x : α) (hx : l[i]? = some x) :
    (cellsOf f l)[i * s + j]? = (f x)[j]? := by
  induction l generalizing i with
  | nil => simp at hx
  | cons y l ih =>
    cases i with
    | zero =>
      simp at hx; subst hx
      simp only [cellsOf, List.flatMap_cons, Nat.zero_mul, Nat.zero_add]
      rw [List.getElem?_append_left (by rw [hs]; exact hj)]
    | succ i =>
      simp only [List.getElem?_cons_succ] at hx
      have := ih i hx
      simp only [cellsOf, List.flatMap_cons] at *
      rw [List.getElem?_append_right (by rw [hs, Nat.add_mul]; omega), hs, ← this]
      congr 1
      rw [Nat.add_mul]; omega

def RdL {α : Type} (f : α → List Value) (s : Nat) (w : World) (v : Value) (l : List α) : Prop := Rd w s v l.length (cellsOf f l)

theorem RdL.cell {α : Type} {f : α → List Value} {s : Nat} {w : World} {v : Value} {l : List α} (h : RdL f s w v l) (hs : ∀ x, (f x).length = s) (hl : 0 < l.length) :
    ∃ g off cap, v = .slice (some ⟨g, off, none⟩) l.length cap ∧ g < w.heap.size ∧ ∀ i x, l[i]? = some x → ∀ j u, (f x)[j]? = some u → w.cell? ⟨g, off + i * s + j, none⟩ = some u := by
  rcases h.2.2 with ⟨h0, _⟩ | ⟨g, off, cap, rfl, hg, hc⟩
  · omega
  · refine ⟨g, off, cap, rfl, hg, fun i x hx j u hu => ?_⟩
    have hj : j < s := by rw [← hs x]; exact (List.getElem?_eq_some_iff.1 hu).1
    rw [Nat.add_assoc]
    exact hc _ _ ((get_cellsOf f s hs l i j hj x hx).trans hu)

/-- A size class: its size and its count. -/
def clsF (p : Int × Int) : List Value := [.int .i64 p.1, .int .i64 p.2]
theorem clsF_len (p : Int × Int) : (clsF p).length = 2 := rfl

def fit (l : List (Int × Int)) (size : Int) : Option Nat := if 1 ≤ size then l.findIdx? (fun p => decide (size ≤ p.1)) else none
def fitI (l : List (Int × Int)) (size : Int) : Nat := (fit l size).getD 0
def fitE (l : List (Int × Int)) (size : Int) : Int := if (fit l size).isSome then 0 else 1
def FitPost (l : List (Int × Int)) (size : Int) (w : World) (e : Ending) (w' : World) : Prop :=
  e = .returned (.tuple #[.int .i64 (fitI l size : Nat), .int .i64 (fitE l size)]) ∧ w.grownBy w' none
theorem fitI_lt {l : List (Int × Int)} (n : Int) (h : 0 < l.length) : fitI l n < l.length := by
  unfold fitI fit
  split
  · cases hf : l.findIdx? _ with
    | none => simpa using h
    | some k =>
      rw [List.findIdx?_eq_some_iff_getElem] at hf
      obtain ⟨h, _⟩ := hf
      simpa using h
  · simpa using h

theorem fit_none {l : List (Int × Int)} {size : Int} (h : ∀ (j : Nat) (p : Int × Int), l[j]? = some p → p.1 < size) : fit l size = none := by
  unfold fit; split
  · rw [List.findIdx?_eq_none_iff]
    intro x hx
    obtain ⟨i, hi⟩ := List.mem_iff_getElem?.1 hx
    have := h i x hi
    simp; omega
  · rfl
theorem fit_some {l : List (Int × Int)} {size : Int} {k : Nat} {p : Int × Int} (hs : 1 ≤ size) (h : ∀ (j : Nat) (p : Int × Int), j < k → l[j]? = some p → p.1 < size) (hk : l[k]? = some p) (hp : size ≤ p.1) : fit l size = some k := by
  unfold fit; rw [if_pos hs, List.findIdx?_eq_some_iff_getElem]
  obtain ⟨hlt, rfl⟩ := List.getElem?_eq_some_iff.1 hk
  refine ⟨hlt, by simpa using hp, fun j hj => ?_⟩
  have := h j l[j] hj (List.getElem?_eq_getElem _)
  simp; omega

set_option maxHeartbeats 400000 in
theorem fit_c (v : Value) (l : List (Int × Int)) (size : Int) (w : World) (h : RdL clsF 2 w v l) :
    Calls Try.prog 33 #[v, .int .i64 size] w (FitPost l size w) := by
  obtain ⟨a, cap, rfl⟩ := h.shape
  have hm := h.2.1
  by_cases hs : 1 ≤ size
  · go_enter Try.func33, Try.ntmps33
    go_wp2
    go_loopw [12] (fun i wr => ∃ k : Nat, k ≤ l.length ∧ i = .int .i64 k ∧ (∀ j (p : Int × Int), j < k → l[j]? = some p → p.1 < size) ∧ w.grownBy wr none) (fun i _ => l.length - (intOf i).toNat)
    case atStart => exact ⟨0, Nat.zero_le _, rfl, by simp, grownBy_refl _ _⟩
    case round =>
      obtain ⟨k, hk, rfl, hall, hg⟩ := hrel
      by_cases hlt : k < l.length
      · obtain ⟨g, off, cap', hv, hgl, hc⟩ := h.cell clsF_len (by omega)
        cases hv
        obtain ⟨p, hp⟩ : ∃ p, l[k]? = some p := ⟨l[k], List.getElem?_eq_getElem hlt⟩
        have hcell := grownBy_cells hg
        have c0 : wr.cell? ⟨g, off + k * 2, none⟩ = some (.int .i64 p.1) := by rw [hcell.1 _ _ hgl (by simp)]; exact hc k p hp 0 _ rfl
        have c1 : wr.cell? ⟨g, off + k * 2 + 1, none⟩ = some (.int .i64 p.2) := by rw [hcell.1 _ _ hgl (by simp)]; exact hc k p hp 1 _ rfl
        clear hcell hc
        have Hp := Lib.hid hp
        have Hall := Lib.hid hall
        clear hp hall
        by_cases hsz : size ≤ p.1
        · go_wp2
          go_ret2
          have hf := fit_some hs Hall.out Hp.out hsz
          exact ⟨by simp [fitI, fitE, hf], grownBy_new_block hg _⟩
        · go_wp2
          refine ⟨⟨k + 1, by omega, by go_num, ?_, grownBy_new_block hg _⟩, ?_⟩
          · intro j q hj hq
            by_cases e : j = k
            · subst e; rw [Hp.out] at hq; cases hq; omega
            · exact Hall.out j q (by omega) hq
          · simp [intOf]; omega
      · have hk' : k = l.length := by omega
        have hn : fit l size = none := fit_none fun j p hp => hall j p (by rw [hk']; exact (List.getElem?_eq_some_iff.1 hp).1) hp
        have Hn := Lib.hid hn
        have Hk := Lib.hid hk'
        clear hn hall hk'
        go_wp2
        go_ret2
        exact ⟨by simp [fitI, fitE, Hn.out], hg⟩
  · have hn : fit l size = none := by unfold fit; rw [if_neg hs]
    go_enter Try.func33, Try.ntmps33
    have Hn := Lib.hid hn
    clear hn
    go_wp2
    go_ret2
    exact ⟨by simp [fitI, fitE, Hn.out], grownBy_refl _ _⟩
end Go.Proofs.Ytkdbapbmbhmaiaa

/- Size classes that are valid; tables of words. -/
namespace Go.Proofs.Ytkdbapbmbhmaiaa
open Go.RowKit

structure ClsOk (l : List (Int × Int)) : Prop where
  pos : 0 < l.length
  len : l.length ≤ 8
  size : ∀ (i : Nat) (p : Int × Int), l[i]? = some p → 1 ≤ p.1 ∧ p.1 ≤ 4096 ∧ 0 ≤ p.2 ∧ p.2 ≤ 65536
  asc : ∀ (i : Nat) (p q : Int × Int), l[i]? = some p → l[i + 1]? = some q → p.1 < q.1

set_option maxHeartbeats 400000 in
theorem classes_c (v : Value) (l : List (Int × Int)) (w : World) (h : RdL clsF 2 w v l) (hok : ClsOk l) :
    Calls Try.prog 51 #[v] w fun e w' => e = .returned (.int .i64 0) ∧ w.grownBy w' none := by
  obtain ⟨a, cap, rfl⟩ := h.shape
  have hm := h.2.1
  have hp0 : 0 < l.length := hok.pos
  have hp8 : l.length ≤ 8 := hok.len
  have hz : ((l.length : Int) == 0) = false := by rw [beq_eq_false_iff_ne]; omega
  go_enter Try.func51, Try.ntmps51
  go_wp2
  go_loopw [15] (fun i wr => ∃ k : Nat, k ≤ l.length ∧ i = .int .i64 k ∧ w.grownBy wr none) (fun i _ => l.length - (intOf i).toNat)
  case atStart => exact ⟨0, Nat.zero_le _, rfl, grownBy_refl _ _⟩
  case round =>
    obtain ⟨k, hk, rfl, hg⟩ := hrel
    by_cases hlt : k < l.length
    · obtain ⟨g, off, cap', hv, hgl, hc⟩ := h.cell clsF_len (by omega)
      cases hv
      obtain ⟨p, hp⟩ : ∃ p, l[k]? = some p := ⟨l[k], List.getElem?_eq_getElem hlt⟩
      have hcell := grownBy_cells hg
      have c0 : wr.cell? ⟨g, off + k * 2, none⟩ = some (.int .i64 p.1) := by rw [hcell.1 _ _ hgl (by simp)]; exact hc k p hp 0 _ rfl
      have c1 : wr.cell? ⟨g, off + k * 2 + 1, none⟩ = some (.int .i64 p.2) := by rw [hcell.1 _ _ hgl (by simp)]; exact hc k p hp 1 _ rfl
      obtain ⟨b1, b2, b3, b4⟩ := hok.size k p hp
      by_cases hk0 : k = 0
      · subst hk0
        simp only [Nat.zero_mul, Nat.add_zero] at c0 c1
        clear hcell hc hp
        go_wp2
        go_quiet (fail)
        go_wp2
        refine ⟨⟨1, by omega, by go_num, grownBy_drewN (grownBy_new_block hg _) _⟩, ?_⟩
        simp [intOf]; omega
      · obtain ⟨q, hq⟩ : ∃ q, l[k - 1]? = some q := ⟨l[k - 1], List.getElem?_eq_getElem (by omega)⟩
        have d0 : wr.cell? ⟨g, off + (k - 1) * 2, none⟩ = some (.int .i64 q.1) := by rw [hcell.1 _ _ hgl (by simp)]; exact hc (k - 1) q hq 0 _ rfl
        have hlt' := hok.asc (k - 1) q p hq (by rw [show k - 1 + 1 = k from by omega]; exact hp)
        have hkp : 0 < k := by omega
        have hgw : g < wr.heap.size := Nat.lt_of_lt_of_le hgl hg.size
        clear hcell hc hp hq hk0
        go_wp2
        have hw1 : IntKind.i64.wrap ((k : Int) - 1) = (k : Int) - 1 := IntWalk.i64_in _ (by omega)
        have hw2 : ((k : Int) - 1).toNat = k - 1 := by omega
        have hw3 : (0 : Int) ≤ (k : Int) - 1 := by omega
        have hw4 : (1 : Int) ≤ (k : Int) := by omega
        go_quiet (fail)
        clear hw1 hw2
        go_wp2
        refine ⟨⟨k + 1, by omega, by go_num, grownBy_drewN (grownBy_new_block hg _) _⟩, ?_⟩
        simp [intOf]; omega
    · go_wp2
      go_ret
      exact ⟨rfl, hg⟩

/-- A slice of words. -/
def wordF (n : Int) : List Value := [.int .u64 n]
theorem wordF_len (n : Int) : (wordF n).length = 1 := rfl
def intF (n : Int) : List Value := [.int .i64 n]
theorem cells_word (l : List Int) : cellsOf wordF l = l.map (fun x => Value.int .u64 x) := by
  induction l with
  | nil => rfl
  | cons x l ih => simp only [cellsOf, List.flatMap_cons, List.map_cons] at *; rw [ih]; rfl
theorem cells_int (l : List Int) : cellsOf (fun n : Int => [Value.int .i64 n]) l = l.map (fun x => Value.int .i64 x) := by
  induction l with
  | nil => rfl
  | cons x l ih => simp only [cellsOf, List.flatMap_cons, List.map_cons] at *; rw [ih]; rfl
theorem intF_len (n : Int) : (intF n).length = 1 := rfl

theorem table_c (v : Value) (l : List Int) (w : World) (h : RdL wordF 1 w v l) (hl : l.length = 16) :
    Calls Try.prog 59 #[v] w fun e w' => e = .returned (.int .i64 0) ∧ w = w' := by
  obtain ⟨a, cap, rfl⟩ := h.shape
  rw [hl]
  clear h hl
  go_enter Try.func59, Try.ntmps59
  go_wp2
  go_ret
  exact ⟨rfl, rfl⟩

def WordPost (B b : Nat) (w : World) (e : Ending) (w' : World) : Prop :=
  ∃ r, e = .returned (.int .u64 r) ∧ 0 ≤ r ∧ r < 18446744073709551616 ∧ Deck B w' b ∧ w.grownBy w' (some b)

set_option maxHeartbeats 400000 in
theorem word_c {B : Nat} (b : Nat) (w : World) (hd : Deck B w b) :
    Calls Try.prog 16 #[.pointer (some ⟨b, 0, none⟩)] w (WordPost B b w) := by
  go_enter Try.func16, Try.ntmps16
  go_wp2_with fail
  refine (next_c b _ w hd (by omega) (by omega)).mono ?_
  rintro e w1 ⟨r1, rfl, ha1, hb1, hd1, hg1⟩
  go_wp2_with fail
  refine (next_c b _ w1 hd1 (by omega) (by omega)).mono ?_
  rintro e w2 ⟨r2, rfl, ha2, hb2, hd2, hg2⟩
  go_wp2_with fail
  go_ret
  have hb := bounds_u64 (wf_bits BinOp.xor IntKind.u64 (r1 * 4294967296) r2)
  exact ⟨_, rfl, hb.1, by omega, hd2, grownBy_trans hg1 hg2⟩

/-- Words that fit. -/
def WordsOk (l : List Int) : Prop := ∀ x ∈ l, 0 ≤ x ∧ x < 18446744073709551616
def TablePost (B b : Nat) (w : World) (e : Ending) (w' : World) : Prop :=
  ∃ v, ∃ l : List Int, e = .returned v ∧ RdL wordF 1 w' v l ∧ l.length = 16 ∧ WordsOk l ∧ NotIn v b ∧ (∀ a n c, v = .slice (some a) n c → w.heap.size ≤ a.block) ∧ Deck B w' b ∧ w.grownBy w' (some b)
def TableRel (B b C : Nat) (w : World) (wr : World) : Prop :=
  ∃ ws : List Int, ws.length = 16 ∧ WordsOk ws ∧ wr.heap[C]? = some (.cells (ws.map (fun x => Value.int .u64 x)).toArray 25) ∧ Deck B wr b ∧ w.grownBy wr (some b)

def zeros16 : Array Value := ((List.replicate 16 0).map (fun x : Int => Value.int .u64 x)).toArray
theorem make16 (w : World) : (Instr.makeSlice 27 (.int .i64 16) (.int .i64 16)).run Try.prog w = .ok (.slice (some ⟨w.heap.size, 0, none⟩) 16 16) (w.alloc (.cells zeros16 25)) := by kernel_rfl

set_option maxHeartbeats 400000 in
theorem dtable_c {B : Nat} (b : Nat) (w : World) (hd : Deck B w b) (hB : B ≤ w.heap.size) :
    Calls Try.prog 15 #[.pointer (some ⟨b, 0, none⟩)] w (TablePost B b w) := by
  have hb := hd.lt
  have hmk := make16
  go_enter Try.func15, Try.ntmps15
  go_wp2_with fail
  refine (next_c b _ _ (hd.alloc _) (by omega) (by omega)).mono ?_
  rintro e w1 ⟨r1, rfl, ha1, hb1, hd1, hg1⟩
  have HB := Lib.hid (hg1.block w.heap.size (by simp) (by simp; omega))
  clear hmk
  go_wp2_with fail
  go_loopw [12] (fun i wr => ∃ k : Nat, k ≤ 16 ∧ i = .int .i64 k ∧ TableRel B b w.heap.size w wr) (fun i _ => 16 - (intOf i).toNat)
  case atStart =>
    refine ⟨0, by omega, rfl, List.replicate 16 0, rfl, ?_, ?_, hd1, grownBy_trans (World.grownBy_alloc w _ _) hg1⟩
    · intro x hx; rw [List.eq_of_mem_replicate hx]; omega
    · rw [HB.out]; exact heap_alloc_new w _
  case round =>
    obtain ⟨k, hk, rfl, ws, hws, hok, hheap, hdr, hg⟩ := hrel
    by_cases hlt : k < 16
    · have hkk : k < ws.length := by omega
      go_wp2_with fail
      · refine (word_c b wr hdr).mono ?_
        rintro e w2 ⟨r2, rfl, ha2, hb2, hd2, hg2⟩
        have hB2 : w2.heap[w.heap.size]? = some (.cells (ws.map (fun x => Value.int .u64 x)).toArray 25) := by
          rw [hg2.block _ (Array.getElem?_eq_some_iff.1 hheap).1 (by simp; omega)]; exact hheap
        have hc2 : w2.cell? ⟨w.heap.size, k, none⟩ = some (.int .u64 ws[k]) := by
          simp [World.cell?, hB2, List.getElem?_eq_getElem hkk]
        have hf2 : w2.frozen? ⟨w.heap.size, k, none⟩ = false := by simp [World.frozen?, hB2]
        have HB2 := Lib.hid hB2
        clear hB2 hheap
        go_wp2_with fail
        have G : (w2.setCell ⟨w.heap.size, k, none⟩ (.int .u64 r2)).heap[w.heap.size]? = some (.cells ((ws.set k r2).map (fun x => Value.int .u64 x)).toArray 25) := by
          rw [heap_set _ HB2.out]; simp [List.map_set]
        refine ⟨⟨k + 1, by omega, by go_num, ws.set k r2, by simpa using hws, ?_, G, ?_, ?_⟩, ?_⟩
        · intro x hx
          rcases List.mem_or_eq_of_mem_set hx with h | h
          · exact hok x h
          · subst h; exact ⟨ha2, hb2⟩
        · exact hd2.kept (grownBy_set (grownBy_refl w2 _) _ _) (by intro c hc; cases hc; exact hB)
        · exact grownBy_setNew (grownBy_trans hg hg2) (Nat.le_refl _) _
        · simp [intOf]; omega
      · exact ⟨⟨k + 1, by omega, by go_num, ws, hws, hok, hheap, hdr, hg⟩, by simp [intOf]; omega⟩
    · have hk' : k = 16 := by omega
      go_wp2_with fail
      go_ret
      refine ⟨_, ws, rfl, ?_, hws, hok, ?_, ?_, hdr, hg⟩
      · refine ⟨?_, ?_, .inr ⟨w.heap.size, 0, 16, ?_, (Array.getElem?_eq_some_iff.1 hheap).1, ?_⟩⟩
        · rw [length_cellsOf _ 1 wordF_len]
        · omega
        · rw [hws]; rfl
        · intro j u hu
          rw [cells_word] at hu
          simp only [World.cell?, hheap, Nat.zero_add]
          simpa using hu
      · intro a n c h; cases h; simp; omega
      · intro a n c h; cases h; simp
end Go.Proofs.Ytkdbapbmbhmaiaa

/- Slices that the call itself makes: what they hold; append; cuts of slices that are read. -/
namespace Go.Proofs.Ytkdbapbmbhmaiaa
open Go.RowKit

/-- v is a slice of the call's own (its block lies from B on); it holds l. -/
def Own {α : Type} (f : α → List Value) (s : Nat) (e : TypeId) (B : Nat) (w : World) (v : Value) (l : List α) : Prop := w.ownsRow B e s v l.length (cellsOf f l)
theorem Own.shape {α : Type} {f : α → List Value} {s : Nat} {e : TypeId} {B : Nat} {w : World} {v : Value} {l : List α} (h : Own f s e B w v l) : ∃ a cap, v = .slice a l.length cap := by
  rcases h.2 with ⟨rfl, h0⟩ | ⟨g, cap, cur, rfl, _⟩
  · exact ⟨_, _, by rw [h0]⟩
  · exact ⟨_, _, rfl⟩
theorem Own.nil {α : Type} (f : α → List Value) (s : Nat) (e : TypeId) (B : Nat) (w : World) : Own f s e B w (.slice none 0 0) [] := World.ownsRow_nil w B e s
theorem Own.lt {α : Type} {f : α → List Value} {s : Nat} {e : TypeId} {B : Nat} {w : World} {v : Value} {l : List α} (h : Own f s e B w v l) : ∀ k, v.ownBlock = some k → B ≤ k ∧ k < w.heap.size := World.ownsRow.lt h
theorem Own.kept {α : Type} {f : α → List Value} {s : Nat} {e : TypeId} {B : Nat} {w w' : World} {v : Value} {l : List α} {r : Option Nat} (h : Own f s e B w v l) (hg : w.grownBy w' r) (hne : ∀ k, v.ownBlock = some k → r ≠ some k) : Own f s e B w' v l := by
  refine World.ownsRow.kept h hg ?_
  cases hv : v.ownBlock with
  | none => exact .inl rfl
  | some k => exact .inr (fun e => hne k hv e.symm)
theorem Own.same {α : Type} {f : α → List Value} {s : Nat} {e : TypeId} {B : Nat} {w w' : World} {v : Value} {l : List α} (h : Own f s e B w v l) (hg : w.grownBy w' none) : Own f s e B w' v l := h.kept hg (by simp)
theorem Own.len {α : Type} {f : α → List Value} {s : Nat} {e : TypeId} {B : Nat} {w : World} {v : Value} {l : List α} (h : Own f s e B w v l) : l.length ≤ 9223372036854775807 := by
  rcases h.2 with ⟨rfl, h0⟩ | ⟨g, cap, cur, rfl, _, _, h1, h2, _⟩
  · omega
  · unfold maxLen at h2; omega
theorem Own.rd {α : Type} {f : α → List Value} {s : Nat} {e : TypeId} {B : Nat} {w : World} {v : Value} {l : List α} (h : Own f s e B w v l) : RdL f s w v l := by
  refine ⟨h.1, h.len, ?_⟩
  rcases h.2 with ⟨rfl, h0⟩ | ⟨g, cap, cur, rfl, _, hg, h1, h2, _⟩
  · exact .inl ⟨h0, none, 0, rfl⟩
  · refine .inr ⟨g, 0, cap, rfl, (Array.getElem?_eq_some_iff.1 hg).1, fun j u hu => ?_⟩
    have := World.ownsRow.cells h (g := g) rfl j u hu
    have e : (⟨g, 0, none⟩ : Addr).add j = ⟨g, 0 + j, none⟩ := by unfold Addr.add; split <;> simp_all
    rw [e] at this; exact this
theorem Own.base {α : Type} {f : α → List Value} {s : Nat} {e : TypeId} {B B' : Nat} {w : World} {v : Value} {l : List α} (h : Own f s e B w v l) (hb : ∀ k, v.ownBlock = some k → B' ≤ k) : Own f s e B' w v l := by
  refine ⟨h.1, ?_⟩
  rcases h.2 with h0 | ⟨g, cap, cur, rfl, _, hh⟩
  · exact .inl h0
  · exact .inr ⟨g, cap, cur, rfl, hb g rfl, hh⟩
/-- A step that writes the row of a slice of the call's own leaves what was there at the call's beginning as it was. -/
theorem grown_own {α : Type} {f : α → List Value} {s : Nat} {e : TypeId} {w w0 w' : World} {v : Value} {l : List α} {r : Option Nat} {B : Nat} (hg : w.grownBy w0 r) (h : Own f s e B w0 v l) (hB : w.heap.size ≤ B) (k : w0.grownBy w' v.ownBlock) : w.grownBy w' r := by
  cases hv : v.ownBlock with
  | none => rw [hv] at k; exact grownBy_trans hg (grownBy_some k _)
  | some g => rw [hv] at k; exact grownBy_new hg k (by have := h.lt g hv; omega)
/-- The rows of two slices of the call's own are two. -/
def Apart (v u : Value) : Prop := ∀ g, v.ownBlock = some g → u.ownBlock ≠ some g
theorem Apart.symm {v u : Value} (h : Apart v u) : Apart u v := fun g hg e => h g e hg
theorem apart_nil (u : Value) : Apart (.slice none 0 0) u := fun g hg => by simp [Value.ownBlock] at hg
def Lies (v v' : Value) (n : Nat) : Prop := v'.ownBlock = v.ownBlock ∨ ∃ g, v'.ownBlock = some g ∧ n ≤ g
theorem Apart.app {v u v' : Value} {n : Nat} (h : Apart v u) (hu : ∀ k, u.ownBlock = some k → k < n) (hl : Lies v v' n) : Apart v' u := by
  intro g hg e
  rcases hl with h1 | ⟨k, h1, h2⟩
  · exact h g (h1 ▸ hg) e
  · rw [h1] at hg; cases hg; have := hu _ e; omega

theorem off_new {v : Value} {n a b : Nat} (h : ∀ k, v.ownBlock = some k → k < n) : ∀ k, v.ownBlock = some k → Value.ownBlock (.slice (some ⟨n, 0, none⟩) a b) ≠ some k := by
  intro k hk e
  have h1 := h k hk
  have h2 : n = k := by simpa [Value.ownBlock] using e
  omega
theorem Lies.ge {v v' : Value} {n m : Nat} (h : Lies v v' n) (hv : ∀ k, v.ownBlock = some k → m ≤ k) (hm : m ≤ n) : ∀ k, v'.ownBlock = some k → m ≤ k := by
  intro k hk
  rcases h with h | ⟨g, h1, h2⟩
  · exact hv k (h ▸ hk)
  · rw [h1] at hk; cases hk; omega
theorem ge_new (n a b : Nat) : ∀ k, Value.ownBlock (.slice (some ⟨n, 0, none⟩) a b) = some k → n ≤ k := by
  intro k hk
  have : n = k := by simpa [Value.ownBlock] using hk
  omega
theorem apart_ge {v u : Value} {m : Nat} (h : ∀ k, v.ownBlock = some k → m ≤ k) (h' : ∀ k, u.ownBlock = some k → k < m) : Apart v u := fun g hg e => by
  have h1 := h g hg
  have h2 := h' g e
  omega

/-- What is known of a slice type and its element type. -/
structure Elt (st e : TypeId) (z : Value) (size bytes : Nat) : Prop where
  ht : Try.prog.underlying st = some (.slice e)
  info : (Try.prog.info? e).map (fun i => (i.zero, i.size, i.bytes)) = some (some z, size, bytes)
  cells : z.cells.size = size
  pos : 0 < size

theorem run_app_nil {w : World} {st e ty : TypeId} {z : Value} {size bytes : Nat} (E : Elt st e z size bytes) {base : Nat} {v : Value} {n : Nat} {xs : List Value} (hown : w.ownsRow base e size v n xs) (c : Nat) :
    (Builtin.append_ #[st, st] ty #[v, .slice none 0 c]).run Try.prog w = .ok v w := by
  obtain ⟨i, hi, _⟩ := info_parts E.info
  rcases hown.2 with ⟨rfl, rfl⟩ | ⟨g, cap, cur, rfl, _, _, hnc, _⟩
  · simp [Builtin.append_, run_underlying E.ht, sizeOf, typeInfo, hi, Builtin.lenOf, Builtin.firstCells]
  · simp [Builtin.append_, run_underlying E.ht, sizeOf, typeInfo, hi, Builtin.lenOf, Builtin.firstCells, hnc, storeCells]

/-- append of whatever is read. -/
theorem run_app {w : World} {st e ty : TypeId} {z : Value} {size bytes : Nat} (E : Elt st e z size bytes) {base : Nat} {v : Value} {n : Nat} {xs : List Value} (hown : w.ownsRow base e size v n xs)
    {A : Option Addr} {m c : Nat} {news : List Value} (hr : Rd w size (.slice A m c) m news) (h1 : ∀ u ∈ news, u.oneCell' = true) (h63 : n + m ≤ maxLen) (hb : (n + m) * bytes ≤ 140737488355328) (hbase : base ≤ w.heap.size) :
    ∃ v' w', (Builtin.append_ #[st, st] ty #[v, .slice A m c]).run Try.prog w = .ok v' w' ∧ w'.ownsRow base e size v' (n + m) (xs ++ news) ∧ w.grownBy w' v.ownBlock ∧ Lies v v' w.heap.size := by
  obtain ⟨i, hi, hz0, hz1, hz2⟩ := info_parts E.info
  have key : ∀ ad : Addr, (∀ j u, news[j]? = some u → w.cell? (ad.add j) = some u) → ∃ v' w', (Builtin.append_ #[st, st] ty #[v, .slice (some ad) m c]).run Try.prog w = .ok v' w' ∧ w'.ownsRow base e size v' (n + m) (xs ++ news) ∧ w.grownBy w' v.ownBlock ∧ Lies v v' w.heap.size := by
    intro ad hc
    obtain ⟨v', w', hrun, h2, h3, _, h5⟩ := run_append_own_at (P := Try.prog) w base st ty e i z size bytes E.ht hi hz0 hz1 hz2 E.cells E.pos v n xs hown ad m c news hr.1 hc h1 h63 hb hbase
    exact ⟨v', w', hrun, h2, h3, h5.imp id fun h => ⟨_, h, Nat.le_refl _⟩⟩
  rcases hr.2.2 with ⟨rfl, a, cap, hv⟩ | ⟨g, off, cap, hv, _, hc⟩
  · have hn : news = [] := List.eq_nil_of_length_eq_zero (by simpa using hr.1)
    subst hn
    cases A with
    | none => exact ⟨v, w, run_app_nil E hown c, by simpa using hown, World.grownBy.refl w _, .inl rfl⟩
    | some ad => exact key ad (by simp)
  · cases hv
    refine key _ fun j u hu => ?_
    have e : (⟨g, off, none⟩ : Addr).add j = ⟨g, off + j, none⟩ := by unfold Addr.add; split <;> simp_all
    rw [e]; exact hc j u hu

theorem cellsOf_append {α : Type} (f : α → List Value) (l l' : List α) : cellsOf f (l ++ l') = cellsOf f l ++ cellsOf f l' := by simp [cellsOf]
/-- The cells of an element are single cells. -/
def OneF {α : Type} (f : α → List Value) : Prop := ∀ x, ∀ u ∈ f x, u.oneCell' = true
theorem OneF.cells {α : Type} {f : α → List Value} (h : OneF f) (l : List α) : ∀ u ∈ cellsOf f l, u.oneCell' = true := by
  intro u hu
  obtain ⟨x, _, hx⟩ := List.mem_flatMap.1 hu
  exact h x u hx

section
variable {α : Type} {f : α → List Value} {st e : TypeId} {z : Value} {size bytes : Nat} {w : World} {B : Nat} {v : Value} {l l2 : List α} {A : Option Addr} {m c : Nat}
variable {o : Oper} {a : Act} {ops : Array Oper} {rest : List Oper} {Q : Exit → Act → World → Prop}

theorem wp_app (E : Elt st e z size bytes) (h1 : OneF f) (hown : Own f size e B w v l) (hr : RdL f size w (.slice A m c) l2) (hm : m = l2.length) (hb : (l.length + l2.length) * bytes ≤ 140737488355328) (h63 : l.length + l2.length ≤ 9223372036854775807) (hbase : B ≤ w.heap.size)
    (s x : Operand) (ho : o.op = .call { callee := .builtin .append, args := #[s, x], argTypes := #[st, st] }) (hs : a.eval s = v) (hx : a.eval x = .slice A m c) {K : Act → World → Prop}
    (h : ∀ v' w', Own f size e B w' v' (l ++ l2) → w.grownBy w' v.ownBlock → Lies v v' w.heap.size → K (a.put o.dst v') w') : o.wp Try.prog a w K Q := by
  subst hm
  obtain ⟨v', w', hrun, h2, h3, h4⟩ := run_app (ty := o.type) E hown hr (h1.cells l2) (by unfold maxLen; exact h63) hb hbase
  unfold Oper.wp execOp
  simp only [ho, resolve, invoke, builtin, Sem.run_bind, Sem.run_pure, Result.andThen_ok, List.map_toArray, List.map_cons, List.map_nil, hs, hx, hrun]
  exact h v' w' (by unfold Own; rw [cellsOf_append, List.length_append]; exact h2) h3 h4

/-- append, in a region that is carried out in order. -/
theorem app (E : Elt st e z size bytes) (h1 : OneF f) (hown : Own f size e B w v l) (hr : RdL f size w (.slice A m c) l2) (hm : m = l2.length) (hb : (l.length + l2.length) * bytes ≤ 140737488355328) (h63 : l.length + l2.length ≤ 9223372036854775807) (hbase : B ≤ w.heap.size)
    (hgd : o.guard = none) (s x : Operand) (ho : o.op = .call { callee := .builtin .append, args := #[s, x], argTypes := #[st, st] }) (hs : a.eval s = v) (hx : a.eval x = .slice A m c)
    (h : ∀ v' w', Own f size e B w' v' (l ++ l2) → w.grownBy w' v.ownBlock → Lies v v' w.heap.size → wpList Try.prog ops Q rest (a.put o.dst v') w') : wpList Try.prog ops Q (o :: rest) a w :=
  wpList_plain hgd fun _ hK => wp_app E h1 hown hr hm hb h63 hbase s x ho hs hx fun v' w' h2 h3 h4 => hK _ _ (h v' w' h2 h3 h4)
/-- The same at a step of a region that draws its order. -/
theorem step_app (E : Elt st e z size bytes) (h1 : OneF f) (hown : Own f size e B w v l) (hr : RdL f size w (.slice A m c) l2) (hm : m = l2.length) (hb : (l.length + l2.length) * bytes ≤ 140737488355328) (h63 : l.length + l2.length ≤ 9223372036854775807) (hbase : B ≤ w.heap.size)
    (hgd : o.guard = none) (s x : Operand) (ho : o.op = .call { callee := .builtin .append, args := #[s, x], argTypes := #[st, st] }) (hs : a.eval s = v) (hx : a.eval x = .slice A m c) {K : Act → World → Prop} {R : Prop}
    (h : ∀ v' w', Own f size e B w' v' (l ++ l2) → w.grownBy w' v.ownBlock → Lies v v' w.heap.size → K (a.put o.dst v') w') : if Region.wanted o (yielded ops a.tmps) = true then Oper.wp Try.prog o a w K Q else R := by
  have hw : Region.wanted o (yielded ops a.tmps) = true := by simp [Region.wanted, hgd]
  rw [if_pos hw]
  exact wp_app E h1 hown hr hm hb h63 hbase s x ho hs hx h

/-- One element that lies in a block of its own is read as a list. -/
theorem rd_one' (hf : ∀ x, (f x).length = size) (w0 : World) (y : α) (cs : Array Value) (te : TypeId) (hcs : cs.toList = f y) : RdL f size (w0.alloc (.cells cs te)) (.slice (some ⟨w0.heap.size, 0, none⟩) 1 1) [y] := by
  refine ⟨by simp [cellsOf, hf], by simp, .inr ⟨w0.heap.size, 0, 1, rfl, by simp, fun j u hu => ?_⟩⟩
  simp only [cellsOf, List.flatMap_cons, List.flatMap_nil, List.append_nil, ← hcs] at hu
  have := heap_alloc_new w0 (.cells cs te)
  simp only [World.cell?, this, Nat.zero_add]
  simpa using hu
/-- append of one element, which lies in a block of its own. -/
theorem app_one (E : Elt st e z size bytes) (h1 : OneF f) (hf : ∀ x, (f x).length = size) (hown : Own f size e B w v l) (y : α) (hb : (l.length + 1) * bytes ≤ 140737488355328) (h63 : l.length + 1 ≤ 9223372036854775807) (hbase : B ≤ w.heap.size) {te : TypeId} {cs : Array Value} (hcs : cs.toList = f y)
    (hgd : o.guard = none) (s x : Operand) (ho : o.op = .call { callee := .builtin .append, args := #[s, x], argTypes := #[st, st] }) (hs : a.eval s = v) (hx : a.eval x = .slice (some ⟨w.heap.size, 0, none⟩) 1 1)
    (h : ∀ v' w', Own f size e B w' v' (l ++ [y]) → w.grownBy w' v.ownBlock → Lies v v' w.heap.size → wpList Try.prog ops Q rest (a.put o.dst v') w') : wpList Try.prog ops Q (o :: rest) a (w.alloc (.cells cs te)) :=
  app (l2 := [y]) E h1 (hown.same (World.grownBy_alloc w _ _)) (rd_one' hf w y cs te hcs) rfl (by simpa using hb) (by simpa using h63) (by simp; omega) hgd s x ho hs hx
    fun v' w' h2 h3 h4 => h v' w' h2 (grownBy_trans (World.grownBy_alloc w _ _) h3) (h4.imp id fun ⟨g, e1, e2⟩ => ⟨g, e1, by simp at e2; omega⟩)
theorem step_app_one (E : Elt st e z size bytes) (h1 : OneF f) (hf : ∀ x, (f x).length = size) (hown : Own f size e B w v l) (y : α) (hb : (l.length + 1) * bytes ≤ 140737488355328) (h63 : l.length + 1 ≤ 9223372036854775807) (hbase : B ≤ w.heap.size) {te : TypeId} {cs : Array Value} (hcs : cs.toList = f y)
    (hgd : o.guard = none) (s x : Operand) (ho : o.op = .call { callee := .builtin .append, args := #[s, x], argTypes := #[st, st] }) (hs : a.eval s = v) (hx : a.eval x = .slice (some ⟨w.heap.size, 0, none⟩) 1 1) {K : Act → World → Prop} {R : Prop}
    (h : ∀ v' w', Own f size e B w' v' (l ++ [y]) → w.grownBy w' v.ownBlock → Lies v v' w.heap.size → K (a.put o.dst v') w') : if Region.wanted o (yielded ops a.tmps) = true then Oper.wp Try.prog o a (w.alloc (.cells cs te)) K Q else R :=
  step_app (l2 := [y]) E h1 (hown.same (World.grownBy_alloc w _ _)) (rd_one' hf w y cs te hcs) rfl (by simpa using hb) (by simpa using h63) (by simp; omega) hgd s x ho hs hx
    fun v' w' h2 h3 h4 => h v' w' h2 (grownBy_trans (World.grownBy_alloc w _ _) h3) (h4.imp id fun ⟨g, e1, e2⟩ => ⟨g, e1, by simp at e2; omega⟩)
end

/-- The first elements. -/
theorem RdL.take {α : Type} {f : α → List Value} {s : Nat} {w : World} {A : Option Addr} {n cap : Nat} {l : List α} (hf : ∀ x, (f x).length = s) (h : RdL f s w (.slice A n cap) l) {k : Nat} (hk : k ≤ l.length) (c : Nat) : RdL f s w (.slice A k c) (l.take k) := by
  have hl : (l.take k).length = k := by simp; omega
  refine ⟨length_cellsOf f s hf _, by have := h.2.1; omega, ?_⟩
  rcases h.2.2 with ⟨h0, _⟩ | ⟨g, off, cap', hv, hg, hc⟩
  · obtain rfl : k = 0 := by omega
    exact .inl ⟨by omega, A, c, rfl⟩
  · cases hv
    refine .inr ⟨g, off, c, by rw [hl], hg, fun j u hu => hc j u ?_⟩
    have e : cellsOf f l = cellsOf f (l.take k) ++ cellsOf f (l.drop k) := by rw [← cellsOf_append, List.take_append_drop]
    rw [e, List.getElem?_append_left (List.getElem?_eq_some_iff.1 hu).1]; exact hu
/-- The elements from one on. -/
theorem RdL.drop {α : Type} {f : α → List Value} {s : Nat} {w : World} {A : Option Addr} {n cap : Nat} {l : List α} (hf : ∀ x, (f x).length = s) (h : RdL f s w (.slice A n cap) l) {k : Nat} (hk : k ≤ l.length) (hcap : l.length ≤ cap) (c : Nat) :
    RdL f s w (.slice (if cap = k then A else A.map (·.add (k * s))) (l.length - k) c) (l.drop k) := by
  have hl : (l.drop k).length = l.length - k := by simp
  refine ⟨length_cellsOf f s hf _, by have := h.2.1; omega, ?_⟩
  rcases Nat.eq_zero_or_pos (l.length - k) with h0 | h0
  · exact .inl ⟨by omega, _, c, by rw [h0]⟩
  · rcases h.2.2 with ⟨h1, _⟩ | ⟨g, off, cap', hv, hg, hc⟩
    · omega
    · cases hv
      rw [if_neg (by omega)]
      refine .inr ⟨g, off + k * s, c, ?_, hg, fun j u hu => ?_⟩
      · rw [hl]; simp only [Option.map_some]
        unfold Addr.add; split <;> simp_all
      · have e : cellsOf f l = cellsOf f (l.take k) ++ cellsOf f (l.drop k) := by rw [← cellsOf_append, List.take_append_drop]
        have e2 : (cellsOf f (l.take k)).length = k * s := by rw [length_cellsOf f s hf, List.length_take, Nat.min_eq_left hk]
        rw [Nat.add_assoc]
        refine hc _ u ?_
        rw [e, List.getElem?_append_right (by omega), e2, show k * s + j - k * s = j by omega]; exact hu
theorem RdL.dropS {α : Type} {f : α → List Value} {s : Nat} {w : World} {g off n cap : Nat} {l : List α} (hf : ∀ x, (f x).length = s) (h : RdL f s w (.slice (some ⟨g, off, none⟩) n cap) l) {k : Nat} (hk : k ≤ l.length) (hcap : l.length ≤ cap) (c : Nat) :
    RdL f s w (.slice (if cap = k then some ⟨g, off, none⟩ else some ⟨g, off + k * s, none⟩) (l.length - k) c) (l.drop k) := by
  have := h.drop hf hk hcap c
  have e : Option.map (fun a => Addr.add a (k * s)) (some (⟨g, off, none⟩ : Addr)) = some ⟨g, off + k * s, none⟩ := by
    simp only [Option.map_some]; unfold Addr.add; split <;> simp_all
  rw [e] at this; exact this
theorem RdL.drop1 {α : Type} {f : α → List Value} {w : World} {g off n cap : Nat} {l : List α} (hf : ∀ x, (f x).length = 1) (h : RdL f 1 w (.slice (some ⟨g, off, none⟩) n cap) l) {k : Nat} (hk : k ≤ l.length) (hcap : l.length ≤ cap) (c : Nat) :
    RdL f 1 w (.slice (if cap = k then some ⟨g, off, none⟩ else some ⟨g, off + k, none⟩) (l.length - k) c) (l.drop k) := by
  have := h.dropS hf hk hcap c
  rwa [Nat.mul_one] at this
theorem RdL.same {α : Type} {f : α → List Value} {s : Nat} {w w' : World} {v : Value} {l : List α} (h : RdL f s w v l) (hg : w.grownBy w' none) : RdL f s w' v l := Rd.same h hg
theorem RdL.at_ {α : Type} {f : α → List Value} {w : World} {v : Value} {l : List α} {s : Nat} (h : RdL f s w v l) (hf : ∀ x, (f x).length = s) {k : Nat} (hk : k < l.length) :
    ∃ g off cap, v = .slice (some ⟨g, off, none⟩) l.length cap ∧ g < w.heap.size ∧ ∀ j u, (f l[k])[j]? = some u → w.cell? ⟨g, off + k * s + j, none⟩ = some u := by
  obtain ⟨g, off, cap, hv, hg, hc⟩ := h.cell hf (by omega)
  exact ⟨g, off, cap, hv, hg, fun j u hu => hc k l[k] (List.getElem?_eq_getElem hk) j u hu⟩
theorem RdL.one {α : Type} {f : α → List Value} {u : α → Value} (hu : ∀ x, f x = [u x]) {w : World} {v : Value} {l : List α} (h : RdL f 1 w v l) {k : Nat} (hk : k < l.length) :
    ∃ g off cap, v = .slice (some ⟨g, off, none⟩) l.length cap ∧ g < w.heap.size ∧ w.cell? ⟨g, off + k, none⟩ = some (u l[k]) := by
  obtain ⟨g, off, cap, hv, hg, hc⟩ := h.at_ (fun x => by rw [hu]; rfl) hk
  refine ⟨g, off, cap, hv, hg, ?_⟩
  have := hc 0 (u l[k]) (by rw [hu]; rfl)
  simpa using this
theorem own_lit0 {α : Type} (f : α → List Value) (s : Nat) {e : TypeId} {B : Nat} {w : World} (hB : B ≤ w.heap.size) : Own f s e B (w.alloc (.cells #[] e)) (.slice (some ⟨w.heap.size, 0, none⟩) 0 0) [] :=
  ⟨by simp [cellsOf], .inr ⟨w.heap.size, 0, #[], rfl, hB, heap_alloc_new w _, Nat.le_refl _, Nat.zero_le _, by simp, by simp [cellsOf]⟩⟩
theorem Own.cap {α : Type} {f : α → List Value} {s : Nat} {e : TypeId} {B : Nat} {w : World} {a : Option Addr} {n c : Nat} {l : List α} (h : Own f s e B w (.slice a n c) l) : l.length ≤ c := by
  rcases h.2 with ⟨hv, h0⟩ | ⟨g, cap, cur, hv, _, _, h1, _⟩
  · omega
  · cases hv; exact h1
theorem word_one (x : Int) : wordF x = [Value.int .u64 x] := rfl
theorem int_one (x : Int) : intF x = [Value.int .i64 x] := rfl
end Go.Proofs.Ytkdbapbmbhmaiaa
