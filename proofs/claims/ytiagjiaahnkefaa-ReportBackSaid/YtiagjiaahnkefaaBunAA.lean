/- Several texts in one file; each begins with a comment that says what is proved in it. -/
import Derived.Test.YtiagjiaahnkefaaRows
import Derived.WalkKit
import Derived.WalkSpells
import Derived.WalkLawsBesides
import Derived.BigQuiet
import Derived.Deep.QuietTactic
import Derived.Deep.DeepCutAuto
import Derived.Lib.Hide
import Derived.Laws.Externs
import Derived.Lib.MinMax
import Derived.OpenShut
import Derived.Deep.Quiet
import Derived.Lib.QuietBelow
import Derived.Deep.RegionHeld3

/- The deck of numbers: what New, Next, Within and Word do. -/
namespace Go.Proofs.Ytiagjiaahnkefaa
open Go.RowKit

/-! ### Worlds -/
theorem grownBy_refl (w : World) (r : Option Nat) : w.grownBy w r := ⟨rfl, rfl, rfl, Nat.le_refl _, fun _ _ _ => rfl⟩
theorem grownBy_trans {a b c : World} {r : Option Nat} (h : a.grownBy b r) (k : b.grownBy c r) : a.grownBy c r :=
  ⟨k.os.trans h.os, k.tape.trans h.tape, k.output.trans h.output, Nat.le_trans h.size k.size,
    fun i hi hn => (k.block i (Nat.lt_of_lt_of_le hi h.size) hn).trans (h.block i hi hn)⟩
theorem grownBy_some {a b : World} (h : a.grownBy b none) (r : Option Nat) : a.grownBy b r :=
  ⟨h.os, h.tape, h.output, h.size, fun i hi _ => h.block i hi (by simp)⟩
/-- Two steps, the second into a block that the first has made. -/
theorem grownBy_new {a b c : World} {r : Option Nat} {g : Nat} (h : a.grownBy b r) (k : b.grownBy c (some g)) (hg : a.heap.size ≤ g) : a.grownBy c r :=
  ⟨k.os.trans h.os, k.tape.trans h.tape, k.output.trans h.output, Nat.le_trans h.size k.size,
    fun i hi hn => (k.block i (Nat.lt_of_lt_of_le hi h.size) (by simp; omega)).trans (h.block i hi hn)⟩
theorem grownBy_drew {a b : World} {r : Option Nat} (h : a.grownBy b r) : a.grownBy b.drew r := ⟨h.os, h.tape, h.output, h.size, h.block⟩
theorem grownBy_drewN {a b : World} {r : Option Nat} (h : a.grownBy b r) (n : Nat) : a.grownBy (b.drewN n) r := ⟨h.os, h.tape, h.output, h.size, h.block⟩
theorem grownBy_new_block {a b : World} {r : Option Nat} (h : a.grownBy b r) (o : Obj) : a.grownBy (b.alloc o) r := grownBy_trans h (World.grownBy_alloc b o r)
theorem grownBy_set {a b : World} {g : Nat} (h : a.grownBy b (some g)) (o : Nat) (v : Value) : a.grownBy (b.setCell ⟨g, o, none⟩ v) (some g) :=
  grownBy_trans h ⟨rfl, rfl, rfl, by simp [World.setCell], fun i _ hn => Below.heap_setCell _ _ _ _ (by simpa using hn)⟩
theorem grownBy_setNew {a b : World} {r : Option Nat} (h : a.grownBy b r) {p : Addr} (hp : a.heap.size ≤ p.block) (v : Value) : a.grownBy (b.setCell p v) r :=
  ⟨h.os, h.tape, h.output, by have := h.size; simpa [World.setCell] using this, fun i hi hn => (Below.heap_setCell _ _ _ _ (by omega)).trans (h.block i hi hn)⟩
theorem below_of_grown {a b : World} (h : a.grownBy b none) : Below a.heap.size a b := ⟨h.os, h.tape, h.output, h.size, fun i hi => h.block i hi (by simp)⟩
theorem grownBy_cells {a b : World} {r : Option Nat} (h : a.grownBy b r) : (∀ k o, k < a.heap.size → some k ≠ r → b.cell? ⟨k, o, none⟩ = a.cell? ⟨k, o, none⟩) ∧ (∀ k o, k < a.heap.size → some k ≠ r → b.frozen? ⟨k, o, none⟩ = a.frozen? ⟨k, o, none⟩) :=
  ⟨fun k _ hk hn => World.cell?_of_block (h.block k hk hn), fun k _ hk hn => World.frozen?_of_block (h.block k hk hn)⟩

theorem heap_set {w : World} {b o : Nat} {c : Array Value} {t : TypeId} {f : Nat × Nat} (v : Value) (h : w.heap[b]? = some (.cells c t f)) :
    (w.setCell ⟨b, o, none⟩ v).heap[b]? = some (.cells (c.setIfInBounds o v) t f) := by
  simp [World.setCell, Array.getElem?_modify, h]

/-! ### Slices that are read -/
/-- 'v' is a slice of n elements whose cells, one behind the other, are xs. -/
def Rd (w : World) (size : Nat) (v : Value) (n : Nat) (xs : List Value) : Prop :=
  xs.length = n * size ∧ n ≤ 9223372036854775807 ∧ ((n = 0 ∧ ∃ a cap, v = .slice a 0 cap) ∨
    ∃ g off cap, v = .slice (some ⟨g, off, none⟩) n cap ∧ g < w.heap.size ∧ ∀ j u, xs[j]? = some u → w.cell? ⟨g, off + j, none⟩ = some u)
/-- It does not lie in block b. -/
def NotIn (v : Value) (b : Nat) : Prop := ∀ a n c, v = .slice (some a) n c → a.block ≠ b
theorem Rd.kept {w w' : World} {size : Nat} {v : Value} {n : Nat} {xs : List Value} {r : Option Nat} (h : Rd w size v n xs) (hg : w.grownBy w' r) (hr : ∀ b, r = some b → NotIn v b) : Rd w' size v n xs := by
  obtain ⟨h1, h0, h2⟩ := h
  refine ⟨h1, h0, ?_⟩
  rcases h2 with h2 | ⟨g, off, cap, hv, hlt, hc⟩
  · exact .inl h2
  · refine .inr ⟨g, off, cap, hv, Nat.lt_of_lt_of_le hlt hg.size, fun j u hu => ?_⟩
    rw [World.cell?_of_block (a := ⟨g, off + j, none⟩) (hg.block g hlt ?_)]
    · exact hc j u hu
    · intro e; exact hr g e.symm _ _ _ hv rfl
theorem Rd.kept0 {w w' : World} {size : Nat} {v : Value} {n : Nat} {xs : List Value} {r : Option Nat} (h : Rd w size v n xs) (hg : w.grownBy w' r) (hr : 0 < n → ∀ b, r = some b → NotIn v b) : Rd w' size v n xs := by
  rcases Nat.eq_zero_or_pos n with h0 | h0
  · rcases h.2.2 with ⟨_, a, cap, rfl⟩ | ⟨g, off, cap, rfl, _⟩
    · exact ⟨h.1, h.2.1, .inl ⟨h0, a, cap, rfl⟩⟩
    · exact ⟨h.1, h.2.1, .inl ⟨h0, some ⟨g, off, none⟩, cap, by rw [h0]⟩⟩
  · exact h.kept hg (hr h0)
theorem Rd.same {w w' : World} {size : Nat} {v : Value} {n : Nat} {xs : List Value} (h : Rd w size v n xs) (hg : w.grownBy w' none) : Rd w' size v n xs :=
  h.kept hg (by simp)

/-! ### The deck -/
theorem within_num (x n : Int) (h : 0 < n) : (x.tmod n + n) % n = x % n := by
  have h1 : x.tmod n = if 0 ≤ x ∨ n ∣ x then x % n else x % n - n := by
    rw [Int.tmod_eq_emod]; split
    · simp
    · have : (n.natAbs : Int) = n := by omega
      rw [this]
  rw [h1]
  split
  · rw [Int.add_emod_right, Int.emod_emod]
  · rw [show x % n - n + n = x % n from by omega, Int.emod_emod]

theorem within_tmod (x n : Int) (h : 0 < n) : -n < x.tmod n ∧ x.tmod n < n := by
  have h1 : x.tmod n = if 0 ≤ x ∨ n ∣ x then x % n else x % n - n := by
    rw [Int.tmod_eq_emod]; split
    · simp
    · have : (n.natAbs : Int) = n := by omega
      rw [this]
  have a := Int.emod_nonneg x (show n ≠ 0 by omega)
  have b := Int.emod_lt_of_pos x h
  rw [h1]; split <;> omega

set_option maxHeartbeats 400000 in
theorem within_c (x n : Int) (w : World) (h0 : 0 < n) (h1 : n ≤ 4611686018427387904) :
    Calls Try.prog 94 #[.int .i64 x, .int .i64 n] w fun e w' => e = .returned (.int .i64 (x % n)) ∧ w = w' := by
  have H := Lib.hid (within_num x n h0)
  obtain ⟨ha, hb⟩ := within_tmod x n h0
  go_enter Try.func94, Try.ntmps94
  go_wp2
  go_ret
  exact ⟨congrArg (fun i => Ending.returned (Value.int IntKind.i64 i)) H.out, rfl⟩

/-- Block b holds a deck; it and its numbers lie below block B. -/
def Deck (B : Nat) (w : World) (b : Nat) : Prop :=
  ∃ sv, ∃ xs : List Int, ∃ k n : Nat, w.heap[b]? = some (.cells #[sv, .int .i64 k] 123) ∧ k ≤ n ∧ Rd w 1 sv n (xs.map (fun x => Value.int .i64 x)) ∧ (0 < n → NotIn sv b) ∧ b < B ∧ (0 < n → ∀ a n c, sv = .slice (some a) n c → a.block < B)
theorem Deck.lt {B : Nat} {w : World} {b : Nat} (h : Deck B w b) : b < w.heap.size := by
  obtain ⟨_, _, _, _, h, _⟩ := h; exact (Array.getElem?_eq_some_iff.1 h).1
theorem Deck.below {B : Nat} {w : World} {b : Nat} (h : Deck B w b) : b < B := by
  obtain ⟨_, _, _, _, _, _, _, _, h, _⟩ := h; exact h
theorem Deck.kept {B : Nat} {w w' : World} {b : Nat} {r : Option Nat} (h : Deck B w b) (hg : w.grownBy w' r) (hr : ∀ c, r = some c → B ≤ c) : Deck B w' b := by
  have hlt := h.lt
  obtain ⟨sv, xs, k, n, h1, h3, h4, h5, h6, h7⟩ := h
  refine ⟨sv, xs, k, n, (hg.block b hlt (fun e => by have := hr _ e.symm; omega)).trans h1, h3, h4.kept0 hg ?_, h5, h6, h7⟩
  intro h0 c hc a n' c' hv
  have h8 := hr c hc
  have h9 := h7 h0 _ _ _ hv
  omega
theorem Deck.alloc {B : Nat} {w : World} {b : Nat} (h : Deck B w b) (o : Obj) : Deck B (w.alloc o) b := h.kept (World.grownBy_alloc w o none) (by simp)

def NextPost (B b : Nat) (m : Int) (w : World) (e : Ending) (w' : World) : Prop :=
  ∃ r, e = .returned (.int .i64 r) ∧ 0 ≤ r ∧ r < m ∧ Deck B w' b ∧ w.grownBy w' (some b)

set_option maxHeartbeats 400000 in
theorem next_c {B : Nat} (b : Nat) (m : Int) (w : World) (hd : Deck B w b) (h0 : 0 < m) (h1 : m ≤ 4611686018427387904) :
    Calls Try.prog 48 #[.pointer (some ⟨b, 0, none⟩), .int .i64 m] w (NextPost B b m w) := by
  have Hd := Lib.hid hd
  obtain ⟨sv, xs, k, n, hb, hk1, hr, hni, hbB, hnB⟩ := hd
  have hn63 := hr.2.1
  have hsv : ∃ a cap, sv = .slice a n cap := by
    rcases hr.2.2 with ⟨rfl, a, cap, rfl⟩ | ⟨g, off, cap, rfl, _⟩
    · exact ⟨_, _, rfl⟩
    · exact ⟨_, _, rfl⟩
  obtain ⟨a, cap, rfl⟩ := hsv
  have c0 : w.cell? ⟨b, 0, none⟩ = some (.slice a n cap) := by simp [World.cell?, hb]
  have c1 : w.cell? ⟨b, 1, none⟩ = some (.int .i64 k) := by simp [World.cell?, hb]
  have f1 : w.frozen? ⟨b, 1, none⟩ = false := by simp [World.frozen?, hb]
  by_cases hlt : k < n
  · rcases hr.2.2 with ⟨h0, _⟩ | ⟨g, off, cap', hv, hg, hc⟩
    · omega
    cases hv
    have hgb : g ≠ b := hni (by omega) _ _ _ rfl
    have hlen : xs.length = n := by simpa using hr.1
    have cx : w.cell? ⟨g, off + k, none⟩ = some (.int .i64 (xs.getD k 0)) := by
      refine hc k _ ?_
      rw [List.getElem?_map, List.getElem?_eq_getElem (by omega)]
      simp [List.getD_eq_getElem?_getD, List.getElem?_eq_getElem (show k < xs.length by omega)]
    generalize xs.getD k 0 = x at cx
    have hr0 := Int.emod_nonneg x (show m ≠ 0 by omega)
    have hr1 := Int.emod_lt_of_pos x h0
    have Hb := Lib.hid hb
    have Hr := Lib.hid hr
    have HnB := Lib.hid hnB
    clear hb hr hc hlen hni hnB
    go_enter Try.func48, Try.ntmps48
    go_wp2
    go_quiet (fail)
    obtain ⟨n1, rfl⟩ : ∃ n1, n1 = nq := ⟨_, rfl⟩
    go_wp2
    have hwr : IntKind.i64.wrap (k : Int) = k := IntWalk.i64_in _ (by omega)
    go_quiet ((go_at_call 94; exact Calls.quiet_of_same ((within_c _ _ _ h0 h1).mono fun _ _ ⟨he, hw⟩ => ⟨he, hw.symm⟩)))
    clear hwr
    go_wp2
    go_ret
    have G : w.grownBy (((w.drewN n1).setCell ⟨b, 1, none⟩ (.int .i64 ((k : Int) + 1))).drewN nq) (some b) := grownBy_drewN (grownBy_set (grownBy_drewN (grownBy_refl w _) _) _ _) _
    refine ⟨x % m, rfl, hr0, hr1, ⟨_, xs, k + 1, n, ?_, hlt, Hr.out.kept G ?_, ?_, hbB, HnB.out⟩, G⟩
    · exact heap_set _ Hb.out
    · intro c hc; cases hc; intro a n' c' hv; cases hv; exact hgb
    · intro _ a n' c' hv; cases hv; exact hgb
  · have hle : n ≤ k := by omega
    clear hlt
    have Hb := Lib.hid hb
    have Hr := Lib.hid hr
    clear hb hr hnB
    go_enter Try.func48, Try.ntmps48
    go_wp2
    go_quiet (fail)
    go_wp2
    go_ret
    exact ⟨0, rfl, Int.le_refl _, h0, Hd.out.kept (grownBy_drewN (grownBy_refl w none) _) (by simp), grownBy_drewN (grownBy_refl w _) _⟩
end Go.Proofs.Ytiagjiaahnkefaa

/- What functions leave: numbers and truths, the memory only grown. -/
namespace Go.Proofs.Ytiagjiaahnkefaa
open Go.RowKit

def RetInt (k : Int) (w : World) (e : Ending) (w' : World) : Prop := e = .returned (.int .i64 k) ∧ w.grownBy w' none
def RetBool (b : Bool) (w : World) (e : Ending) (w' : World) : Prop := e = .returned (.bool b) ∧ w.grownBy w' none
theorem retInt {k k' : Int} {w w' : World} (h : k = k') (hg : w.grownBy w' none) : RetInt k w (.returned (.int .i64 k')) w' := ⟨by rw [h], hg⟩
theorem retBool {k k' : Bool} {w w' : World} (h : k = k') (hg : w.grownBy w' none) : RetBool k w (.returned (.bool k')) w' := ⟨by rw [h], hg⟩
def RetTwo (k m : Int) (w : World) (e : Ending) (w' : World) : Prop := e = .returned (.tuple #[.int .i64 k, .int .i64 m]) ∧ w.grownBy w' none
theorem retTwo {k k' m m' : Int} {w w' : World} (h : k = k') (h' : m = m') (hg : w.grownBy w' none) : RetTwo k m w (.returned (.tuple #[.int .i64 k', .int .i64 m'])) w' := ⟨by rw [h, h'], hg⟩
/-- A number of 64 bits without sign. -/
def RetWord (k : Int) (w : World) (e : Ending) (w' : World) : Prop := e = .returned (.int .u64 k) ∧ w.grownBy w' none
theorem retWord {k k' : Int} {w w' : World} (h : k = k') (hg : w.grownBy w' none) : RetWord k w (.returned (.int .u64 k')) w' := ⟨by rw [h], hg⟩
/-- Whatever value. -/
def RetVal (v : Value) (w : World) (e : Ending) (w' : World) : Prop := e = .returned v ∧ w.grownBy w' none
theorem retVal {v v' : Value} {w w' : World} (h : v = v') (hg : w.grownBy w' none) : RetVal v w (.returned v') w' := ⟨by rw [h], hg⟩
end Go.Proofs.Ytiagjiaahnkefaa

/- Sums of weights that do not wrap. -/
namespace Go.Proofs.Ytiagjiaahnkefaa
open Go.RowKit

/-- A number of 64 bits. -/
def W64 (n : Int) : Prop := 0 ≤ n ∧ n ≤ 18446744073709551615
theorem w64_wf {n : Int} (h : (Lit.int .u64 n).wf = true) : W64 n := by have := bounds_u64 h; unfold W64; omega
theorem w64_of {n : Int} (h0 : 0 ≤ n) (h1 : n ≤ 18446744073709551615) : W64 n := ⟨h0, h1⟩
def most64 : Int := 18446744073709551615
def satA (a b : Int) : Int := if a + b ≤ 18446744073709551615 then a + b else 18446744073709551615
def fitA (a b : Int) : Bool := decide (a + b ≤ 18446744073709551615)
def RetWordBool (k : Int) (b : Bool) (w : World) (e : Ending) (w' : World) : Prop := e = .returned (.tuple #[.int .u64 k, .bool b]) ∧ w = w'
theorem retWB {k k' : Int} {b b' : Bool} {w : World} (h : k = k') (hb : b = b') : RetWordBool k b w (.returned (.tuple #[.int .u64 k', .bool b'])) w := ⟨by rw [h, hb], rfl⟩
theorem satA_w {a b : Int} (ha : W64 a) (hb : W64 b) : W64 (satA a b) := by unfold W64 satA at *; split <;> omega
def sumA (a b : Int) : Int := (a + b + 0) % 18446744073709551616
def carA (a b : Int) : Int := (a + b + 0) / 18446744073709551616
theorem sumA_fit {a b : Int} (ha : W64 a) (hb : W64 b) (h : fitA a b = true) : sumA a b = satA a b ∧ (carA a b != 0) = false := by
  unfold W64 fitA sumA satA carA at *; simp only [decide_eq_true_eq] at h
  rw [if_pos h, bne_eq_false_iff_eq]; omega
theorem sumA_not {a b : Int} (_ : W64 a) (_ : W64 b) (h : fitA a b = false) : satA a b = 18446744073709551615 ∧ (carA a b != 0) = true := by
  unfold W64 fitA satA carA at *; simp only [decide_eq_false_iff_not] at h
  rw [if_neg h, bne_iff_ne]; omega

theorem call_add64 (a b : Int) (ha : W64 a) (hb : W64 b) (w : World) : (callFunc 96 #[.int .u64 a, .int .u64 b, .int .u64 0]).run Try.prog w = .ok (.value (.tuple #[.int .u64 (sumA a b), .int .u64 (carA a b)])) w := by
  rw [run_callFunc_extern (e := add64Entry) Try.func96 (by kernel_rfl) (by kernel_rfl) (by kernel_rfl) (by kernel_rfl), run_add64 a b 0 ha.1 hb.1 (by omega) (by omega)]
  rfl

set_option maxHeartbeats 400000 in
theorem satAdd_c (a b : Int) (w : World) (ha : W64 a) (hb : W64 b) : Calls Try.prog 52 #[.int .u64 a, .int .u64 b] w (RetWordBool (satA a b) (fitA a b) w) := by
  have hc := call_add64 a b ha hb
  cases hf : fitA a b
  · obtain ⟨h1, h2⟩ := sumA_not ha hb hf
    have H1 := Lib.hid h1
    clear h1 hf ha hb
    go_enter Try.func52, Try.ntmps52
    go_wp2
    go_ret2
    exact retWB H1.out rfl
  · obtain ⟨h1, h2⟩ := sumA_fit ha hb hf
    have H1 := Lib.hid h1
    clear h1 hf ha hb
    go_enter Try.func52, Try.ntmps52
    go_wp2
    go_ret2
    exact retWB H1.out.symm rfl

theorem le_fit (a b : Int) : decide (18446744073709551615 - b < a) = !fitA a b := by
  unfold fitA; rw [Bool.eq_iff_iff]; simp; omega

set_option maxHeartbeats 400000 in
theorem radd_c (a b : Int) (w : World) (ha : W64 a) (hb : W64 b) : Calls Try.prog 54 #[.int .u64 a, .int .u64 b] w (RetWordBool (satA a b) (fitA a b) w) := by
  have hw : IntKind.u64.wrap (18446744073709551615 - b) = 18446744073709551615 - b := IntWalk.u64_in _ (by unfold W64 at *; omega)
  have hl := le_fit a b
  cases hf : fitA a b
  · obtain ⟨h1, h2⟩ := sumA_not ha hb hf
    have H1 := Lib.hid h1
    rw [hf] at hl
    clear h1 h2 hf ha hb
    go_enter Try.func54, Try.ntmps54
    go_wp2
    go_ret2
    exact retWB H1.out rfl
  · obtain ⟨h1, h2⟩ := sumA_fit ha hb hf
    have h3 : satA a b = a + b := by unfold satA; unfold fitA at hf; rw [if_pos (of_decide_eq_true hf)]
    have hw2 : IntKind.u64.wrap (a + b) = a + b := by rw [← h3]; have := satA_w ha hb; exact IntWalk.u64_in _ (by unfold W64 at this; omega)
    have H3 := Lib.hid h3
    rw [hf] at hl
    clear h1 h2 h3 hf ha hb
    go_enter Try.func54, Try.ntmps54
    go_wp2
    go_ret2
    exact retWB H3.out rfl
theorem rsum_c (a b : Int) (w : World) (ha : W64 a) (hb : W64 b) : Calls Try.prog 84 #[.int .u64 a, .int .u64 b] w (fun e w' => e = .returned (.int .u64 (satA a b)) ∧ w = w') := by
  go_enter Try.func84, Try.ntmps84
  go_wp2_with (go_at_call 54; refine (radd_c a b _ ha hb).mono ?_; rintro e w' ⟨rfl, rfl⟩)
  go_ret
  exact ⟨rfl, rfl⟩
end Go.Proofs.Ytiagjiaahnkefaa

/- A region that draws its order: all operations but the last ones are quiet in a class of worlds (they read, or they call what only grows the memory), and each of the last ones waits for all before it. The quiet ones are walked once, in the order of the text; the last ones follow as a plain list. -/
namespace Go.Proofs.Ytiagjiaahnkefaa
namespace Tail

variable {n : Nat} {P : Program} {ops : Array Oper} {C : World → Prop} {Q : Exit → Act → World → Prop}

/-- Operation j waits for i, by itself or through others. -/
def waitsB (ops : Array Oper) : Nat → Nat → Nat → Bool
  | 0, _, _ => false
  | f + 1, j, i => match ops[j]? with
    | none => false
    | some o => o.after.any fun e => Region.binds .any e && (e.on == i || waitsB ops f e.on i)

/-- Edges go back; each operation from n on waits for all before it. -/
def okB (ops : Array Oper) (n : Nat) : Bool :=
  (List.range ops.size).all fun j => match ops[j]? with
    | none => true
    | some o => (o.after.all fun e => !Region.binds .any e || decide (e.on < j)) &&
        (decide (j < n) || (List.range j).all fun i => waitsB ops 4 j i)

theorem back (h : okB ops n = true) {j : Nat} {o : Oper} (hj : ops[j]? = some o) : ∀ e ∈ o.after, Region.binds .any e = true → e.on < j := by
  intro e he hb
  have h1 := List.all_eq_true.1 h j (List.mem_range.2 (Array.getElem?_eq_some_iff.1 hj).1)
  simp only [hj, Bool.and_eq_true] at h1
  have h2 := Array.all_eq_true_iff_forall_mem.1 h1.1 e he
  simpa [hb] using h2
/-- What has come up has all it waits for. -/
def Closed (ops : Array Oper) (listed : Array Bool) : Prop := ∀ (j : Nat) (o : Oper), ops[j]? = some o → listed.getD j true = true → ∀ e ∈ o.after, Region.binds .any e = true → listed.getD e.on false = true
theorem reach {listed : Array Bool} (hc : Closed ops listed) : ∀ (f j i : Nat) (o : Oper), ops[j]? = some o → (∀ e ∈ o.after, Region.binds .any e = true → listed.getD e.on false = true) → waitsB ops f j i = true → listed.getD i false = true
  | 0, _, _, _, _, _, h => by simp [waitsB] at h
  | f + 1, j, i, o, hj, hd, h => by
    simp only [waitsB, hj] at h
    obtain ⟨e, he, h4⟩ := Array.any_eq_true'.1 h
    simp only [Bool.and_eq_true, Bool.or_eq_true, beq_iff_eq] at h4
    have h5 := hd e he h4.1
    rcases h4.2 with h6 | h6
    · rw [← h6]; exact h5
    · cases ho : ops[e.on]? with
      | none => cases f <;> simp [waitsB, ho] at h6
      | some o' =>
        refine reach hc f e.on i o' ho (hc e.on o' ho ?_) h6
        have : e.on < listed.size := by
          rcases Nat.lt_or_ge e.on listed.size with h' | h'
          · exact h'
          · simp [Array.getElem?_eq_none h'] at h5
        simp [this] at h5 ⊢; exact h5
theorem waits (h : okB ops n = true) {listed : Array Bool} (hc : Closed ops listed) {j : Nat} {o : Oper} (hj : ops[j]? = some o) (hn : n ≤ j) {i : Nat} (hi : i < j)
    (hd : ∀ e ∈ o.after, Region.binds .any e = true → listed.getD e.on false = true) : listed.getD i false = true := by
  have h1 := List.all_eq_true.1 h j (List.mem_range.2 (Array.getElem?_eq_some_iff.1 hj).1)
  simp only [hj, Bool.and_eq_true, Bool.or_eq_true, decide_eq_true_eq] at h1
  rcases h1.2 with h2 | h2
  · omega
  · exact reach hc 4 j i o hj hd (List.all_eq_true.1 h2 i (List.mem_range.2 hi))

/-- The operations below m have come up, the others not. -/
def Upto (listed : Array Bool) (N m : Nat) : Prop := listed.size = N ∧ ∀ i, i < N → listed.getD i true = decide (i < m)
theorem Upto.getF {listed : Array Bool} {N m : Nat} (h : Upto listed N m) {i : Nat} (hi : i < N) : listed.getD i false = decide (i < m) := by
  rw [← h.2 i hi]
  have : i < listed.size := by rw [h.1]; exact hi
  simp [this]
theorem Upto.closed {listed : Array Bool} {m : Nat} (hok : okB ops n = true) (h : Upto listed ops.size m) : Closed ops listed := by
  intro j o hj hl e he hb
  have h1 := back hok hj e he hb
  have h2 := (Array.getElem?_eq_some_iff.1 hj).1
  rw [h.2 j h2] at hl
  simp only [decide_eq_true_eq] at hl
  rw [h.getF (by omega)]
  simp; omega
theorem Upto.next {listed : Array Bool} {N m : Nat} (h : Upto listed N m) (_ : m < N) : Upto (listed.setIfInBounds m true) N (m + 1) := by
  refine ⟨by simp [h.1], fun i hi => ?_⟩
  by_cases e : m = i
  · subst e
    have : m < listed.size := by rw [h.1]; exact hi
    simp [this]
  · rw [getD_set_ne true e, h.2 i hi]
    simp; omega

theorem tail_any (hok : okB ops n = true) : ∀ (k m : Nat) (listed : Array Bool) (a : Act) (w : World) (fuel : Nat), n ≤ m → m + k = ops.size → k ≤ fuel → Upto listed ops.size m →
    wpList P ops Q (ops.toList.drop m) a w → wpAny P .any ops Q fuel listed a w := by
  intro k
  induction k with
  | zero =>
    intro m listed a w fuel hn hm hf hu h
    have hr : Region.ready .any ops listed = [] := by
      rw [List.eq_nil_iff_forall_not_mem]
      intro i hi
      rw [mem_ready] at hi
      obtain ⟨h0, o, ho, _⟩ := hi
      have hi' := (Array.getElem?_eq_some_iff.1 ho).1
      rw [hu.2 i hi'] at h0
      simp at h0; omega
    have hd : ops.toList.drop m = [] := List.drop_eq_nil_of_le (by simp; omega)
    rw [hd] at h
    cases fuel with
    | zero => exact ⟨hr, h⟩
    | succ f => exact ⟨fun _ => h, by rw [hr]; simp⟩
  | succ k ih =>
    intro m listed a w fuel hn hm hf hu h
    have hlt : m < ops.size := by omega
    have ho : ops[m]? = some ops[m] := Array.getElem?_eq_getElem hlt
    have hin : m ∈ Region.ready .any ops listed := by
      rw [mem_ready]
      refine ⟨by rw [hu.2 m hlt]; simp, _, ho, fun e he hb => ?_⟩
      have := back hok ho e he hb
      rw [hu.getF (by omega)]; simpa using this
    have hall : ∀ i ∈ Region.ready .any ops listed, i = m := by
      intro i hi
      rw [mem_ready] at hi
      obtain ⟨h0, o, hoi, hdep⟩ := hi
      have hi' := (Array.getElem?_eq_some_iff.1 hoi).1
      rw [hu.2 i hi'] at h0
      simp at h0
      by_cases e : i = m
      · exact e
      · exfalso
        have := waits hok (hu.closed hok) hoi (by omega) (show m < i by omega) hdep
        rw [hu.getF hlt] at this
        simp at this
    cases fuel with
    | zero => omega
    | succ f =>
      refine ⟨fun h0 => (by rw [h0] at hin; cases hin), fun i hi => ?_⟩
      rw [hall i hi]
      have hd : ops.toList.drop m = ops[m] :: ops.toList.drop (m + 1) := by
        rw [List.drop_eq_getElem_cons (by simpa using hlt)]; simp
      rw [hd] at h
      have h' : wpOp P ops Q m (wpList P ops Q (ops.toList.drop (m + 1))) a w := by
        unfold wpOp; simp only [ho]; exact h
      exact wpOp_mono (fun a' w' hk => ih (m + 1) _ a' w' f (by omega) (by omega) (by omega) (hu.next hlt) hk) h'

/-- The two lists of what has come up: for the quiet walk the last ones count as done. -/
def Pair (n N : Nat) (lt lf : Array Bool) : Prop := lt.size = N ∧ lf.size = N ∧ ∀ i, i < N → (i < n → lt.getD i true = lf.getD i true) ∧ (n ≤ i → lt.getD i true = true ∧ lf.getD i true = false)

theorem getF_of {l : Array Bool} {N i : Nat} (h : l.size = N) (hi : i < N) : l.getD i false = l.getD i true := by
  have : i < l.size := by rw [h]; exact hi
  simp [this]

/-- A ready operation comes up. -/
theorem Closed.next {lf : Array Bool} (hc : Closed ops lf) (_ : okB ops n = true) {i : Nat} (hi : i ∈ Region.ready .any ops lf) : Closed ops (lf.setIfInBounds i true) := by
  obtain ⟨_, o, ho, hd⟩ := mem_ready.1 hi
  intro j o' hj hl e he hb
  refine getD_set_true ?_
  by_cases h : i = j
  · subst h; rw [ho] at hj; cases hj; exact hd e he hb
  · rw [getD_set_ne true h] at hl; exact hc j o' hj hl e he hb

theorem head_any (hn : n ≤ ops.size) (hok : okB ops n = true) {QQ : Act → Prop} (hQ : ∀ a w, C w → QQ a → wpList P ops Q (ops.toList.drop n) a w) :
    ∀ (fuel : Nat) (lt lf : Array Bool) (a : Act) (w : World) (fuel' : Nat), fuel + (ops.size - n) ≤ fuel' → Pair n ops.size lt lf → Closed ops lf → C w → wpAnyQ P .any ops C QQ fuel lt a → wpAny P .any ops Q fuel' lf a w := by
  intro fuel
  -- if nothing is ready in the quiet walk, all of the head has come up
  have done : ∀ (lt lf : Array Bool), Pair n ops.size lt lf → Region.ready .any ops lt = [] → Upto lf ops.size n := by
    intro lt lf hp hr
    refine ⟨hp.2.1, ?_⟩
    have key : ∀ i, i < n → lf.getD i true = true := by
      intro i
      induction i using Nat.strongRecOn with
      | _ i ih =>
        intro hi
        have hlt : i < ops.size := by omega
        cases hv : lf.getD i true with
        | true => rfl
        | false =>
          exfalso
          have hin : i ∈ Region.ready .any ops lt := by
            rw [mem_ready]
            refine ⟨by rw [(hp.2.2 i hlt).1 hi, hv], _, Array.getElem?_eq_getElem hlt, fun e he hb => ?_⟩
            have hb' := back hok (Array.getElem?_eq_getElem hlt) e he hb
            rw [getF_of hp.1 (show e.on < ops.size by omega), (hp.2.2 e.on (by omega)).1 (by omega)]
            exact ih e.on hb' (by omega)
          rw [hr] at hin; cases hin
    intro i hi
    by_cases h : i < n
    · rw [key i h]; simpa using h
    · rw [((hp.2.2 i hi).2 (by omega)).2]; simpa using h
  induction fuel with
  | zero =>
    intro lt lf a w fuel' hf hp hcl hC h
    exact tail_any hok (ops.size - n) n lf a w fuel' (Nat.le_refl _) (by omega) (by omega) (done lt lf hp h.1) (hQ a w hC h.2)
  | succ fuel ih =>
    intro lt lf a w fuel' hf hp hcl hC h
    by_cases hr : Region.ready .any ops lt = []
    · exact tail_any hok (ops.size - n) n lf a w fuel' (Nat.le_refl _) (by omega) (by omega) (done lt lf hp hr) (hQ a w hC (h.1 hr))
    · obtain ⟨i0, hi0⟩ := List.exists_mem_of_ne_nil _ hr
      have h0 := mem_ready.1 hi0
      obtain ⟨hun, o0, ho0, hd0⟩ := h0
      have hi0n : i0 < n := by
        rcases Nat.lt_or_ge i0 n with h' | h'
        · exact h'
        · have := ((hp.2.2 i0 (Array.getElem?_eq_some_iff.1 ho0).1).2 h').1
          rw [this] at hun; cases hun
      have hi0s := (Array.getElem?_eq_some_iff.1 ho0).1
      -- what is ready in the one is ready in the other
      have hsub : ∀ i ∈ Region.ready .any ops lf, i < n ∧ i ∈ Region.ready .any ops lt := by
        intro i hi
        obtain ⟨hu, o, ho, hd⟩ := mem_ready.1 hi
        have his := (Array.getElem?_eq_some_iff.1 ho).1
        rcases Nat.lt_or_ge i n with h' | h'
        · refine ⟨h', mem_ready.2 ⟨by rw [(hp.2.2 i his).1 h']; exact hu, o, ho, fun e he hb => ?_⟩⟩
          have hb' := back hok ho e he hb
          rw [getF_of hp.1 (by omega), (hp.2.2 e.on (by omega)).1 (by omega), ← getF_of hp.2.1 (by omega)]
          exact hd e he hb
        · exfalso
          have := waits hok hcl ho h' (show i0 < i by omega) hd
          rw [getF_of hp.2.1 hi0s, ← (hp.2.2 i0 hi0s).1 hi0n, hun] at this
          cases this
      have hrf : i0 ∈ Region.ready .any ops lf := by
        refine mem_ready.2 ⟨by rw [← (hp.2.2 i0 hi0s).1 hi0n]; exact hun, o0, ho0, fun e he hb => ?_⟩
        have hb' := back hok ho0 e he hb
        rw [getF_of hp.2.1 (by omega), ← (hp.2.2 e.on (by omega)).1 (by omega), ← getF_of hp.1 (by omega)]
        exact hd0 e he hb
      cases fuel' with
      | zero => omega
      | succ f =>
        refine ⟨fun h0 => (by rw [h0] at hrf; cases hrf), fun i hi => ?_⟩
        obtain ⟨hin, hil⟩ := hsub i hi
        refine wpOp_of_qOp (C := C) hC (fun a' w' hC' hk => ih _ _ a' w' f (by omega) ?_ (hcl.next hok hi) hC' hk) (h.2 i hil)
        refine ⟨by simp [hp.1], by simp [hp.2.1], fun j hj => ?_⟩
        by_cases e : i = j
        · subst e
          have q1 : i < lt.size := by rw [hp.1]; exact hj
          have q2 : i < lf.size := by rw [hp.2.1]; exact hj
          exact ⟨fun _ => by simp [q1, q2], fun h => by omega⟩
        · rw [getD_set_ne true e, getD_set_ne true e]; exact hp.2.2 j hj

theorem lexH (hs : Region.noSelect ops = true) {QQ : Act → Prop} : ∀ (l : List Oper) (k : Nat) (listed : Array Bool) (a : Act), (∀ j, j < l.length → l[j]? = ops[k + j]?) →
    Region.lexFrom .any ops l.length k listed = true → wpQuiet P ops C QQ l a → wpAnyQ P .any ops C QQ l.length listed a
  | [], _, _, _, _, hB, h => ⟨by simpa [Region.lexFrom] using hB, h⟩
  | o :: l, k, listed, a, hl, hB, h => by
    have h0 : ops[k]? = some o := by simpa using (hl 0 (by simp)).symm
    simp only [List.length_cons, Region.lexFrom, Bool.and_eq_true] at hB
    obtain ⟨⟨hr, hf⟩, hB'⟩ := hB
    obtain ⟨v, hy, hK⟩ := yieldsIn_of_qOp h0 (show qOp P ops C k (wpQuiet P ops C QQ l) a by unfold qOp; simp only [h0]; exact h)
    exact wpAnyQ_first h0 (Region.noSelect_spec hs) l.length listed a (Region.free_spec h0 hf) (by simpa using hr) hy
      (lexH hs l (k + 1) _ _ (fun j hj => by have := hl (j + 1) (by simpa using hj); simpa [Nat.add_assoc, Nat.add_comm 1 j] using this) hB' hK)

def tailB (ops : Array Oper) (n : Nat) : Bool :=
  decide (n ≤ ops.size) && okB ops n && Region.noSelect ops && Region.lexFrom .any ops n 0 (Array.replicate n false ++ Array.replicate (ops.size - n) true)

/-- The region's law. n: how many operations are quiet. -/
theorem wp_region_tail {id : Nat} {a : Act} {w : World} {l : List Oper} (n : Nat) (hm : P.follows .mixedOrders = true) (hB : tailB l.toArray n = true) (hC : C { w with drawn := w.drawn + 1 })
    (h : wpQuiet P l.toArray C (fun a' => ∀ w', C w' → wpList P l.toArray Q (l.drop n) a' w') (l.take n) a) : (Code.region id l.toArray true).wp P Q a w := by
  simp only [tailB, Bool.and_eq_true, decide_eq_true_eq] at hB
  obtain ⟨⟨⟨hn, hok⟩, hs⟩, hlex⟩ := hB
  have hn' : n ≤ l.length := by simpa using hn
  have hl : (l.take n).length = n := by simp; omega
  refine wp_region_any hm ?_
  refine head_any (C := C) (QQ := fun a' => ∀ w', C w' → wpList P l.toArray Q (l.drop n) a' w') hn hok (fun a w hC h => by simpa using h w hC) n
    (Array.replicate n false ++ Array.replicate (l.toArray.size - n) true) (Array.replicate l.toArray.size false) a _ l.toArray.size (by omega) ?_ ?_ hC ?_
  · refine ⟨by simp; omega, by simp, fun i hi => ⟨fun h => ?_, fun h => ?_⟩⟩
    · have hi' : i < l.length := by simpa using hi
      simp [Array.getElem?_append, h, hi']
    · have hi' : i < l.length := by simpa using hi
      have h1 : ¬ i < n := by omega
      have h2 : i - n < l.length - n := by omega
      simp [Array.getElem?_append, h1, h2, hi']
  · intro j o hj hl
    have hj' := (Array.getElem?_eq_some_iff.1 hj).1
    have hj2 : j < l.length := by simpa using hj'
    have hf : (Array.replicate l.toArray.size false).getD j true = false := by simp [hj2]
    rw [hf] at hl
    cases hl
  · have := lexH (P := P) (C := C) hs (QQ := fun a' => ∀ w', C w' → wpList P l.toArray Q (l.drop n) a' w') (l.take n) 0 (Array.replicate n false ++ Array.replicate (l.toArray.size - n) true) a
      (fun j hj => by rw [hl] at hj; simp [hj]) (by rw [hl]; exact hlex) h
    rw [hl] at this; exact this


/-! The same from a point where some operations, which need no memory, have come up already. -/
/-- Edges go back; each operation from n on waits for all before it that have not come up already. -/
def okP (ops : Array Oper) (n : Nat) (pre : Array Bool) : Bool :=
  (List.range ops.size).all fun j => match ops[j]? with
    | none => true
    | some o => (o.after.all fun e => !Region.binds .any e || decide (e.on < j)) &&
        (decide (j < n) || (List.range j).all fun i => (decide (i < n) && pre.getD i false) || waitsB ops 4 j i)
theorem backP {pre : Array Bool} (h : okP ops n pre = true) {j : Nat} {o : Oper} (hj : ops[j]? = some o) : ∀ e ∈ o.after, Region.binds .any e = true → e.on < j := by
  intro e he hb
  have h1 := List.all_eq_true.1 h j (List.mem_range.2 (Array.getElem?_eq_some_iff.1 hj).1)
  simp only [hj, Bool.and_eq_true] at h1
  have h2 := Array.all_eq_true_iff_forall_mem.1 h1.1 e he
  simpa [hb] using h2
theorem waitsP {pre : Array Bool} (h : okP ops n pre = true) {listed : Array Bool} (hc : Closed ops listed) {j : Nat} {o : Oper} (hj : ops[j]? = some o) (hn : n ≤ j) {i : Nat} (hi : i < j) (hp : i < n → pre.getD i false = false)
    (hd : ∀ e ∈ o.after, Region.binds .any e = true → listed.getD e.on false = true) : listed.getD i false = true := by
  have h1 := List.all_eq_true.1 h j (List.mem_range.2 (Array.getElem?_eq_some_iff.1 hj).1)
  simp only [hj, Bool.and_eq_true, Bool.or_eq_true, decide_eq_true_eq] at h1
  rcases h1.2 with h2 | h2
  · omega
  · have h3 := List.all_eq_true.1 h2 i (List.mem_range.2 hi)
    simp only [Bool.and_eq_true, Bool.or_eq_true, decide_eq_true_eq] at h3
    rcases h3 with ⟨h4, h5⟩ | h4
    · rw [hp h4] at h5; cases h5
    · exact reach hc 4 j i o hj hd h4
theorem Upto.closedP {listed pre : Array Bool} {m : Nat} (hok : okP ops n pre = true) (h : Upto listed ops.size m) : Closed ops listed := by
  intro j o hj hl e he hb
  have h1 := backP hok hj e he hb
  have h2 := (Array.getElem?_eq_some_iff.1 hj).1
  rw [h.2 j h2] at hl
  simp only [decide_eq_true_eq] at hl
  rw [h.getF (by omega)]
  simp; omega
theorem tail_anyP {pre : Array Bool} (hok : okP ops n pre = true) : ∀ (k m : Nat) (listed : Array Bool) (a : Act) (w : World) (fuel : Nat), n ≤ m → m + k = ops.size → k ≤ fuel → Upto listed ops.size m →
    wpList P ops Q (ops.toList.drop m) a w → wpAny P .any ops Q fuel listed a w := by
  intro k
  induction k with
  | zero =>
    intro m listed a w fuel hn hm hf hu h
    have hr : Region.ready .any ops listed = [] := by
      rw [List.eq_nil_iff_forall_not_mem]
      intro i hi
      rw [mem_ready] at hi
      obtain ⟨h0, o, ho, _⟩ := hi
      have hi' := (Array.getElem?_eq_some_iff.1 ho).1
      rw [hu.2 i hi'] at h0
      simp at h0; omega
    have hd : ops.toList.drop m = [] := List.drop_eq_nil_of_le (by simp; omega)
    rw [hd] at h
    cases fuel with
    | zero => exact ⟨hr, h⟩
    | succ f => exact ⟨fun _ => h, by rw [hr]; simp⟩
  | succ k ih =>
    intro m listed a w fuel hn hm hf hu h
    have hlt : m < ops.size := by omega
    have ho : ops[m]? = some ops[m] := Array.getElem?_eq_getElem hlt
    have hin : m ∈ Region.ready .any ops listed := by
      rw [mem_ready]
      refine ⟨by rw [hu.2 m hlt]; simp, _, ho, fun e he hb => ?_⟩
      have := backP hok ho e he hb
      rw [hu.getF (by omega)]; simpa using this
    have hall : ∀ i ∈ Region.ready .any ops listed, i = m := by
      intro i hi
      rw [mem_ready] at hi
      obtain ⟨h0, o, hoi, hdep⟩ := hi
      have hi' := (Array.getElem?_eq_some_iff.1 hoi).1
      rw [hu.2 i hi'] at h0
      simp at h0
      by_cases e : i = m
      · exact e
      · exfalso
        have := waitsP hok (hu.closedP hok) hoi (by omega) (show m < i by omega) (fun h => by omega) hdep
        rw [hu.getF hlt] at this
        simp at this
    cases fuel with
    | zero => omega
    | succ f =>
      refine ⟨fun h0 => (by rw [h0] at hin; cases hin), fun i hi => ?_⟩
      rw [hall i hi]
      have hd : ops.toList.drop m = ops[m] :: ops.toList.drop (m + 1) := by
        rw [List.drop_eq_getElem_cons (by simpa using hlt)]; simp
      rw [hd] at h
      have h' : wpOp P ops Q m (wpList P ops Q (ops.toList.drop (m + 1))) a w := by
        unfold wpOp; simp only [ho]; exact h
      exact wpOp_mono (fun a' w' hk => ih (m + 1) _ a' w' f (by omega) (by omega) (by omega) (hu.next hlt) hk) h'

theorem Closed.next' {lf : Array Bool} (hc : Closed ops lf) {i : Nat} (hi : i ∈ Region.ready .any ops lf) : Closed ops (lf.setIfInBounds i true) := by
  obtain ⟨_, o, ho, hd⟩ := mem_ready.1 hi
  intro j o' hj hl e he hb
  refine getD_set_true ?_
  by_cases h : i = j
  · subst h; rw [ho] at hj; cases hj; exact hd e he hb
  · rw [getD_set_ne true h] at hl; exact hc j o' hj hl e he hb
theorem head_anyP {pre : Array Bool} (hn : n ≤ ops.size) (hok : okP ops n pre = true) {QQ : Act → Prop} (hQ : ∀ a w, C w → QQ a → wpList P ops Q (ops.toList.drop n) a w) :
    ∀ (fuel : Nat) (lt lf : Array Bool) (a : Act) (w : World) (fuel' : Nat), fuel + (ops.size - n) ≤ fuel' → Pair n ops.size lt lf → Closed ops lf → (∀ i, i < n → pre.getD i false = true → lf.getD i true = true) → C w → wpAnyQ P .any ops C QQ fuel lt a → wpAny P .any ops Q fuel' lf a w := by
  intro fuel
  have done : ∀ (lt lf : Array Bool), Pair n ops.size lt lf → Region.ready .any ops lt = [] → Upto lf ops.size n := by
    intro lt lf hp hr
    refine ⟨hp.2.1, ?_⟩
    have key : ∀ i, i < n → lf.getD i true = true := by
      intro i
      induction i using Nat.strongRecOn with
      | _ i ih =>
        intro hi
        have hlt : i < ops.size := by omega
        cases hv : lf.getD i true with
        | true => rfl
        | false =>
          exfalso
          have hin : i ∈ Region.ready .any ops lt := by
            rw [mem_ready]
            refine ⟨by rw [(hp.2.2 i hlt).1 hi, hv], _, Array.getElem?_eq_getElem hlt, fun e he hb => ?_⟩
            have hb' := backP hok (Array.getElem?_eq_getElem hlt) e he hb
            rw [getF_of hp.1 (show e.on < ops.size by omega), (hp.2.2 e.on (by omega)).1 (by omega)]
            exact ih e.on hb' (by omega)
          rw [hr] at hin; cases hin
    intro i hi
    by_cases h : i < n
    · rw [key i h]; simpa using h
    · rw [((hp.2.2 i hi).2 (by omega)).2]; simpa using h
  induction fuel with
  | zero =>
    intro lt lf a w fuel' hf hp hcl hpre hC h
    exact tail_anyP hok (ops.size - n) n lf a w fuel' (Nat.le_refl _) (by omega) (by omega) (done lt lf hp h.1) (hQ a w hC h.2)
  | succ fuel ih =>
    intro lt lf a w fuel' hf hp hcl hpre hC h
    by_cases hr : Region.ready .any ops lt = []
    · exact tail_anyP hok (ops.size - n) n lf a w fuel' (Nat.le_refl _) (by omega) (by omega) (done lt lf hp hr) (hQ a w hC (h.1 hr))
    · obtain ⟨i0, hi0⟩ := List.exists_mem_of_ne_nil _ hr
      have h0 := mem_ready.1 hi0
      obtain ⟨hun, o0, ho0, hd0⟩ := h0
      have hi0n : i0 < n := by
        rcases Nat.lt_or_ge i0 n with h' | h'
        · exact h'
        · have := ((hp.2.2 i0 (Array.getElem?_eq_some_iff.1 ho0).1).2 h').1
          rw [this] at hun; cases hun
      have hi0s := (Array.getElem?_eq_some_iff.1 ho0).1
      have hp0 : pre.getD i0 false = false := by
        cases hv : pre.getD i0 false with
        | false => rfl
        | true =>
          have := hpre i0 hi0n hv
          rw [← (hp.2.2 i0 hi0s).1 hi0n, hun] at this; cases this
      have hsub : ∀ i ∈ Region.ready .any ops lf, i < n ∧ i ∈ Region.ready .any ops lt := by
        intro i hi
        obtain ⟨hu, o, ho, hd⟩ := mem_ready.1 hi
        have his := (Array.getElem?_eq_some_iff.1 ho).1
        rcases Nat.lt_or_ge i n with h' | h'
        · refine ⟨h', mem_ready.2 ⟨by rw [(hp.2.2 i his).1 h']; exact hu, o, ho, fun e he hb => ?_⟩⟩
          have hb' := backP hok ho e he hb
          rw [getF_of hp.1 (by omega), (hp.2.2 e.on (by omega)).1 (by omega), ← getF_of hp.2.1 (by omega)]
          exact hd e he hb
        · exfalso
          have := waitsP hok hcl ho h' (show i0 < i by omega) (fun _ => hp0) hd
          rw [getF_of hp.2.1 hi0s, ← (hp.2.2 i0 hi0s).1 hi0n, hun] at this
          cases this
      have hrf : i0 ∈ Region.ready .any ops lf := by
        refine mem_ready.2 ⟨by rw [← (hp.2.2 i0 hi0s).1 hi0n]; exact hun, o0, ho0, fun e he hb => ?_⟩
        have hb' := backP hok ho0 e he hb
        rw [getF_of hp.2.1 (by omega), ← (hp.2.2 e.on (by omega)).1 (by omega), ← getF_of hp.1 (by omega)]
        exact hd0 e he hb
      cases fuel' with
      | zero => omega
      | succ f =>
        refine ⟨fun h0 => (by rw [h0] at hrf; cases hrf), fun i hi => ?_⟩
        obtain ⟨hin, hil⟩ := hsub i hi
        refine wpOp_of_qOp (C := C) hC (fun a' w' hC' hk => ih _ _ a' w' f (by omega) ?_ (hcl.next' hi) ?_ hC' hk) (h.2 i hil)
        · refine ⟨by simp [hp.1], by simp [hp.2.1], fun j hj => ?_⟩
          by_cases e : i = j
          · subst e
            have q1 : i < lt.size := by rw [hp.1]; exact hj
            have q2 : i < lf.size := by rw [hp.2.1]; exact hj
            exact ⟨fun _ => by simp [q1, q2], fun h => by omega⟩
          · rw [getD_set_ne true e, getD_set_ne true e]; exact hp.2.2 j hj
        · intro j hj hpj
          by_cases e : i = j
          · subst e
            have q2 : i < lf.size := by rw [hp.2.1]; omega
            simp [q2]
          · rw [getD_set_ne true e]; exact hpre j hj hpj

/-- The operations at the places where the mask says so. -/
def pickL : List Oper → List Bool → List Oper
  | o :: l, true :: m => o :: pickL l m
  | _ :: l, false :: m => pickL l m
  | _, _ => []
def lexM (ops : Array Oper) : Nat → List Bool → Array Bool → Bool
  | _, [], listed => (Region.ready .any ops listed).isEmpty
  | k, true :: m, listed => (Region.ready .any ops listed).contains k && Region.free .any ops listed k && lexM ops (k + 1) m (listed.setIfInBounds k true)
  | k, false :: m, listed => lexM ops (k + 1) m listed
theorem lexP (hs : Region.noSelect ops = true) {QQ : Act → Prop} : ∀ (m : List Bool) (l : List Oper) (k : Nat) (listed : Array Bool) (a : Act), m.length = l.length → (∀ j, j < l.length → l[j]? = ops[k + j]?) →
    lexM ops k m listed = true → wpQuiet P ops C QQ (pickL l m) a → wpAnyQ P .any ops C QQ (pickL l m).length listed a
  | [], l, k, listed, a, hlen, _, hB, h => by
    have : l = [] := List.eq_nil_of_length_eq_zero (by simpa using hlen.symm)
    subst this
    exact ⟨by simpa [lexM] using hB, h⟩
  | b :: m, [], k, listed, a, hlen, _, _, _ => by simp at hlen
  | true :: m, o :: l, k, listed, a, hlen, hl, hB, h => by
    have h0 : ops[k]? = some o := by simpa using (hl 0 (by simp)).symm
    simp only [lexM, Bool.and_eq_true] at hB
    obtain ⟨⟨hr, hf⟩, hB'⟩ := hB
    simp only [pickL] at h ⊢
    obtain ⟨v, hy, hK⟩ := yieldsIn_of_qOp h0 (show qOp P ops C k (wpQuiet P ops C QQ (pickL l m)) a by unfold qOp; simp only [h0]; exact h)
    exact wpAnyQ_first h0 (Region.noSelect_spec hs) (pickL l m).length listed a (Region.free_spec h0 hf) (by simpa using hr) hy
      (lexP hs m l (k + 1) _ _ (by simpa using hlen) (fun j hj => by have := hl (j + 1) (by simpa using hj); simpa [Nat.add_assoc, Nat.add_comm 1 j] using this) hB' hK)
  | false :: m, o :: l, k, listed, a, hlen, hl, hB, h => by
    simp only [lexM] at hB
    simp only [pickL] at h ⊢
    exact lexP hs m l (k + 1) _ _ (by simpa using hlen) (fun j hj => by have := hl (j + 1) (by simpa using hj); simpa [Nat.add_assoc, Nat.add_comm 1 j] using this) hB h

/-- What has come up is closed. -/
def closedB (ops : Array Oper) (listed : Array Bool) : Bool :=
  (List.range ops.size).all fun j => match ops[j]? with
    | none => true
    | some o => !listed.getD j true || o.after.all fun e => !Region.binds .any e || listed.getD e.on false
theorem closed_of {listed : Array Bool} (h : closedB ops listed = true) : Closed ops listed := by
  intro j o hj hl e he hb
  have h1 := List.all_eq_true.1 h j (List.mem_range.2 (Array.getElem?_eq_some_iff.1 hj).1)
  simp only [hj, hl, Bool.not_true, Bool.false_or] at h1
  have h2 := Array.all_eq_true_iff_forall_mem.1 h1 e he
  simpa [hb] using h2
def preT (n N : Nat) (pre : Array Bool) : Array Bool := ((List.range N).map fun i => decide (n ≤ i) || pre.getD i true).toArray
def tailP (ops : Array Oper) (n : Nat) (m : List Bool) (listed : Array Bool) (fuel : Nat) : Bool :=
  decide (n ≤ ops.size) && okP ops n listed && Region.noSelect ops && lexM ops 0 m (preT n ops.size listed) && closedB ops listed && decide (m.length = n) && decide (listed.size = ops.size) &&
    (List.range ops.size).all (fun i => decide (i < n) || !listed.getD i true) && decide (m.count true + (ops.size - n) ≤ fuel)

theorem pickL_len : ∀ (l : List Oper) (m : List Bool), m.length ≤ l.length → (pickL l m).length = m.count true
  | _, [], _ => by cases ‹List Oper› <;> rfl
  | [], b :: m, h => by simp at h
  | o :: l, true :: m, h => by simp [pickL, pickL_len l m (by simpa using h)]
  | o :: l, false :: m, h => by simp [pickL, pickL_len l m (by simpa using h)]

/-- The law from a point where some operations have come up. m: which of the first n ones have not. -/
theorem wpAny_tailP {l : List Oper} {a : Act} {w : World} {listed : Array Bool} {fuel : Nat} (n : Nat) (m : List Bool) (hB : tailP l.toArray n m listed fuel = true) (hC : C w)
    (h : wpQuiet P l.toArray C (fun a' => ∀ w', C w' → wpList P l.toArray Q (l.drop n) a' w') (pickL (l.take n) m) a) : wpAny P .any l.toArray Q fuel listed a w := by
  simp only [tailP, Bool.and_eq_true, decide_eq_true_eq] at hB
  obtain ⟨⟨⟨⟨⟨⟨⟨⟨hn, hok⟩, hs⟩, hlex⟩, hcl⟩, hml⟩, hsz⟩, htl⟩, hf⟩ := hB
  have hn' : n ≤ l.length := by simpa using hn
  have hl : (l.take n).length = n := by simp; omega
  have hpl : (pickL (l.take n) m).length = m.count true := pickL_len _ _ (by omega)
  refine head_anyP (C := C) (QQ := fun a' => ∀ w', C w' → wpList P l.toArray Q (l.drop n) a' w') hn hok (fun a w hC h => by simpa using h w hC) (m.count true)
    (preT n l.toArray.size listed) listed a w fuel hf ?_ (closed_of hcl) ?_ hC ?_
  · refine ⟨by simp [preT], hsz, fun i hi => ?_⟩
    have e : (preT n l.toArray.size listed).getD i true = (decide (n ≤ i) || listed.getD i true) := by
      have hi' : i < l.length := by simpa using hi
      simp [preT, Array.getD_eq_getD_getElem?, List.getElem?_map, List.getElem?_range hi']
    refine ⟨fun h => ?_, fun h => ?_⟩
    · rw [e, decide_eq_false (by omega)]; rfl
    · have h1 := List.all_eq_true.1 htl i (List.mem_range.2 hi)
      simp only [Bool.or_eq_true, decide_eq_true_eq, Bool.not_eq_true'] at h1
      refine ⟨by rw [e, decide_eq_true h]; rfl, ?_⟩
      rcases h1 with h1 | h1
      · omega
      · exact h1
  · intro i hi hp
    have : i < listed.size := by rw [hsz]; omega
    simp [this] at hp ⊢; exact hp
  · have := lexP (P := P) (C := C) hs (QQ := fun a' => ∀ w', C w' → wpList P l.toArray Q (l.drop n) a' w') m (l.take n) 0 (preT n l.toArray.size listed) a (by omega)
      (fun j hj => by rw [hl] at hj; simp [hj]) hlex h
    rw [hpl] at this; exact this

/-- An operation that needs no memory comes up; the slot d that it writes is told. -/
theorem take_put {md : Region.Mode} (i d : Nat) (v : Value) {oi : Oper} {fuel : Nat} {listed : Array Bool} {a : Act} {w : World} (hi : ops[i]? = some oi) (hd : oi.dst = some d)
    (hs : Region.noSelect ops = true) (hf : Region.free md ops listed i = true) (hr : (Region.ready md ops listed).contains i = true)
    (hQ : ∀ c a w, Q (.panic c) (a.put oi.dst v) w → Q (.panic c) a w) (hy : Yields P ops oi v a)
    (h : wpAny P md ops Q fuel (listed.setIfInBounds i true) ⟨a.tmps.setIfInBounds d v, a.defers⟩ w) : wpAny P md ops Q (fuel + 1) listed a w :=
  wpAny_take hi hs hf hr hQ hy (by unfold Act.put; rw [hd]; exact h)

open Go.RowKit Go.Sort
/-- The same at the class of all worlds that have grown out of this one. -/
theorem wp_region_tail_grown {id : Nat} {a : Act} {w : World} {l : List Oper} (n : Nat) (hm : P.follows .mixedOrders = true) (hB : tailB l.toArray n = true)
    (h : wpQuiet P l.toArray (fun w' => ∃ p : Regrown, w' = grow (redrawn w p.d) p.os) (fun a' => ∀ w', (∃ p : Regrown, w' = grow (redrawn w p.d) p.os) → wpList P l.toArray Q (l.drop n) a' w') (l.take n) a) : (Code.region id l.toArray true).wp P Q a w :=
  wp_region_tail (C := fun w' => ∃ p : Regrown, w' = grow (redrawn w p.d) p.os) n hm hB ⟨⟨w.drawn + 1, #[]⟩, by rw [grow_empty]; rfl⟩ h
theorem wpAny_tail_grown {a : Act} {w : World} {l : List Oper} {listed : Array Bool} {fuel : Nat} (n : Nat) (m : List Bool) (hB : tailP l.toArray n m listed fuel = true)
    (h : wpQuiet P l.toArray (fun w' => ∃ p : Regrown, w' = grow (redrawn w p.d) p.os) (fun a' => ∀ w', (∃ p : Regrown, w' = grow (redrawn w p.d) p.os) → wpList P l.toArray Q (l.drop n) a' w') (pickL (l.take n) m) a) : wpAny P .any l.toArray Q fuel listed a { w with drawn := w.drawn + 1 } :=
  wpAny_tailP (C := fun w' => ∃ p : Regrown, w' = grow (redrawn w p.d) p.os) n m hB ⟨⟨w.drawn + 1, #[]⟩, by rw [grow_empty]; rfl⟩ h
/-- The same at the class of all worlds that are this one but for draws. -/
theorem wp_region_tail_drawn {id : Nat} {a : Act} {w : World} {l : List Oper} (n : Nat) (hm : P.follows .mixedOrders = true) (hB : tailB l.toArray n = true)
    (h : wpQuiet P l.toArray (fun w' => ∃ k, w' = w.drewN k) (fun a' => ∀ w', (∃ k, w' = w.drewN k) → wpList P l.toArray Q (l.drop n) a' w') (l.take n) a) : (Code.region id l.toArray true).wp P Q a w :=
  wp_region_tail (C := fun w' => ∃ k, w' = w.drewN k) n hm hB ⟨1, rfl⟩ h
end Tail

theorem below_of_grown' {a b : World} (h : a.grownBy b none) : Go.RowKit.Below a.heap.size a b := ⟨h.os, h.tape, h.output, h.size, fun i hi => h.block i hi (by simp)⟩

open Go.Sort in
theorem grown_re (w : World) (d : Nat) (os : Array Obj) : w.grownBy (grow (redrawn w d) os) none := by
  have h := below_regrown w d os
  exact ⟨h.os, h.tape, h.output, h.size, fun k hk _ => h.block k hk⟩
open Go.Sort in
/-- A callee whose contract gives one value and a grown world. -/
theorem call_re {P : Program} {f : FuncId} {args : Array Value} {w : World} {v : Value}
    (h : ∀ w', w.grownBy w' none → Calls P f args w' fun e w'' => e = .returned v ∧ w'.grownBy w'' none) (d : Nat) (os : Array Obj) :
    Calls P f args (grow (redrawn w d) os) fun e w'' => e = .returned v ∧ ∃ p : Regrown, w'' = grow (redrawn w p.d) p.os :=
  Calls.regrown_of ((h _ (grown_re w d os)).mono fun _ _ ⟨he, hg⟩ => ⟨he, below_of_grown' hg⟩)
end Go.Proofs.Ytiagjiaahnkefaa

/- Bounds: sums, caps, of entries; the program's and the references'. -/
namespace Go.Proofs.Ytiagjiaahnkefaa
open Go.RowKit

abbrev bndV (lo hi : Int) : Value := .agg #[.int .u64 lo, .int .u64 hi]
abbrev entV (k : ByteArray) (own slack : Int) : Value := .agg #[.string k, .int .u64 own, .int .u64 slack]

theorem bOf_c (k : ByteArray) (own slack : Int) (w : World) (h1 : W64 own) (h2 : W64 slack) : Calls Try.prog 75 #[entV k own slack] w (RetVal (bndV own (satA own slack)) w) := by
  go_enter Try.func75, Try.ntmps75
  go_wp2_with (go_at_call 52; refine (satAdd_c own slack _ h1 h2).mono ?_; rintro e w' ⟨rfl, rfl⟩)
  refine bodyPost_ret (v := bndV own (satA own slack)) (by simp [results, Try.results75, go_sem]) rfl ?_
  exact retVal rfl (by (repeat (first | exact grownBy_refl _ _ | assumption | refine grownBy_new_block ?_ _ | refine grownBy_drew ?_ | refine grownBy_drewN ?_ _ | refine grownBy_setNew ?_ (by first | (simp; done) | omega | (simp; omega)) _)))

theorem rOf_c (k : ByteArray) (own slack : Int) (w : World) (h1 : W64 own) (h2 : W64 slack) : Calls Try.prog 116 #[entV k own slack] w (RetVal (bndV own (satA own slack)) w) := by
  go_enter Try.func116, Try.ntmps116
  go_wp2_with fail
  (refine Tail.wp_region_tail_drawn 8 (by kernel_rfl) (by kernel_rfl) ?_; simp only [List.take, List.drop]; (repeat (go_big_quiet_step ((go_at_call 84; exact Calls.quiet_of_same ((rsum_c own slack _ h1 h2).mono fun _ _ ⟨he, hw⟩ => ⟨he, hw.symm⟩))))); refine wpQuiet_nil ?_; rintro _ ⟨nq, rfl⟩)
  go_wp2_with fail
  refine bodyPost_ret (v := bndV own (satA own slack)) (by simp [results, Try.results116, go_sem]) rfl ?_
  exact retVal rfl (by (repeat (first | exact grownBy_refl _ _ | assumption | refine grownBy_new_block ?_ _ | refine grownBy_drew ?_ | refine grownBy_drewN ?_ _ | refine grownBy_setNew ?_ (by first | (simp; done) | omega | (simp; omega)) _)))

theorem bCap_c (lo hi m : Int) (w : World) : Calls Try.prog 76 #[bndV lo hi, .int .u64 m] w (RetVal (bndV (min lo m) (min hi m)) w) := by
  go_enter Try.func76, Try.ntmps76
  go_wp2
  refine bodyPost_ret (v := bndV (min lo m) (min hi m)) (by simp [results, Try.results76, go_sem]) rfl ?_
  exact retVal rfl (by (repeat (first | exact grownBy_refl _ _ | assumption | refine grownBy_new_block ?_ _ | refine grownBy_drew ?_ | refine grownBy_drewN ?_ _ | refine grownBy_setNew ?_ (by first | (simp; done) | omega | (simp; omega)) _)))
theorem rCap_c (lo hi m : Int) (w : World) : Calls Try.prog 115 #[bndV lo hi, .int .u64 m] w (RetVal (bndV (min lo m) (min hi m)) w) := by
  go_enter Try.func115, Try.ntmps115
  go_wp2
  refine bodyPost_ret (v := bndV (min lo m) (min hi m)) (by simp [results, Try.results115, go_sem]) rfl ?_
  exact retVal rfl (by (repeat (first | exact grownBy_refl _ _ | assumption | refine grownBy_new_block ?_ _ | refine grownBy_drew ?_ | refine grownBy_drewN ?_ _ | refine grownBy_setNew ?_ (by first | (simp; done) | omega | (simp; omega)) _)))

theorem bAdd_c (lo hi lo' hi' : Int) (w : World) (h1 : W64 lo) (h2 : W64 hi) (h3 : W64 lo') (h4 : W64 hi') : Calls Try.prog 80 #[bndV lo hi, bndV lo' hi'] w (RetVal (bndV (satA lo lo') (satA hi hi')) w) := by
  go_enter Try.func80, Try.ntmps80
  go_wp2_with (first | (go_at_call_of 52 (Value.int IntKind.u64 lo); refine (satAdd_c lo lo' _ h1 h3).mono ?_; rintro e w' ⟨rfl, rfl⟩) | (go_at_call_of 52 (Value.int IntKind.u64 hi); refine (satAdd_c hi hi' _ h2 h4).mono ?_; rintro e w' ⟨rfl, rfl⟩))
  refine bodyPost_ret (v := bndV (satA lo lo') (satA hi hi')) (by simp [results, Try.results80, go_sem]) rfl ?_
  exact retVal rfl (by (repeat (first | exact grownBy_refl _ _ | assumption | refine grownBy_new_block ?_ _ | refine grownBy_drew ?_ | refine grownBy_drewN ?_ _ | refine grownBy_setNew ?_ (by first | (simp; done) | omega | (simp; omega)) _)))
theorem rAdd_c (lo hi lo' hi' : Int) (w : World) (h1 : W64 lo) (h2 : W64 hi) (h3 : W64 lo') (h4 : W64 hi') : Calls Try.prog 90 #[bndV lo hi, bndV lo' hi'] w (RetVal (bndV (satA lo lo') (satA hi hi')) w) := by
  go_enter Try.func90, Try.ntmps90
  go_wp2_with fail
  have r4 := fun w => rsum_c lo lo' w h1 h3
  have r5 := fun w => rsum_c hi hi' w h2 h4
  (refine Tail.wp_region_tail_drawn 11 (by kernel_rfl) (by kernel_rfl) ?_; simp only [List.take, List.drop]; (repeat (go_big_quiet_step (first | (with_reducible exact Calls.quiet_of_same ((r4 _).mono fun _ _ ⟨he, hw⟩ => ⟨he, hw.symm⟩)) | (with_reducible exact Calls.quiet_of_same ((r5 _).mono fun _ _ ⟨he, hw⟩ => ⟨he, hw.symm⟩))))); refine wpQuiet_nil ?_; rintro _ ⟨nq, rfl⟩)
  clear r4 r5
  go_wp2_with fail
  refine bodyPost_ret (v := bndV (satA lo lo') (satA hi hi')) (by simp [results, Try.results90, go_sem]) rfl ?_
  exact retVal rfl (by (repeat (first | exact grownBy_refl _ _ | assumption | refine grownBy_new_block ?_ _ | refine grownBy_drew ?_ | refine grownBy_drewN ?_ _ | refine grownBy_setNew ?_ (by first | (simp; done) | omega | (simp; omega)) _)))

def exactB (own slack m : Int) : Bool := decide (own + slack ≤ m)
theorem rExact_c (own slack m : Int) (w : World) (h1 : W64 own) (h2 : W64 slack) (h3 : W64 m) : Calls Try.prog 111 #[.int .u64 own, .int .u64 slack, .int .u64 m] w (RetBool (exactB own slack m) w) := by
  by_cases hle : own ≤ m
  · have d1 : decide (own ≤ m) = true := decide_eq_true hle
    have hw : IntKind.u64.wrap (m - own) = m - own := IntWalk.u64_in _ (by unfold W64 at *; omega)
    have hx : exactB own slack m = decide (slack ≤ m - own) := by unfold exactB; rw [Bool.eq_iff_iff]; simp; omega
    have Hx := Lib.hid hx
    clear hx hle h1 h2 h3
    go_enter Try.func111, Try.ntmps111
    go_wp2
    go_ret
    exact retBool Hx.out (grownBy_refl _ _)
  · have d1 : decide (own ≤ m) = false := decide_eq_false hle
    have hx : exactB own slack m = false := by unfold exactB; unfold W64 at *; simp; omega
    have Hx := Lib.hid hx
    clear hx hle h1 h2 h3
    go_enter Try.func111, Try.ntmps111
    go_wp2
    go_ret
    exact retBool Hx.out (grownBy_refl _ _)

/-- A line: a key with bounds. -/
abbrev lineV (k : ByteArray) (lo hi : Int) : Value := .agg #[.string k, .int .u64 lo, .int .u64 hi]
def beforeB (k : ByteArray) (hi : Int) (k' : ByteArray) (hi' : Int) : Bool := decide (hi' < hi) || (hi == hi' && Op.bytesLess k.toList k'.toList)
theorem before_1 {k k' : ByteArray} {hi hi' : Int} (h : hi' < hi) : beforeB k hi k' hi' = true := by unfold beforeB; rw [decide_eq_true h]; rfl
theorem before_2 {k k' : ByteArray} {hi hi' : Int} (h : hi ≤ hi') (h2 : ¬ hi = hi') : beforeB k hi k' hi' = false := by unfold beforeB; rw [decide_eq_false (by omega), beq_eq_false_iff_ne.2 h2]; rfl
theorem before_3 {k k' : ByteArray} {hi hi' : Int} (h2 : hi = hi') : beforeB k hi k' hi' = Op.bytesLess k.toList k'.toList := by unfold beforeB; rw [decide_eq_false (by omega), beq_iff_eq.2 h2]; simp
theorem bBefore_c (k k' : ByteArray) (lo hi lo' hi' : Int) (w : World) : Calls Try.prog 95 #[lineV k lo hi, lineV k' lo' hi'] w (RetBool (beforeB k hi k' hi') w) := by
  go_enter Try.func95, Try.ntmps95
  go_wp2
  all_goals go_ret
  · exact retBool (before_3 (by assumption)) (by (repeat (first | exact grownBy_refl _ _ | assumption | refine grownBy_new_block ?_ _ | refine grownBy_drew ?_ | refine grownBy_drewN ?_ _ | refine grownBy_setNew ?_ (by first | (simp; done) | omega | (simp; omega)) _)))
  · exact retBool ((before_2 (by assumption) (by assumption)).trans (decide_eq_false (by omega)).symm) (by (repeat (first | exact grownBy_refl _ _ | assumption | refine grownBy_new_block ?_ _ | refine grownBy_drew ?_ | refine grownBy_drewN ?_ _ | refine grownBy_setNew ?_ (by first | (simp; done) | omega | (simp; omega)) _)))
  · exact retBool (before_1 (by assumption)) (by (repeat (first | exact grownBy_refl _ _ | assumption | refine grownBy_new_block ?_ _ | refine grownBy_drew ?_ | refine grownBy_drewN ?_ _ | refine grownBy_setNew ?_ (by first | (simp; done) | omega | (simp; omega)) _)))
theorem rBefore_c (k k' : ByteArray) (lo hi lo' hi' : Int) (w : World) : Calls Try.prog 53 #[lineV k lo hi, lineV k' lo' hi'] w (RetBool (beforeB k hi k' hi') w) := by
  go_enter Try.func53, Try.ntmps53
  go_wp2
  all_goals go_ret
  · exact retBool (before_3 (by assumption)) (by (repeat (first | exact grownBy_refl _ _ | assumption | refine grownBy_new_block ?_ _ | refine grownBy_drew ?_ | refine grownBy_drewN ?_ _ | refine grownBy_setNew ?_ (by first | (simp; done) | omega | (simp; omega)) _)))
  · exact retBool ((before_2 (by assumption) (by assumption)).trans (decide_eq_false (by omega)).symm) (by (repeat (first | exact grownBy_refl _ _ | assumption | refine grownBy_new_block ?_ _ | refine grownBy_drew ?_ | refine grownBy_drewN ?_ _ | refine grownBy_setNew ?_ (by first | (simp; done) | omega | (simp; omega)) _)))
  · exact retBool (before_1 (by assumption)) (by (repeat (first | exact grownBy_refl _ _ | assumption | refine grownBy_new_block ?_ _ | refine grownBy_drew ?_ | refine grownBy_drewN ?_ _ | refine grownBy_setNew ?_ (by first | (simp; done) | omega | (simp; omega)) _)))
end Go.Proofs.Ytiagjiaahnkefaa

/- Size classes as they are specified: Fit, Classes. -/
namespace Go.Proofs.Ytiagjiaahnkefaa
open Go.RowKit

theorem Rd.shape {w : World} {size : Nat} {v : Value} {n : Nat} {xs : List Value} (h : Rd w size v n xs) : ∃ a cap, v = .slice a n cap := by
  rcases h.2.2 with ⟨rfl, a, cap, rfl⟩ | ⟨g, off, cap, rfl, _⟩
  · exact ⟨_, _, rfl⟩
  · exact ⟨_, _, rfl⟩

theorem Rd.blockLt {w : World} {size : Nat} {v : Value} {n : Nat} {xs : List Value} (h : Rd w size v n xs) (h0 : 0 < n) : ∀ a n' c, v = .slice (some a) n' c → a.block < w.heap.size := by
  intro a n' c hv
  rcases h.2.2 with ⟨h, _⟩ | ⟨g, off, cap, h, hg, _⟩
  · omega
  · rw [h] at hv; cases hv; exact hg

/-- The cells of a list of elements. -/
def cellsOf {α : Type} (f : α → List Value) (l : List α) : List Value := l.flatMap f

theorem length_cellsOf {α : Type} (f : α → List Value) (s : Nat) (hs : ∀ x, (f x).length = s) (l : List α) : (cellsOf f l).length = l.length * s := by
  induction l with
  | nil => simp [cellsOf]
  | cons x l ih => simp only [cellsOf, List.flatMap_cons, List.length_append, List.length_cons] at *; rw [ih, hs, Nat.add_mul]; omega

theorem get_cellsOf {α : Type} (f : α → List Value) (s : Nat) (hs : ∀ x, (f x).length = s) (l : List α) (i j : Nat) (hj : j < s) (x : α) (hx : l[i]? = some x) :
    (cellsOf f l)[i * s + j]? = (f x)[j]? := by
  induction l generalizing i with
  | nil => simp at hx
  | cons y l ih =>
    cases i with
    | zero =>
      simp at hx; subst hx
      simp only [cellsOf, List.flatMap_cons, Nat.zero_mul, Nat.zero_add]
      rw [List.getElem?_append_left (by rw [hs]; exact hj)]
    | succ i =>
      simp only [List.getElem?_cons_succ] at hx
      have := ih i hx
      simp only [cellsOf, List.flatMap_cons] at *
      rw [List.getElem?_append_right (by rw [hs, Nat.add_mul]; omega), hs, ← this]
      congr 1
      rw [Nat.add_mul]; omega

def RdL {α : Type} (f : α → List Value) (s : Nat) (w : World) (v : Value) (l : List α) : Prop := Rd w s v l.length (cellsOf f l)

theorem RdL.cell {α : Type} {f : α → List Value} {s : Nat} {w : World} {v : Value} {l : List α} (h : RdL f s w v l) (hs : ∀ x, (f x).length = s) (hl : 0 < l.length) :
    ∃ g off cap, v = .slice (some ⟨g, off, none⟩) l.length cap ∧ g < w.heap.size ∧ ∀ i x, l[i]? = some x → ∀ j u, (f x)[j]? = some u → w.cell? ⟨g, off + i * s + j, none⟩ = some u := by
  rcases h.2.2 with ⟨h0, _⟩ | ⟨g, off, cap, rfl, hg, hc⟩
  · omega
  · refine ⟨g, off, cap, rfl, hg, fun i x hx j u hu => ?_⟩
    have hj : j < s := by rw [← hs x]; exact (List.getElem?_eq_some_iff.1 hu).1
    rw [Nat.add_assoc]
    exact hc _ _ ((get_cellsOf f s hs l i j hj x hx).trans hu)

/-- A size class: its size and its count. -/
def clsF (p : Int × Int) : List Value := [.int .i64 p.1, .int .i64 p.2]
theorem clsF_len (p : Int × Int) : (clsF p).length = 2 := rfl

def fit (l : List (Int × Int)) (size : Int) : Option Nat := if 1 ≤ size then l.findIdx? (fun p => decide (size ≤ p.1)) else none
def fitI (l : List (Int × Int)) (size : Int) : Nat := (fit l size).getD 0
def fitE (l : List (Int × Int)) (size : Int) : Int := if (fit l size).isSome then 0 else 1
def FitPost (l : List (Int × Int)) (size : Int) (w : World) (e : Ending) (w' : World) : Prop :=
  e = .returned (.tuple #[.int .i64 (fitI l size : Nat), .int .i64 (fitE l size)]) ∧ w.grownBy w' none
theorem fitI_lt {l : List (Int × Int)} (n : Int) (h : 0 < l.length) : fitI l n < l.length := by
  unfold fitI fit
  split
  · cases hf : l.findIdx? _ with
    | none => simpa using h
    | some k =>
      rw [List.findIdx?_eq_some_iff_getElem] at hf
      obtain ⟨h, _⟩ := hf
      simpa using h
  · simpa using h

theorem fit_none {l : List (Int × Int)} {size : Int} (h : ∀ (j : Nat) (p : Int × Int), l[j]? = some p → p.1 < size) : fit l size = none := by
  unfold fit; split
  · rw [List.findIdx?_eq_none_iff]
    intro x hx
    obtain ⟨i, hi⟩ := List.mem_iff_getElem?.1 hx
    have := h i x hi
    simp; omega
  · rfl
theorem fit_some {l : List (Int × Int)} {size : Int} {k : Nat} {p : Int × Int} (hs : 1 ≤ size) (h : ∀ (j : Nat) (p : Int × Int), j < k → l[j]? = some p → p.1 < size) (hk : l[k]? = some p) (hp : size ≤ p.1) : fit l size = some k := by
  unfold fit; rw [if_pos hs, List.findIdx?_eq_some_iff_getElem]
  obtain ⟨hlt, rfl⟩ := List.getElem?_eq_some_iff.1 hk
  refine ⟨hlt, by simpa using hp, fun j hj => ?_⟩
  have := h j l[j] hj (List.getElem?_eq_getElem _)
  simp; omega

set_option maxHeartbeats 400000 in
theorem fit_c (v : Value) (l : List (Int × Int)) (size : Int) (w : World) (h : RdL clsF 2 w v l) :
    Calls Try.prog 101 #[v, .int .i64 size] w (FitPost l size w) := by
  obtain ⟨a, cap, rfl⟩ := h.shape
  have hm := h.2.1
  by_cases hs : 1 ≤ size
  · go_enter Try.func101, Try.ntmps101
    go_wp2
    go_loopw [12] (fun i wr => ∃ k : Nat, k ≤ l.length ∧ i = .int .i64 k ∧ (∀ j (p : Int × Int), j < k → l[j]? = some p → p.1 < size) ∧ w.grownBy wr none) (fun i _ => l.length - (intOf i).toNat)
    case atStart => exact ⟨0, Nat.zero_le _, rfl, by simp, grownBy_refl _ _⟩
    case round =>
      obtain ⟨k, hk, rfl, hall, hg⟩ := hrel
      by_cases hlt : k < l.length
      · obtain ⟨g, off, cap', hv, hgl, hc⟩ := h.cell clsF_len (by omega)
        cases hv
        obtain ⟨p, hp⟩ : ∃ p, l[k]? = some p := ⟨l[k], List.getElem?_eq_getElem hlt⟩
        have hcell := grownBy_cells hg
        have c0 : wr.cell? ⟨g, off + k * 2, none⟩ = some (.int .i64 p.1) := by rw [hcell.1 _ _ hgl (by simp)]; exact hc k p hp 0 _ rfl
        have c1 : wr.cell? ⟨g, off + k * 2 + 1, none⟩ = some (.int .i64 p.2) := by rw [hcell.1 _ _ hgl (by simp)]; exact hc k p hp 1 _ rfl
        clear hcell hc
        have Hp := Lib.hid hp
        have Hall := Lib.hid hall
        clear hp hall
        by_cases hsz : size ≤ p.1
        · go_wp2
          go_ret2
          have hf := fit_some hs Hall.out Hp.out hsz
          exact ⟨by simp [fitI, fitE, hf], grownBy_new_block hg _⟩
        · go_wp2
          refine ⟨⟨k + 1, by omega, by go_num, ?_, grownBy_new_block hg _⟩, ?_⟩
          · intro j q hj hq
            by_cases e : j = k
            · subst e; rw [Hp.out] at hq; cases hq; omega
            · exact Hall.out j q (by omega) hq
          · simp [intOf]; omega
      · have hk' : k = l.length := by omega
        have hn : fit l size = none := fit_none fun j p hp => hall j p (by rw [hk']; exact (List.getElem?_eq_some_iff.1 hp).1) hp
        have Hn := Lib.hid hn
        have Hk := Lib.hid hk'
        clear hn hall hk'
        go_wp2
        go_ret2
        exact ⟨by simp [fitI, fitE, Hn.out], hg⟩
  · have hn : fit l size = none := by unfold fit; rw [if_neg hs]
    go_enter Try.func101, Try.ntmps101
    have Hn := Lib.hid hn
    clear hn
    go_wp2
    go_ret2
    exact ⟨by simp [fitI, fitE, Hn.out], grownBy_refl _ _⟩
end Go.Proofs.Ytiagjiaahnkefaa
