/- The deck of numbers: what New, Next, Within and Word do. -/
import Derived.Test.YtniokdflljchgaaRows
import Derived.WalkKit
import Derived.WalkSpells
import Derived.WalkLawsBesides
import Derived.BigQuiet
import Derived.Deep.QuietTactic
import Derived.Deep.DeepCutAuto
import Derived.Lib.Hide
namespace Go.Proofs.Ytniokdflljchgaa
open Go.RowKit

/-! ### Worlds -/
theorem grownBy_refl (w : World) (r : Option Nat) : w.grownBy w r := ⟨rfl, rfl, rfl, Nat.le_refl _, fun _ _ _ => rfl⟩
theorem grownBy_trans {a b c : World} {r : Option Nat} (h : a.grownBy b r) (k : b.grownBy c r) : a.grownBy c r :=
  ⟨k.os.trans h.os, k.tape.trans h.tape, k.output.trans h.output, Nat.le_trans h.size k.size,
    fun i hi hn => (k.block i (Nat.lt_of_lt_of_le hi h.size) hn).trans (h.block i hi hn)⟩
theorem grownBy_some {a b : World} (h : a.grownBy b none) (r : Option Nat) : a.grownBy b r :=
  ⟨h.os, h.tape, h.output, h.size, fun i hi _ => h.block i hi (by simp)⟩
/-- Two steps, the second into a block that the first has made. -/
theorem grownBy_new {a b c : World} {r : Option Nat} {g : Nat} (h : a.grownBy b r) (k : b.grownBy c (some g)) (hg : a.heap.size ≤ g) : a.grownBy c r :=
  ⟨k.os.trans h.os, k.tape.trans h.tape, k.output.trans h.output, Nat.le_trans h.size k.size,
    fun i hi hn => (k.block i (Nat.lt_of_lt_of_le hi h.size) (by simp; omega)).trans (h.block i hi hn)⟩
theorem grownBy_drew {a b : World} {r : Option Nat} (h : a.grownBy b r) : a.grownBy b.drew r := ⟨h.os, h.tape, h.output, h.size, h.block⟩
theorem grownBy_drewN {a b : World} {r : Option Nat} (h : a.grownBy b r) (n : Nat) : a.grownBy (b.drewN n) r := ⟨h.os, h.tape, h.output, h.size, h.block⟩
theorem grownBy_new_block {a b : World} {r : Option Nat} (h : a.grownBy b r) (o : Obj) : a.grownBy (b.alloc o) r := grownBy_trans h (World.grownBy_alloc b o r)
theorem grownBy_set {a b : World} {g : Nat} (h : a.grownBy b (some g)) (o : Nat) (v : Value) : a.grownBy (b.setCell ⟨g, o, none⟩ v) (some g) :=
  grownBy_trans h ⟨rfl, rfl, rfl, by simp [World.setCell], fun i _ hn => Below.heap_setCell _ _ _ _ (by simpa using hn)⟩
theorem grownBy_setNew {a b : World} {r : Option Nat} (h : a.grownBy b r) {p : Addr} (hp : a.heap.size ≤ p.block) (v : Value) : a.grownBy (b.setCell p v) r :=
  ⟨h.os, h.tape, h.output, by have := h.size; simpa [World.setCell] using this, fun i hi hn => (Below.heap_setCell _ _ _ _ (by omega)).trans (h.block i hi hn)⟩
theorem below_of_grown {a b : World} (h : a.grownBy b none) : Below a.heap.size a b := ⟨h.os, h.tape, h.output, h.size, fun i hi => h.block i hi (by simp)⟩
theorem grownBy_cells {a b : World} {r : Option Nat} (h : a.grownBy b r) : (∀ k o, k < a.heap.size → some k ≠ r → b.cell? ⟨k, o, none⟩ = a.cell? ⟨k, o, none⟩) ∧ (∀ k o, k < a.heap.size → some k ≠ r → b.frozen? ⟨k, o, none⟩ = a.frozen? ⟨k, o, none⟩) :=
  ⟨fun k _ hk hn => World.cell?_of_block (h.block k hk hn), fun k _ hk hn => World.frozen?_of_block (h.block k hk hn)⟩

theorem heap_set {w : World} {b o : Nat} {c : Array Value} {t : TypeId} {f : Nat × Nat} (v : Value) (h : w.heap[b]? = some (.cells c t f)) :
    (w.setCell ⟨b, o, none⟩ v).heap[b]? = some (.cells (c.setIfInBounds o v) t f) := by
  simp [World.setCell, Array.getElem?_modify, h]

/-! ### Slices that are read -/
/-- 'v' is a slice of n elements whose cells, one behind the other, are xs. -/
def Rd (w : World) (size : Nat) (v : Value) (n : Nat) (xs : List Value) : Prop :=
  xs.length = n * size ∧ n ≤ 9223372036854775807 ∧ ((n = 0 ∧ ∃ a cap, v = .slice a 0 cap) ∨
    ∃ g off cap, v = .slice (some ⟨g, off, none⟩) n cap ∧ g < w.heap.size ∧ ∀ j u, xs[j]? = some u → w.cell? ⟨g, off + j, none⟩ = some u)
/-- It does not lie in block b. -/
def NotIn (v : Value) (b : Nat) : Prop := ∀ a n c, v = .slice (some a) n c → a.block ≠ b
theorem Rd.kept {w w' : World} {size : Nat} {v : Value} {n : Nat} {xs : List Value} {r : Option Nat} (h : Rd w size v n xs) (hg : w.grownBy w' r) (hr : ∀ b, r = some b → NotIn v b) : Rd w' size v n xs := by
  obtain ⟨h1, h0, h2⟩ := h
  refine ⟨h1, h0, ?_⟩
  rcases h2 with h2 | ⟨g, off, cap, hv, hlt, hc⟩
  · exact .inl h2
  · refine .inr ⟨g, off, cap, hv, Nat.lt_of_lt_of_le hlt hg.size, fun j u hu => ?_⟩
    rw [World.cell?_of_block (a := ⟨g, off + j, none⟩) (hg.block g hlt ?_)]
    · exact hc j u hu
    · intro e; exact hr g e.symm _ _ _ hv rfl
theorem Rd.kept0 {w w' : World} {size : Nat} {v : Value} {n : Nat} {xs : List Value} {r : Option Nat} (h : Rd w size v n xs) (hg : w.grownBy w' r) (hr : 0 < n → ∀ b, r = some b → NotIn v b) : Rd w' size v n xs := by
  rcases Nat.eq_zero_or_pos n with h0 | h0
  · rcases h.2.2 with ⟨_, a, cap, rfl⟩ | ⟨g, off, cap, rfl, _⟩
    · exact ⟨h.1, h.2.1, .inl ⟨h0, a, cap, rfl⟩⟩
    · exact ⟨h.1, h.2.1, .inl ⟨h0, some ⟨g, off, none⟩, cap, by rw [h0]⟩⟩
  · exact h.kept hg (hr h0)
theorem Rd.same {w w' : World} {size : Nat} {v : Value} {n : Nat} {xs : List Value} (h : Rd w size v n xs) (hg : w.grownBy w' none) : Rd w' size v n xs :=
  h.kept hg (by simp)

/-! ### The deck -/
theorem within_num (x n : Int) (h : 0 < n) : (x.tmod n + n) % n = x % n := by
  have h1 : x.tmod n = if 0 ≤ x ∨ n ∣ x then x % n else x % n - n := by
    rw [Int.tmod_eq_emod]; split
    · simp
    · have : (n.natAbs : Int) = n := by omega
      rw [this]
  rw [h1]
  split
  · rw [Int.add_emod_right, Int.emod_emod]
  · rw [show x % n - n + n = x % n from by omega, Int.emod_emod]

theorem within_tmod (x n : Int) (h : 0 < n) : -n < x.tmod n ∧ x.tmod n < n := by
  have h1 : x.tmod n = if 0 ≤ x ∨ n ∣ x then x % n else x % n - n := by
    rw [Int.tmod_eq_emod]; split
    · simp
    · have : (n.natAbs : Int) = n := by omega
      rw [this]
  have a := Int.emod_nonneg x (show n ≠ 0 by omega)
  have b := Int.emod_lt_of_pos x h
  rw [h1]; split <;> omega

set_option maxHeartbeats 400000 in
theorem within_c (x n : Int) (w : World) (h0 : 0 < n) (h1 : n ≤ 4611686018427387904) :
    Calls Try.prog 80 #[.int .i64 x, .int .i64 n] w fun e w' => e = .returned (.int .i64 (x % n)) ∧ w = w' := by
  have H := Lib.hid (within_num x n h0)
  obtain ⟨ha, hb⟩ := within_tmod x n h0
  go_enter Try.func80, Try.ntmps80
  go_wp2
  go_ret
  exact ⟨congrArg (fun i => Ending.returned (Value.int IntKind.i64 i)) H.out, rfl⟩

/-- Block b holds a deck; it and its numbers lie below block B. -/
def Deck (B : Nat) (w : World) (b : Nat) : Prop :=
  ∃ sv, ∃ xs : List Int, ∃ k n : Nat, w.heap[b]? = some (.cells #[sv, .int .i64 k] 108) ∧ k ≤ n ∧ Rd w 1 sv n (xs.map (fun x => Value.int .i64 x)) ∧ (0 < n → NotIn sv b) ∧ b < B ∧ (0 < n → ∀ a n c, sv = .slice (some a) n c → a.block < B)
theorem Deck.lt {B : Nat} {w : World} {b : Nat} (h : Deck B w b) : b < w.heap.size := by
  obtain ⟨_, _, _, _, h, _⟩ := h; exact (Array.getElem?_eq_some_iff.1 h).1
theorem Deck.below {B : Nat} {w : World} {b : Nat} (h : Deck B w b) : b < B := by
  obtain ⟨_, _, _, _, _, _, _, _, h, _⟩ := h; exact h
theorem Deck.kept {B : Nat} {w w' : World} {b : Nat} {r : Option Nat} (h : Deck B w b) (hg : w.grownBy w' r) (hr : ∀ c, r = some c → B ≤ c) : Deck B w' b := by
  have hlt := h.lt
  obtain ⟨sv, xs, k, n, h1, h3, h4, h5, h6, h7⟩ := h
  refine ⟨sv, xs, k, n, (hg.block b hlt (fun e => by have := hr _ e.symm; omega)).trans h1, h3, h4.kept0 hg ?_, h5, h6, h7⟩
  intro h0 c hc a n' c' hv
  have h8 := hr c hc
  have h9 := h7 h0 _ _ _ hv
  omega
theorem Deck.alloc {B : Nat} {w : World} {b : Nat} (h : Deck B w b) (o : Obj) : Deck B (w.alloc o) b := h.kept (World.grownBy_alloc w o none) (by simp)

def NextPost (B b : Nat) (m : Int) (w : World) (e : Ending) (w' : World) : Prop :=
  ∃ r, e = .returned (.int .i64 r) ∧ 0 ≤ r ∧ r < m ∧ Deck B w' b ∧ w.grownBy w' (some b)

set_option maxHeartbeats 400000 in
theorem next_c {B : Nat} (b : Nat) (m : Int) (w : World) (hd : Deck B w b) (h0 : 0 < m) (h1 : m ≤ 4611686018427387904) :
    Calls Try.prog 62 #[.pointer (some ⟨b, 0, none⟩), .int .i64 m] w (NextPost B b m w) := by
  have Hd := Lib.hid hd
  obtain ⟨sv, xs, k, n, hb, hk1, hr, hni, hbB, hnB⟩ := hd
  have hn63 := hr.2.1
  have hsv : ∃ a cap, sv = .slice a n cap := by
    rcases hr.2.2 with ⟨rfl, a, cap, rfl⟩ | ⟨g, off, cap, rfl, _⟩
    · exact ⟨_, _, rfl⟩
    · exact ⟨_, _, rfl⟩
  obtain ⟨a, cap, rfl⟩ := hsv
  have c0 : w.cell? ⟨b, 0, none⟩ = some (.slice a n cap) := by simp [World.cell?, hb]
  have c1 : w.cell? ⟨b, 1, none⟩ = some (.int .i64 k) := by simp [World.cell?, hb]
  have f1 : w.frozen? ⟨b, 1, none⟩ = false := by simp [World.frozen?, hb]
  by_cases hlt : k < n
  · rcases hr.2.2 with ⟨h0, _⟩ | ⟨g, off, cap', hv, hg, hc⟩
    · omega
    cases hv
    have hgb : g ≠ b := hni (by omega) _ _ _ rfl
    have hlen : xs.length = n := by simpa using hr.1
    have cx : w.cell? ⟨g, off + k, none⟩ = some (.int .i64 (xs.getD k 0)) := by
      refine hc k _ ?_
      rw [List.getElem?_map, List.getElem?_eq_getElem (by omega)]
      simp [List.getD_eq_getElem?_getD, List.getElem?_eq_getElem (show k < xs.length by omega)]
    generalize xs.getD k 0 = x at cx
    have hr0 := Int.emod_nonneg x (show m ≠ 0 by omega)
    have hr1 := Int.emod_lt_of_pos x h0
    have Hb := Lib.hid hb
    have Hr := Lib.hid hr
    have HnB := Lib.hid hnB
    clear hb hr hc hlen hni hnB
    go_enter Try.func62, Try.ntmps62
    go_wp2
    go_quiet (fail)
    obtain ⟨n1, rfl⟩ : ∃ n1, n1 = nq := ⟨_, rfl⟩
    go_wp2
    have hwr : IntKind.i64.wrap (k : Int) = k := IntWalk.i64_in _ (by omega)
    go_quiet ((go_at_call 80; exact Calls.quiet_of_same ((within_c _ _ _ h0 h1).mono fun _ _ ⟨he, hw⟩ => ⟨he, hw.symm⟩)))
    clear hwr
    go_wp2
    go_ret
    have G : w.grownBy (((w.drewN n1).setCell ⟨b, 1, none⟩ (.int .i64 ((k : Int) + 1))).drewN nq) (some b) := grownBy_drewN (grownBy_set (grownBy_drewN (grownBy_refl w _) _) _ _) _
    refine ⟨x % m, rfl, hr0, hr1, ⟨_, xs, k + 1, n, ?_, hlt, Hr.out.kept G ?_, ?_, hbB, HnB.out⟩, G⟩
    · exact heap_set _ Hb.out
    · intro c hc; cases hc; intro a n' c' hv; cases hv; exact hgb
    · intro _ a n' c' hv; cases hv; exact hgb
  · have hle : n ≤ k := by omega
    clear hlt
    have Hb := Lib.hid hb
    have Hr := Lib.hid hr
    clear hb hr hnB
    go_enter Try.func62, Try.ntmps62
    go_wp2
    go_quiet (fail)
    go_wp2
    go_ret
    exact ⟨0, rfl, Int.le_refl _, h0, Hd.out.kept (grownBy_drewN (grownBy_refl w none) _) (by simp), grownBy_drewN (grownBy_refl w _) _⟩
end Go.Proofs.Ytniokdflljchgaa
