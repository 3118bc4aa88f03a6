/- Stores into slices of the call's own. -/
import Derived.Test.YtniokdflljchgaaSl
import Derived.Test.YtniokdflljchgaaBlk
namespace Go.Proofs.Ytniokdflljchgaa
open Go.RowKit

theorem cellsOf_set {α : Type} {f : α → List Value} {s : Nat} (hs : ∀ x, (f x).length = s) : ∀ {l : List α} {i j : Nat} {u : Value} {y : α}, (hi : i < l.length) → j < s → f y = (f l[i]).set j u → cellsOf f (l.set i y) = (cellsOf f l).set (i * s + j) u
  | [], i, _, _, _, hi, _, _ => by simp at hi
  | a :: l, 0, j, u, y, _, hj, hy => by
    simp only [List.set_cons_zero, cellsOf, List.flatMap_cons, Nat.zero_mul, Nat.zero_add]
    rw [List.set_append_left _ _ (by rw [hs]; exact hj)]
    rw [hy]; rfl
  | a :: l, i + 1, j, u, y, hi, hj, hy => by
    have ih := cellsOf_set hs (l := l) (i := i) (j := j) (u := u) (y := y) (by simpa using hi) hj (by simpa using hy)
    simp only [List.set_cons_succ, cellsOf, List.flatMap_cons] at *
    rw [ih, List.set_append_right _ _ (by rw [hs, Nat.add_mul]; omega), hs]
    congr 2
    rw [Nat.add_mul]; omega
/-- One cell of an element is stored. -/
theorem Own.stored {α : Type} {f : α → List Value} {s : Nat} {e : TypeId} {B : Nat} {w : World} {g n cap : Nat} {l : List α} (h : Own f s e B w (.slice (some ⟨g, 0, none⟩) n cap) l) (hs : ∀ x, (f x).length = s) {i j : Nat} (hi : i < l.length) (hj : j < s) (u : Value) (y : α) (hy : f y = (f l[i]).set j u) :
    Own f s e B (w.setCell ⟨g, i * s + j, none⟩ u) (.slice (some ⟨g, 0, none⟩) n cap) (l.set i y) ∧ w.grownBy (w.setCell ⟨g, i * s + j, none⟩ u) (some g) := by
  obtain ⟨a, c, hv⟩ := h.shape
  cases hv
  have := World.ownsRow.stored (w := w) (base := B) (e := e) (size := s) (g := g) (n := l.length) (cap := cap) (xs := cellsOf f l) h (i * s + j) u
  refine ⟨?_, this.2⟩
  unfold Own
  rw [cellsOf_set hs hi hj hy, List.length_set]
  exact this.1
theorem Own.at_ {α : Type} {f : α → List Value} {s : Nat} {e : TypeId} {B : Nat} {w : World} {v : Value} {l : List α} (h : Own f s e B w v l) (hs : ∀ x, (f x).length = s) {i : Nat} (hi : i < l.length) :
    ∃ g cap, v = .slice (some ⟨g, 0, none⟩) l.length cap ∧ B ≤ g ∧ g < w.heap.size ∧ l.length ≤ cap ∧ (∀ j u, (f l[i])[j]? = some u → w.cell? ⟨g, i * s + j, none⟩ = some u) ∧ ∀ j, w.frozen? ⟨g, j, none⟩ = false := by
  have hR := h.rd
  have hlt := h.lt
  rcases h.2 with ⟨rfl, h0⟩ | ⟨g, cap, cur, rfl, hb, hg, h1, h2, _⟩
  · omega
  · obtain ⟨g', off, cap', hv, hg', hc⟩ := hR.at_ hs hi
    cases hv
    refine ⟨g, cap, rfl, hb, hg', h1, fun j u hu => by simpa using hc j u hu, fun j => World.ownsRow.frozenAt (n := l.length) (cap := cap) h j⟩
end Go.Proofs.Ytniokdflljchgaa
