/- A block of the call's own that is known whole. -/
import Derived.Test.YtniokdflljchgaaSl
import Derived.Test.YtniokdflljchgaaTail
import Derived.Lib.QuietBelow
namespace Go.Proofs.Ytniokdflljchgaa
open Go.RowKit

structure Blk (w : World) (g : Nat) (cs : Array Value) : Prop where
  blk : ∃ t, w.heap[g]? = some (.cells cs t (0, 0))
theorem Blk.lt {w : World} {g : Nat} {cs : Array Value} (h : Blk w g cs) : g < w.heap.size := by
  obtain ⟨t, h⟩ := h.blk; exact (Array.getElem?_eq_some_iff.1 h).1
theorem Blk.cell {w : World} {g : Nat} {cs : Array Value} (h : Blk w g cs) (i : Nat) : w.cell? ⟨g, i, none⟩ = cs[i]? := by
  obtain ⟨t, h⟩ := h.blk; simp [World.cell?, h]
theorem Blk.free {w : World} {g : Nat} {cs : Array Value} (h : Blk w g cs) (i : Nat) : w.frozen? ⟨g, i, none⟩ = false := by
  obtain ⟨t, h⟩ := h.blk; simp [World.frozen?, h]
theorem Blk.kept {w w' : World} {g : Nat} {cs : Array Value} {r : Option Nat} (h : Blk w g cs) (hg : w.grownBy w' r) (hr : r ≠ some g) : Blk w' g cs := by
  have hl := h.lt
  obtain ⟨t, h⟩ := h.blk
  exact ⟨t, (hg.block g hl (fun e => hr e.symm)).trans h⟩
theorem Blk.same {w w' : World} {g : Nat} {cs : Array Value} (h : Blk w g cs) (hg : w.grownBy w' none) : Blk w' g cs := h.kept hg (by simp)
theorem Blk.set {w : World} {g : Nat} {cs : Array Value} (h : Blk w g cs) (i : Nat) (v : Value) : Blk (w.setCell ⟨g, i, none⟩ v) g (cs.setIfInBounds i v) := by
  obtain ⟨t, h⟩ := h.blk
  exact ⟨t, heap_set v h⟩
theorem Blk.off {w : World} {g g' : Nat} {cs : Array Value} (h : Blk w g cs) (hne : g' ≠ g) (i : Nat) (v : Value) : Blk (w.setCell ⟨g', i, none⟩ v) g cs :=
  h.kept (grownBy_set (grownBy_refl w (some g')) i v) (by simpa using hne)
theorem Blk.drew {w : World} {g : Nat} {cs : Array Value} (h : Blk w g cs) (n : Nat) : Blk (w.drewN n) g cs := ⟨h.blk⟩
theorem Blk.drew1 {w : World} {g : Nat} {cs : Array Value} (h : Blk w g cs) : Blk w.drew g cs := ⟨h.blk⟩
theorem Blk.new (w : World) (cs : Array Value) (t : TypeId) : Blk (w.alloc (.cells cs t)) w.heap.size cs := ⟨t, heap_alloc_new w _⟩
theorem Blk.new' (w : World) (cs : Array Value) (t : TypeId) {g : Nat} (h : g = w.heap.size) : Blk (w.alloc (.cells cs t)) g cs := h ▸ Blk.new w cs t
theorem Blk.set_ {w : World} {g : Nat} {cs cs' : Array Value} (h : Blk w g cs) (i : Nat) (v : Value) (he : cs.setIfInBounds i v = cs') : Blk (w.setCell ⟨g, i, none⟩ v) g cs' := he ▸ h.set i v
open Go.Sort in
/-- What is known of the block in every world that has grown out of this one. -/
theorem Blk.re {w : World} {g : Nat} {cs : Array Value} (h : Blk w g cs) : ∀ d os i, (grow (redrawn w d) os).cell? ⟨g, i, none⟩ = cs[i]? :=
  fun d os i => (h.same (grown_re w d os)).cell i
end Go.Proofs.Ytniokdflljchgaa
