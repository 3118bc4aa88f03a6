/- What functions leave: a slice of their own. -/
import Derived.Test.YtniokdflljchgaaIns
namespace Go.Proofs.Ytniokdflljchgaa
open Go.RowKit

def RetOwn {α : Type} (f : α → List Value) (s : Nat) (e : TypeId) (l : List α) (w : World) (en : Ending) (w' : World) : Prop :=
  ∃ v, en = .returned v ∧ Own f s e w.heap.size w' v l ∧ w.grownBy w' none
end Go.Proofs.Ytniokdflljchgaa
