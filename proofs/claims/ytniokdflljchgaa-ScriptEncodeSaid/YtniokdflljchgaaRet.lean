/- What functions leave: numbers and truths, the memory only grown. -/
import Derived.Test.YtniokdflljchgaaDeck
namespace Go.Proofs.Ytniokdflljchgaa
open Go.RowKit

def RetInt (k : Int) (w : World) (e : Ending) (w' : World) : Prop := e = .returned (.int .i64 k) ∧ w.grownBy w' none
def RetBool (b : Bool) (w : World) (e : Ending) (w' : World) : Prop := e = .returned (.bool b) ∧ w.grownBy w' none
theorem retInt {k k' : Int} {w w' : World} (h : k = k') (hg : w.grownBy w' none) : RetInt k w (.returned (.int .i64 k')) w' := ⟨by rw [h], hg⟩
theorem retBool {k k' : Bool} {w w' : World} (h : k = k') (hg : w.grownBy w' none) : RetBool k w (.returned (.bool k')) w' := ⟨by rw [h], hg⟩
def RetTwo (k m : Int) (w : World) (e : Ending) (w' : World) : Prop := e = .returned (.tuple #[.int .i64 k, .int .i64 m]) ∧ w.grownBy w' none
theorem retTwo {k k' m m' : Int} {w w' : World} (h : k = k') (h' : m = m') (hg : w.grownBy w' none) : RetTwo k m w (.returned (.tuple #[.int .i64 k', .int .i64 m'])) w' := ⟨by rw [h, h'], hg⟩
/-- A number of 64 bits without sign. -/
def RetWord (k : Int) (w : World) (e : Ending) (w' : World) : Prop := e = .returned (.int .u64 k) ∧ w.grownBy w' none
theorem retWord {k k' : Int} {w w' : World} (h : k = k') (hg : w.grownBy w' none) : RetWord k w (.returned (.int .u64 k')) w' := ⟨by rw [h], hg⟩
/-- Whatever value. -/
def RetVal (v : Value) (w : World) (e : Ending) (w' : World) : Prop := e = .returned v ∧ w.grownBy w' none
theorem retVal {v v' : Value} {w w' : World} (h : v = v') (hg : w.grownBy w' none) : RetVal v w (.returned v') w' := ⟨by rw [h], hg⟩
end Go.Proofs.Ytniokdflljchgaa
