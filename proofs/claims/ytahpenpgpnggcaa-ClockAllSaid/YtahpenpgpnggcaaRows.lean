/-
  No cell of these rows narrows 'for every input' (looked for: loops, veiled, ifaces, maps, wideKeys, modest, calm, conditions, laid).
  DERIVED. THE GIVEN ROWS OF THIS SEAT. 4 by the template 'for every input the law returns true; each argument reads behind the call as it read before'; 0 by the template 'total and deterministic' (their statements: YtahpenpgpnggcaaTotals.lean).
  GIVEN WITH THE SEED: the statements are not yours to turn. If you find one false, say at which input.
  Laid BY PROGRAM, IN A SANDBOX (cutbox-rows.mjs): the forced cells as the released guide's own fill.sh prints them over the translation 7a99b4b0849fcb67… (all of the seat's roots in one cut). By AI agents, Wed Nov 11 2026. No macro, syntax, notation, axiom, sorry.
-/
import Derived.Test.YtahpenpgpnggcaaChecked
import GoSem.Claim
import GoSem.ClaimJoined
import GoSem.ClaimMapViews
import Derived.JoinedTies
import Derived.KernelRfl
namespace Go.Proofs.Ytahpenpgpnggcaa
/- THE CELL 'sum', in the pinned program and in every row, IS THE sha256 OF THE DUMP (.gsa) THAT YtahpenpgpnggcaaProg.lean LOADS. Nothing in Lean hashes anything: it is a label: what it is worth is what the hold of that sum in a sandbox is worth. -/
noncomputable def Try.pinned : Pinned := { name := "ytahpenpgpnggcaa", sum := "7a99b4b0849fcb677d3aa53fed7dcc47dc3f074f199d755344b2f0766c19905c", checked := Try.checked }
namespace Rows
def none {H : Type} : Left H := { results := [], args := [] }

/-- 'heavykeyslaw25.ClockRises': WHATEVER THE INPUT: true; the input reads as it did. -/
def clockRisesSpec : ChangeSpec := { name := "clockRises", fn := fun _ => fun
  | [d1, d2, d3, d4] => { results := [.lit (.bool true)], args := [d1, d2, d3, d4] }
  | _ => none }
def clockRisesRow : OpenClaim := { program := "ytahpenpgpnggcaa", sum := "7a99b4b0849fcb677d3aa53fed7dcc47dc3f074f199d755344b2f0766c19905c", func := "heavykeys/heavykeyslaw25.ClockRises", spec := "clockRises", apart := false }
def ClockRisesSaid : Prop := clockRisesRow.holds Try.pinned (OpenSpec.ofChange clockRisesSpec)

/-- ITS FALSE NEIGHBOUR: 'it returns false'. Refute it at one input. -/
def clockRisesWrong : ChangeSpec := { name := "clockRises", fn := fun _ => fun
  | [d1, d2, d3, d4] => { results := [.lit (.bool false)], args := [d1, d2, d3, d4] }
  | _ => none }
def ClockRisesWrongFalsely : Prop := clockRisesRow.holds Try.pinned (OpenSpec.ofChange clockRisesWrong)

/-- 'heavykeyslaw25.ClockAll': WHATEVER THE INPUT: true; the input reads as it did. -/
def clockAllSpec : ChangeSpec := { name := "clockAll", fn := fun _ => fun
  | [d1, d2, d3, d4, d5, d6] => { results := [.lit (.bool true)], args := [d1, d2, d3, d4, d5, d6] }
  | _ => none }
def clockAllRow : OpenClaim := { program := "ytahpenpgpnggcaa", sum := "7a99b4b0849fcb677d3aa53fed7dcc47dc3f074f199d755344b2f0766c19905c", func := "heavykeys/heavykeyslaw25.ClockAll", spec := "clockAll", apart := false }
def ClockAllSaid : Prop := clockAllRow.holds Try.pinned (OpenSpec.ofChange clockAllSpec)

/-- ITS FALSE NEIGHBOUR: 'it returns false'. Refute it at one input. -/
def clockAllWrong : ChangeSpec := { name := "clockAll", fn := fun _ => fun
  | [d1, d2, d3, d4, d5, d6] => { results := [.lit (.bool false)], args := [d1, d2, d3, d4, d5, d6] }
  | _ => none }
def ClockAllWrongFalsely : Prop := clockAllRow.holds Try.pinned (OpenSpec.ofChange clockAllWrong)

/-- 'heavykeyslaw25.ClockSpan': WHATEVER THE INPUT: true; the input reads as it did. -/
def clockSpanSpec : ChangeSpec := { name := "clockSpan", fn := fun _ => fun
  | [d1, d2, d3] => { results := [.lit (.bool true)], args := [d1, d2, d3] }
  | _ => none }
def clockSpanRow : OpenClaim := { program := "ytahpenpgpnggcaa", sum := "7a99b4b0849fcb677d3aa53fed7dcc47dc3f074f199d755344b2f0766c19905c", func := "heavykeys/heavykeyslaw25.ClockSpan", spec := "clockSpan", apart := false }
def ClockSpanSaid : Prop := clockSpanRow.holds Try.pinned (OpenSpec.ofChange clockSpanSpec)

/-- ITS FALSE NEIGHBOUR: 'it returns false'. Refute it at one input. -/
def clockSpanWrong : ChangeSpec := { name := "clockSpan", fn := fun _ => fun
  | [d1, d2, d3] => { results := [.lit (.bool false)], args := [d1, d2, d3] }
  | _ => none }
def ClockSpanWrongFalsely : Prop := clockSpanRow.holds Try.pinned (OpenSpec.ofChange clockSpanWrong)

/-- 'heavykeyslaw25.ClockCloses': WHATEVER THE INPUT: true; the input reads as it did. -/
def clockClosesSpec : ChangeSpec := { name := "clockCloses", fn := fun _ => fun
  | [d1, d2] => { results := [.lit (.bool true)], args := [d1, d2] }
  | _ => none }
def clockClosesRow : OpenClaim := { program := "ytahpenpgpnggcaa", sum := "7a99b4b0849fcb677d3aa53fed7dcc47dc3f074f199d755344b2f0766c19905c", func := "heavykeys/heavykeyslaw25.ClockCloses", spec := "clockCloses", apart := false }
def ClockClosesSaid : Prop := clockClosesRow.holds Try.pinned (OpenSpec.ofChange clockClosesSpec)

/-- ITS FALSE NEIGHBOUR: 'it returns false'. Refute it at one input. -/
def clockClosesWrong : ChangeSpec := { name := "clockCloses", fn := fun _ => fun
  | [d1, d2] => { results := [.lit (.bool false)], args := [d1, d2] }
  | _ => none }
def ClockClosesWrongFalsely : Prop := clockClosesRow.holds Try.pinned (OpenSpec.ofChange clockClosesWrong)

/- THE SECOND FORM. 'bulk': how many values and letters a reading holds, each counted each time it is reached (what is shared counts as often as it is met; a slice's spare places count too). A statement '..UptoSaid' is the law's where the arguments, and the package variables that the reading takes, are together of bulk at most 1048576: NARROWER than '..Said'. Prove '..Said' where nothing that the law and all that it calls make is longer than what came in: it says more and counts as full. Else prove '..UptoSaid'. A law counts once. -/
mutual
def uptoBulk {H : Type} : DataW H → Nat
  | .lit (.string bytes) => bytes.length + 1
  | .lit _ => 1
  | .nil => 1
  | .ptr d => uptoBulk d + 1
  | .slice elems spare => uptoBulkAll elems + uptoBulkAll spare + 1
  | .agg parts => uptoBulkAll parts + 1
  | .iface _ d => uptoBulk d + 1
  | .map entries => uptoBulkEntries entries + 1
  | .held _ => 1
def uptoBulkAll {H : Type} : List (DataW H) → Nat
  | [] => 0
  | d :: r => uptoBulk d + uptoBulkAll r
def uptoBulkEntries {H : Type} : List (Lit × DataW H) → Nat
  | [] => 0
  | x :: r => uptoBulkEntry x + uptoBulkEntries r
def uptoBulkEntry {H : Type} : Lit × DataW H → Nat
  | (.string bytes, d) => bytes.length + uptoBulk d + 1
  | (_, d) => uptoBulk d + 1
 end
def uptoSmall : (H : Type) → List (DataW H) → Bool := fun _ ds => decide (uptoBulkAll ds ≤ 1048576)
def OpenSpec.upto (s : _root_.Go.ChangeSpec) : _root_.Go.OpenSpec := { _root_.Go.OpenSpec.ofChange s with cond := some uptoSmall }

/-- 'heavykeyslaw25.ClockRises', WHERE WHAT IT READS IS OF BULK AT MOST 1048576: true; the input reads as it did. -/
def clockRisesUptoRow : OpenClaim := { program := "ytahpenpgpnggcaa", sum := "7a99b4b0849fcb677d3aa53fed7dcc47dc3f074f199d755344b2f0766c19905c", func := "heavykeys/heavykeyslaw25.ClockRises", spec := "clockRises", apart := false, narrowed := true }
def ClockRisesUptoSaid : Prop := clockRisesUptoRow.holds Try.pinned (OpenSpec.upto clockRisesSpec)

/-- 'heavykeyslaw25.ClockAll', WHERE WHAT IT READS IS OF BULK AT MOST 1048576: true; the input reads as it did. -/
def clockAllUptoRow : OpenClaim := { program := "ytahpenpgpnggcaa", sum := "7a99b4b0849fcb677d3aa53fed7dcc47dc3f074f199d755344b2f0766c19905c", func := "heavykeys/heavykeyslaw25.ClockAll", spec := "clockAll", apart := false, narrowed := true }
def ClockAllUptoSaid : Prop := clockAllUptoRow.holds Try.pinned (OpenSpec.upto clockAllSpec)

/-- 'heavykeyslaw25.ClockSpan', WHERE WHAT IT READS IS OF BULK AT MOST 1048576: true; the input reads as it did. -/
def clockSpanUptoRow : OpenClaim := { program := "ytahpenpgpnggcaa", sum := "7a99b4b0849fcb677d3aa53fed7dcc47dc3f074f199d755344b2f0766c19905c", func := "heavykeys/heavykeyslaw25.ClockSpan", spec := "clockSpan", apart := false, narrowed := true }
def ClockSpanUptoSaid : Prop := clockSpanUptoRow.holds Try.pinned (OpenSpec.upto clockSpanSpec)

/-- 'heavykeyslaw25.ClockCloses', WHERE WHAT IT READS IS OF BULK AT MOST 1048576: true; the input reads as it did. -/
def clockClosesUptoRow : OpenClaim := { program := "ytahpenpgpnggcaa", sum := "7a99b4b0849fcb677d3aa53fed7dcc47dc3f074f199d755344b2f0766c19905c", func := "heavykeys/heavykeyslaw25.ClockCloses", spec := "clockCloses", apart := false, narrowed := true }
def ClockClosesUptoSaid : Prop := clockClosesUptoRow.holds Try.pinned (OpenSpec.upto clockClosesSpec)

end Rows
end Go.Proofs.Ytahpenpgpnggcaa
