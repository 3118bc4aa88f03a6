/-
  No cell of these rows narrows 'for every input' (looked for: loops, veiled, ifaces, maps, wideKeys, modest, calm, conditions, laid).
  DERIVED. THE GIVEN ROWS OF THIS SEAT. 3 by the template 'for every input the law returns true; each argument reads behind the call as it read before'; 0 by the template 'total and deterministic' (their statements: YtiagjiaahnkefaaGreatTotals.lean).
  GIVEN WITH THE SEED: the statements are not yours to turn. If you find one false, say at which input.
  Laid BY PROGRAM, IN A SANDBOX (cutbox-rows.mjs): the forced cells as the released guide's own fill.sh prints them over the translation 78c650b095c859e4… (all of the seat's roots in one cut). By AI agents, Wed Nov 11 2026. No macro, syntax, notation, axiom, sorry.
-/
import Derived.Test.YtiagjiaahnkefaaGreatChecked
import GoSem.Claim
import GoSem.ClaimJoined
import GoSem.ClaimMapViews
import Derived.JoinedTies
import Derived.KernelRfl
namespace Go.Proofs.YtiagjiaahnkefaaGreat
/- THE CELL 'sum', in the pinned program and in every row, IS THE sha256 OF THE DUMP (.gsa) THAT YtiagjiaahnkefaaGreatProg.lean LOADS. Nothing in Lean hashes anything: it is a label: what it is worth is what the hold of that sum in a sandbox is worth. -/
noncomputable def Tryz.pinned : Pinned := { name := "ytiagjiaahnkefaagreat", sum := "78c650b095c859e4e721e9e3a3f0e292f0f76b73b8fee0d000004fd8d28960d8", checked := Tryz.checked }
namespace Rows
def none {H : Type} : Left H := { results := [], args := [] }

/-- 'heavykeyslaw24.ReportBuild': WHATEVER THE INPUT: true; the input reads as it did. -/
def reportBuildSpec : ChangeSpec := { name := "reportBuild", fn := fun _ => fun
  | [d1, d2, d3, d4] => { results := [.lit (.bool true)], args := [d1, d2, d3, d4] }
  | _ => none }
def reportBuildRow : OpenClaim := { program := "ytiagjiaahnkefaagreat", sum := "78c650b095c859e4e721e9e3a3f0e292f0f76b73b8fee0d000004fd8d28960d8", func := "heavykeys/heavykeyslaw24.ReportBuild", spec := "reportBuild", inPlace := ["math/bits.Add64", "internal/bytealg.abigen_runtime_cmpstring"], unfollowed := true, recurses := true, apart := false }
def ReportBuildSaid : Prop := reportBuildRow.holds Tryz.pinned (OpenSpec.ofChange reportBuildSpec)

/-- ITS FALSE NEIGHBOUR: 'it returns false'. Refute it at one input. -/
def reportBuildWrong : ChangeSpec := { name := "reportBuild", fn := fun _ => fun
  | [d1, d2, d3, d4] => { results := [.lit (.bool false)], args := [d1, d2, d3, d4] }
  | _ => none }
def ReportBuildWrongFalsely : Prop := reportBuildRow.holds Tryz.pinned (OpenSpec.ofChange reportBuildWrong)

/-- 'heavykeyslaw24.ReportSums': WHATEVER THE INPUT: true; the input reads as it did. -/
def reportSumsSpec : ChangeSpec := { name := "reportSums", fn := fun _ => fun
  | [d1, d2] => { results := [.lit (.bool true)], args := [d1, d2] }
  | _ => none }
def reportSumsRow : OpenClaim := { program := "ytiagjiaahnkefaagreat", sum := "78c650b095c859e4e721e9e3a3f0e292f0f76b73b8fee0d000004fd8d28960d8", func := "heavykeys/heavykeyslaw24.ReportSums", spec := "reportSums", inPlace := ["math/bits.Add64", "internal/bytealg.abigen_runtime_cmpstring"], unfollowed := true, recurses := true, apart := false }
def ReportSumsSaid : Prop := reportSumsRow.holds Tryz.pinned (OpenSpec.ofChange reportSumsSpec)

/-- ITS FALSE NEIGHBOUR: 'it returns false'. Refute it at one input. -/
def reportSumsWrong : ChangeSpec := { name := "reportSums", fn := fun _ => fun
  | [d1, d2] => { results := [.lit (.bool false)], args := [d1, d2] }
  | _ => none }
def ReportSumsWrongFalsely : Prop := reportSumsRow.holds Tryz.pinned (OpenSpec.ofChange reportSumsWrong)

/-- 'heavykeyslaw24.ReportRest': WHATEVER THE INPUT: true; the input reads as it did. -/
def reportRestSpec : ChangeSpec := { name := "reportRest", fn := fun _ => fun
  | [d1, d2, d3] => { results := [.lit (.bool true)], args := [d1, d2, d3] }
  | _ => none }
def reportRestRow : OpenClaim := { program := "ytiagjiaahnkefaagreat", sum := "78c650b095c859e4e721e9e3a3f0e292f0f76b73b8fee0d000004fd8d28960d8", func := "heavykeys/heavykeyslaw24.ReportRest", spec := "reportRest", inPlace := ["math/bits.Add64", "internal/bytealg.abigen_runtime_cmpstring"], unfollowed := true, recurses := true, apart := false }
def ReportRestSaid : Prop := reportRestRow.holds Tryz.pinned (OpenSpec.ofChange reportRestSpec)

/-- ITS FALSE NEIGHBOUR: 'it returns false'. Refute it at one input. -/
def reportRestWrong : ChangeSpec := { name := "reportRest", fn := fun _ => fun
  | [d1, d2, d3] => { results := [.lit (.bool false)], args := [d1, d2, d3] }
  | _ => none }
def ReportRestWrongFalsely : Prop := reportRestRow.holds Tryz.pinned (OpenSpec.ofChange reportRestWrong)

/- THE SECOND FORM. 'bulk': how many values and letters a reading holds, each counted each time it is reached (what is shared counts as often as it is met; a slice's spare places count too). A statement '..UptoSaid' is the law's where the arguments, and the package variables that the reading takes, are together of bulk at most 1048576: NARROWER than '..Said'. Prove '..Said' where nothing that the law and all that it calls make is longer than what came in: it says more and counts as full. Else prove '..UptoSaid'. A law counts once. -/
mutual
def uptoBulk {H : Type} : DataW H → Nat
  | .lit (.string bytes) => bytes.length + 1
  | .lit _ => 1
  | .nil => 1
  | .ptr d => uptoBulk d + 1
  | .slice elems spare => uptoBulkAll elems + uptoBulkAll spare + 1
  | .agg parts => uptoBulkAll parts + 1
  | .iface _ d => uptoBulk d + 1
  | .map entries => uptoBulkEntries entries + 1
  | .held _ => 1
def uptoBulkAll {H : Type} : List (DataW H) → Nat
  | [] => 0
  | d :: r => uptoBulk d + uptoBulkAll r
def uptoBulkEntries {H : Type} : List (Lit × DataW H) → Nat
  | [] => 0
  | x :: r => uptoBulkEntry x + uptoBulkEntries r
def uptoBulkEntry {H : Type} : Lit × DataW H → Nat
  | (.string bytes, d) => bytes.length + uptoBulk d + 1
  | (_, d) => uptoBulk d + 1
 end
def uptoSmall : (H : Type) → List (DataW H) → Bool := fun _ ds => decide (uptoBulkAll ds ≤ 1048576)
def OpenSpec.upto (s : _root_.Go.ChangeSpec) : _root_.Go.OpenSpec := { _root_.Go.OpenSpec.ofChange s with cond := some uptoSmall }

/-- 'heavykeyslaw24.ReportBuild', WHERE WHAT IT READS IS OF BULK AT MOST 1048576: true; the input reads as it did. -/
def reportBuildUptoRow : OpenClaim := { program := "ytiagjiaahnkefaagreat", sum := "78c650b095c859e4e721e9e3a3f0e292f0f76b73b8fee0d000004fd8d28960d8", func := "heavykeys/heavykeyslaw24.ReportBuild", spec := "reportBuild", inPlace := ["math/bits.Add64", "internal/bytealg.abigen_runtime_cmpstring"], unfollowed := true, recurses := true, apart := false, narrowed := true }
def ReportBuildUptoSaid : Prop := reportBuildUptoRow.holds Tryz.pinned (OpenSpec.upto reportBuildSpec)

/-- 'heavykeyslaw24.ReportSums', WHERE WHAT IT READS IS OF BULK AT MOST 1048576: true; the input reads as it did. -/
def reportSumsUptoRow : OpenClaim := { program := "ytiagjiaahnkefaagreat", sum := "78c650b095c859e4e721e9e3a3f0e292f0f76b73b8fee0d000004fd8d28960d8", func := "heavykeys/heavykeyslaw24.ReportSums", spec := "reportSums", inPlace := ["math/bits.Add64", "internal/bytealg.abigen_runtime_cmpstring"], unfollowed := true, recurses := true, apart := false, narrowed := true }
def ReportSumsUptoSaid : Prop := reportSumsUptoRow.holds Tryz.pinned (OpenSpec.upto reportSumsSpec)

/-- 'heavykeyslaw24.ReportRest', WHERE WHAT IT READS IS OF BULK AT MOST 1048576: true; the input reads as it did. -/
def reportRestUptoRow : OpenClaim := { program := "ytiagjiaahnkefaagreat", sum := "78c650b095c859e4e721e9e3a3f0e292f0f76b73b8fee0d000004fd8d28960d8", func := "heavykeys/heavykeyslaw24.ReportRest", spec := "reportRest", inPlace := ["math/bits.Add64", "internal/bytealg.abigen_runtime_cmpstring"], unfollowed := true, recurses := true, apart := false, narrowed := true }
def ReportRestUptoSaid : Prop := reportRestUptoRow.holds Tryz.pinned (OpenSpec.upto reportRestSpec)

end Rows
end Go.Proofs.YtiagjiaahnkefaaGreat
