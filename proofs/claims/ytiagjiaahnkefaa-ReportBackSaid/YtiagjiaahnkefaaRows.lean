/-
  No cell of these rows narrows 'for every input' (looked for: loops, veiled, ifaces, maps, wideKeys, modest, calm, conditions, laid).
  DERIVED. THE GIVEN ROWS OF THIS SEAT. 9 by the template 'for every input the law returns true; each argument reads behind the call as it read before'; 0 by the template 'total and deterministic' (their statements: YtiagjiaahnkefaaTotals.lean).
  GIVEN WITH THE SEED: the statements are not yours to turn. If you find one false, say at which input.
  Laid BY PROGRAM, IN A SANDBOX (cutbox-rows.mjs): the forced cells as the released guide's own fill.sh prints them over the translation 7616723841b3e739… (all of the seat's roots in one cut). By AI agents, Wed Nov 11 2026. No macro, syntax, notation, axiom, sorry.
-/
import Derived.Test.YtiagjiaahnkefaaChecked
import GoSem.Claim
import GoSem.ClaimJoined
import GoSem.ClaimMapViews
import Derived.JoinedTies
import Derived.KernelRfl
namespace Go.Proofs.Ytiagjiaahnkefaa
/- THE CELL 'sum', in the pinned program and in every row, IS THE sha256 OF THE DUMP (.gsa) THAT YtiagjiaahnkefaaProg.lean LOADS. Nothing in Lean hashes anything: it is a label: what it is worth is what the hold of that sum in a sandbox is worth. -/
noncomputable def Try.pinned : Pinned := { name := "ytiagjiaahnkefaa", sum := "7616723841b3e739b78e9311a740e27dd367c80ed52e035930a19804474f1972", checked := Try.checked }
namespace Rows
def none {H : Type} : Left H := { results := [], args := [] }

/-- 'heavykeyslaw24.ReportCheck': WHATEVER THE INPUT: true; the input reads as it did. -/
def reportCheckSpec : ChangeSpec := { name := "reportCheck", fn := fun _ => fun
  | [d1, d2, d3, d4, d5, d6] => { results := [.lit (.bool true)], args := [d1, d2, d3, d4, d5, d6] }
  | _ => none }
def reportCheckRow : OpenClaim := { program := "ytiagjiaahnkefaa", sum := "7616723841b3e739b78e9311a740e27dd367c80ed52e035930a19804474f1972", func := "heavykeys/heavykeyslaw24.ReportCheck", spec := "reportCheck", inPlace := ["math/bits.Add64"], apart := false }
def ReportCheckSaid : Prop := reportCheckRow.holds Try.pinned (OpenSpec.ofChange reportCheckSpec)

/-- ITS FALSE NEIGHBOUR: 'it returns false'. Refute it at one input. -/
def reportCheckWrong : ChangeSpec := { name := "reportCheck", fn := fun _ => fun
  | [d1, d2, d3, d4, d5, d6] => { results := [.lit (.bool false)], args := [d1, d2, d3, d4, d5, d6] }
  | _ => none }
def ReportCheckWrongFalsely : Prop := reportCheckRow.holds Try.pinned (OpenSpec.ofChange reportCheckWrong)

/-- 'heavykeyslaw24.ReportEncode': WHATEVER THE INPUT: true; the input reads as it did. -/
def reportEncodeSpec : ChangeSpec := { name := "reportEncode", fn := fun _ => fun
  | [d1, d2, d3, d4, d5, d6] => { results := [.lit (.bool true)], args := [d1, d2, d3, d4, d5, d6] }
  | _ => none }
def reportEncodeRow : OpenClaim := { program := "ytiagjiaahnkefaa", sum := "7616723841b3e739b78e9311a740e27dd367c80ed52e035930a19804474f1972", func := "heavykeys/heavykeyslaw24.ReportEncode", spec := "reportEncode", inPlace := ["math/bits.Add64"], apart := false }
def ReportEncodeSaid : Prop := reportEncodeRow.holds Try.pinned (OpenSpec.ofChange reportEncodeSpec)

/-- ITS FALSE NEIGHBOUR: 'it returns false'. Refute it at one input. -/
def reportEncodeWrong : ChangeSpec := { name := "reportEncode", fn := fun _ => fun
  | [d1, d2, d3, d4, d5, d6] => { results := [.lit (.bool false)], args := [d1, d2, d3, d4, d5, d6] }
  | _ => none }
def ReportEncodeWrongFalsely : Prop := reportEncodeRow.holds Try.pinned (OpenSpec.ofChange reportEncodeWrong)

/-- 'heavykeyslaw24.ReportBack': WHATEVER THE INPUT: true; the input reads as it did. -/
def reportBackSpec : ChangeSpec := { name := "reportBack", fn := fun _ => fun
  | [d1, d2, d3, d4, d5] => { results := [.lit (.bool true)], args := [d1, d2, d3, d4, d5] }
  | _ => none }
def reportBackRow : OpenClaim := { program := "ytiagjiaahnkefaa", sum := "7616723841b3e739b78e9311a740e27dd367c80ed52e035930a19804474f1972", func := "heavykeys/heavykeyslaw24.ReportBack", spec := "reportBack", inPlace := ["math/bits.Add64"], apart := false }
def ReportBackSaid : Prop := reportBackRow.holds Try.pinned (OpenSpec.ofChange reportBackSpec)

/-- ITS FALSE NEIGHBOUR: 'it returns false'. Refute it at one input. -/
def reportBackWrong : ChangeSpec := { name := "reportBack", fn := fun _ => fun
  | [d1, d2, d3, d4, d5] => { results := [.lit (.bool false)], args := [d1, d2, d3, d4, d5] }
  | _ => none }
def ReportBackWrongFalsely : Prop := reportBackRow.holds Try.pinned (OpenSpec.ofChange reportBackWrong)

/-- 'heavykeyslaw22.MergeOrder': WHATEVER THE INPUT: true; the input reads as it did. -/
def mergeOrderSpec : ChangeSpec := { name := "mergeOrder", fn := fun _ => fun
  | [d1, d2] => { results := [.lit (.bool true)], args := [d1, d2] }
  | _ => none }
def mergeOrderRow : OpenClaim := { program := "ytiagjiaahnkefaa", sum := "7616723841b3e739b78e9311a740e27dd367c80ed52e035930a19804474f1972", func := "heavykeys/heavykeyslaw22.MergeOrder", spec := "mergeOrder", inPlace := ["math/bits.Add64"], unfollowed := true, recurses := true, apart := false }
def MergeOrderSaid : Prop := mergeOrderRow.holds Try.pinned (OpenSpec.ofChange mergeOrderSpec)

/-- ITS FALSE NEIGHBOUR: 'it returns false'. Refute it at one input. -/
def mergeOrderWrong : ChangeSpec := { name := "mergeOrder", fn := fun _ => fun
  | [d1, d2] => { results := [.lit (.bool false)], args := [d1, d2] }
  | _ => none }
def MergeOrderWrongFalsely : Prop := mergeOrderRow.holds Try.pinned (OpenSpec.ofChange mergeOrderWrong)

/-- 'heavykeyslaw22.MergeContains': WHATEVER THE INPUT: true; the input reads as it did. -/
def mergeContainsSpec : ChangeSpec := { name := "mergeContains", fn := fun _ => fun
  | [d1, d2, d3, d4] => { results := [.lit (.bool true)], args := [d1, d2, d3, d4] }
  | _ => none }
def mergeContainsRow : OpenClaim := { program := "ytiagjiaahnkefaa", sum := "7616723841b3e739b78e9311a740e27dd367c80ed52e035930a19804474f1972", func := "heavykeys/heavykeyslaw22.MergeContains", spec := "mergeContains", inPlace := ["math/bits.Add64"], unfollowed := true, recurses := true, apart := false }
def MergeContainsSaid : Prop := mergeContainsRow.holds Try.pinned (OpenSpec.ofChange mergeContainsSpec)

/-- ITS FALSE NEIGHBOUR: 'it returns false'. Refute it at one input. -/
def mergeContainsWrong : ChangeSpec := { name := "mergeContains", fn := fun _ => fun
  | [d1, d2, d3, d4] => { results := [.lit (.bool false)], args := [d1, d2, d3, d4] }
  | _ => none }
def MergeContainsWrongFalsely : Prop := mergeContainsRow.holds Try.pinned (OpenSpec.ofChange mergeContainsWrong)

/-- 'heavykeyslaw22.MergeCheck': WHATEVER THE INPUT: true; the input reads as it did. -/
def mergeCheckSpec : ChangeSpec := { name := "mergeCheck", fn := fun _ => fun
  | [d1, d2, d3, d4] => { results := [.lit (.bool true)], args := [d1, d2, d3, d4] }
  | _ => none }
def mergeCheckRow : OpenClaim := { program := "ytiagjiaahnkefaa", sum := "7616723841b3e739b78e9311a740e27dd367c80ed52e035930a19804474f1972", func := "heavykeys/heavykeyslaw22.MergeCheck", spec := "mergeCheck", inPlace := ["math/bits.Add64"], unfollowed := true, recurses := true, apart := false }
def MergeCheckSaid : Prop := mergeCheckRow.holds Try.pinned (OpenSpec.ofChange mergeCheckSpec)

/-- ITS FALSE NEIGHBOUR: 'it returns false'. Refute it at one input. -/
def mergeCheckWrong : ChangeSpec := { name := "mergeCheck", fn := fun _ => fun
  | [d1, d2, d3, d4] => { results := [.lit (.bool false)], args := [d1, d2, d3, d4] }
  | _ => none }
def MergeCheckWrongFalsely : Prop := mergeCheckRow.holds Try.pinned (OpenSpec.ofChange mergeCheckWrong)

/-- 'heavykeyslaw22.MergeRest': WHATEVER THE INPUT: true; the input reads as it did. -/
def mergeRestSpec : ChangeSpec := { name := "mergeRest", fn := fun _ => fun
  | [d1, d2, d3] => { results := [.lit (.bool true)], args := [d1, d2, d3] }
  | _ => none }
def mergeRestRow : OpenClaim := { program := "ytiagjiaahnkefaa", sum := "7616723841b3e739b78e9311a740e27dd367c80ed52e035930a19804474f1972", func := "heavykeys/heavykeyslaw22.MergeRest", spec := "mergeRest", inPlace := ["math/bits.Add64"], unfollowed := true, recurses := true, apart := false }
def MergeRestSaid : Prop := mergeRestRow.holds Try.pinned (OpenSpec.ofChange mergeRestSpec)

/-- ITS FALSE NEIGHBOUR: 'it returns false'. Refute it at one input. -/
def mergeRestWrong : ChangeSpec := { name := "mergeRest", fn := fun _ => fun
  | [d1, d2, d3] => { results := [.lit (.bool false)], args := [d1, d2, d3] }
  | _ => none }
def MergeRestWrongFalsely : Prop := mergeRestRow.holds Try.pinned (OpenSpec.ofChange mergeRestWrong)

/-- 'heavykeyslaw22.MergeLines': WHATEVER THE INPUT: true; the input reads as it did. -/
def mergeLinesSpec : ChangeSpec := { name := "mergeLines", fn := fun _ => fun
  | [d1, d2, d3] => { results := [.lit (.bool true)], args := [d1, d2, d3] }
  | _ => none }
def mergeLinesRow : OpenClaim := { program := "ytiagjiaahnkefaa", sum := "7616723841b3e739b78e9311a740e27dd367c80ed52e035930a19804474f1972", func := "heavykeys/heavykeyslaw22.MergeLines", spec := "mergeLines", inPlace := ["math/bits.Add64"], unfollowed := true, recurses := true, apart := false }
def MergeLinesSaid : Prop := mergeLinesRow.holds Try.pinned (OpenSpec.ofChange mergeLinesSpec)

/-- ITS FALSE NEIGHBOUR: 'it returns false'. Refute it at one input. -/
def mergeLinesWrong : ChangeSpec := { name := "mergeLines", fn := fun _ => fun
  | [d1, d2, d3] => { results := [.lit (.bool false)], args := [d1, d2, d3] }
  | _ => none }
def MergeLinesWrongFalsely : Prop := mergeLinesRow.holds Try.pinned (OpenSpec.ofChange mergeLinesWrong)

/-- 'heavykeyslaw22.MergePicks': WHATEVER THE INPUT: true; the input reads as it did. -/
def mergePicksSpec : ChangeSpec := { name := "mergePicks", fn := fun _ => fun
  | [d1, d2, d3] => { results := [.lit (.bool true)], args := [d1, d2, d3] }
  | _ => none }
def mergePicksRow : OpenClaim := { program := "ytiagjiaahnkefaa", sum := "7616723841b3e739b78e9311a740e27dd367c80ed52e035930a19804474f1972", func := "heavykeys/heavykeyslaw22.MergePicks", spec := "mergePicks", inPlace := ["math/bits.Add64"], unfollowed := true, recurses := true, apart := false }
def MergePicksSaid : Prop := mergePicksRow.holds Try.pinned (OpenSpec.ofChange mergePicksSpec)

/-- ITS FALSE NEIGHBOUR: 'it returns false'. Refute it at one input. -/
def mergePicksWrong : ChangeSpec := { name := "mergePicks", fn := fun _ => fun
  | [d1, d2, d3] => { results := [.lit (.bool false)], args := [d1, d2, d3] }
  | _ => none }
def MergePicksWrongFalsely : Prop := mergePicksRow.holds Try.pinned (OpenSpec.ofChange mergePicksWrong)

/- THE SECOND FORM. 'bulk': how many values and letters a reading holds, each counted each time it is reached (what is shared counts as often as it is met; a slice's spare places count too). A statement '..UptoSaid' is the law's where the arguments, and the package variables that the reading takes, are together of bulk at most 1048576: NARROWER than '..Said'. Prove '..Said' where nothing that the law and all that it calls make is longer than what came in: it says more and counts as full. Else prove '..UptoSaid'. A law counts once. -/
mutual
def uptoBulk {H : Type} : DataW H → Nat
  | .lit (.string bytes) => bytes.length + 1
  | .lit _ => 1
  | .nil => 1
  | .ptr d => uptoBulk d + 1
  | .slice elems spare => uptoBulkAll elems + uptoBulkAll spare + 1
  | .agg parts => uptoBulkAll parts + 1
  | .iface _ d => uptoBulk d + 1
  | .map entries => uptoBulkEntries entries + 1
  | .held _ => 1
def uptoBulkAll {H : Type} : List (DataW H) → Nat
  | [] => 0
  | d :: r => uptoBulk d + uptoBulkAll r
def uptoBulkEntries {H : Type} : List (Lit × DataW H) → Nat
  | [] => 0
  | x :: r => uptoBulkEntry x + uptoBulkEntries r
def uptoBulkEntry {H : Type} : Lit × DataW H → Nat
  | (.string bytes, d) => bytes.length + uptoBulk d + 1
  | (_, d) => uptoBulk d + 1
 end
def uptoSmall : (H : Type) → List (DataW H) → Bool := fun _ ds => decide (uptoBulkAll ds ≤ 1048576)
def OpenSpec.upto (s : _root_.Go.ChangeSpec) : _root_.Go.OpenSpec := { _root_.Go.OpenSpec.ofChange s with cond := some uptoSmall }

/-- 'heavykeyslaw24.ReportCheck', WHERE WHAT IT READS IS OF BULK AT MOST 1048576: true; the input reads as it did. -/
def reportCheckUptoRow : OpenClaim := { program := "ytiagjiaahnkefaa", sum := "7616723841b3e739b78e9311a740e27dd367c80ed52e035930a19804474f1972", func := "heavykeys/heavykeyslaw24.ReportCheck", spec := "reportCheck", inPlace := ["math/bits.Add64"], apart := false, narrowed := true }
def ReportCheckUptoSaid : Prop := reportCheckUptoRow.holds Try.pinned (OpenSpec.upto reportCheckSpec)

/-- 'heavykeyslaw24.ReportEncode', WHERE WHAT IT READS IS OF BULK AT MOST 1048576: true; the input reads as it did. -/
def reportEncodeUptoRow : OpenClaim := { program := "ytiagjiaahnkefaa", sum := "7616723841b3e739b78e9311a740e27dd367c80ed52e035930a19804474f1972", func := "heavykeys/heavykeyslaw24.ReportEncode", spec := "reportEncode", inPlace := ["math/bits.Add64"], apart := false, narrowed := true }
def ReportEncodeUptoSaid : Prop := reportEncodeUptoRow.holds Try.pinned (OpenSpec.upto reportEncodeSpec)

/-- 'heavykeyslaw24.ReportBack', WHERE WHAT IT READS IS OF BULK AT MOST 1048576: true; the input reads as it did. -/
def reportBackUptoRow : OpenClaim := { program := "ytiagjiaahnkefaa", sum := "7616723841b3e739b78e9311a740e27dd367c80ed52e035930a19804474f1972", func := "heavykeys/heavykeyslaw24.ReportBack", spec := "reportBack", inPlace := ["math/bits.Add64"], apart := false, narrowed := true }
def ReportBackUptoSaid : Prop := reportBackUptoRow.holds Try.pinned (OpenSpec.upto reportBackSpec)

/-- 'heavykeyslaw22.MergeOrder', WHERE WHAT IT READS IS OF BULK AT MOST 1048576: true; the input reads as it did. -/
def mergeOrderUptoRow : OpenClaim := { program := "ytiagjiaahnkefaa", sum := "7616723841b3e739b78e9311a740e27dd367c80ed52e035930a19804474f1972", func := "heavykeys/heavykeyslaw22.MergeOrder", spec := "mergeOrder", inPlace := ["math/bits.Add64"], unfollowed := true, recurses := true, apart := false, narrowed := true }
def MergeOrderUptoSaid : Prop := mergeOrderUptoRow.holds Try.pinned (OpenSpec.upto mergeOrderSpec)

/-- 'heavykeyslaw22.MergeContains', WHERE WHAT IT READS IS OF BULK AT MOST 1048576: true; the input reads as it did. -/
def mergeContainsUptoRow : OpenClaim := { program := "ytiagjiaahnkefaa", sum := "7616723841b3e739b78e9311a740e27dd367c80ed52e035930a19804474f1972", func := "heavykeys/heavykeyslaw22.MergeContains", spec := "mergeContains", inPlace := ["math/bits.Add64"], unfollowed := true, recurses := true, apart := false, narrowed := true }
def MergeContainsUptoSaid : Prop := mergeContainsUptoRow.holds Try.pinned (OpenSpec.upto mergeContainsSpec)

/-- 'heavykeyslaw22.MergeCheck', WHERE WHAT IT READS IS OF BULK AT MOST 1048576: true; the input reads as it did. -/
def mergeCheckUptoRow : OpenClaim := { program := "ytiagjiaahnkefaa", sum := "7616723841b3e739b78e9311a740e27dd367c80ed52e035930a19804474f1972", func := "heavykeys/heavykeyslaw22.MergeCheck", spec := "mergeCheck", inPlace := ["math/bits.Add64"], unfollowed := true, recurses := true, apart := false, narrowed := true }
def MergeCheckUptoSaid : Prop := mergeCheckUptoRow.holds Try.pinned (OpenSpec.upto mergeCheckSpec)

/-- 'heavykeyslaw22.MergeRest', WHERE WHAT IT READS IS OF BULK AT MOST 1048576: true; the input reads as it did. -/
def mergeRestUptoRow : OpenClaim := { program := "ytiagjiaahnkefaa", sum := "7616723841b3e739b78e9311a740e27dd367c80ed52e035930a19804474f1972", func := "heavykeys/heavykeyslaw22.MergeRest", spec := "mergeRest", inPlace := ["math/bits.Add64"], unfollowed := true, recurses := true, apart := false, narrowed := true }
def MergeRestUptoSaid : Prop := mergeRestUptoRow.holds Try.pinned (OpenSpec.upto mergeRestSpec)

/-- 'heavykeyslaw22.MergeLines', WHERE WHAT IT READS IS OF BULK AT MOST 1048576: true; the input reads as it did. -/
def mergeLinesUptoRow : OpenClaim := { program := "ytiagjiaahnkefaa", sum := "7616723841b3e739b78e9311a740e27dd367c80ed52e035930a19804474f1972", func := "heavykeys/heavykeyslaw22.MergeLines", spec := "mergeLines", inPlace := ["math/bits.Add64"], unfollowed := true, recurses := true, apart := false, narrowed := true }
def MergeLinesUptoSaid : Prop := mergeLinesUptoRow.holds Try.pinned (OpenSpec.upto mergeLinesSpec)

/-- 'heavykeyslaw22.MergePicks', WHERE WHAT IT READS IS OF BULK AT MOST 1048576: true; the input reads as it did. -/
def mergePicksUptoRow : OpenClaim := { program := "ytiagjiaahnkefaa", sum := "7616723841b3e739b78e9311a740e27dd367c80ed52e035930a19804474f1972", func := "heavykeys/heavykeyslaw22.MergePicks", spec := "mergePicks", inPlace := ["math/bits.Add64"], unfollowed := true, recurses := true, apart := false, narrowed := true }
def MergePicksUptoSaid : Prop := mergePicksUptoRow.holds Try.pinned (OpenSpec.upto mergePicksSpec)

end Rows
end Go.Proofs.Ytiagjiaahnkefaa
