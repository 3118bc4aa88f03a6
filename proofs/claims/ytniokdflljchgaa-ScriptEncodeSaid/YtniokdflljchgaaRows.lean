/-
  No cell of these rows narrows 'for every input' (looked for: loops, veiled, ifaces, maps, wideKeys, modest, calm, conditions, laid).
  DERIVED. THE GIVEN ROWS OF THIS SEAT. 6 by the template 'for every input the law returns true; each argument reads behind the call as it read before'; 0 by the template 'total and deterministic' (their statements: YtniokdflljchgaaTotals.lean).
  GIVEN WITH THE SEED: the statements are not yours to turn. If you find one false, say at which input.
  Laid BY PROGRAM, IN A SANDBOX (cutbox-rows.mjs): the forced cells as the released guide's own fill.sh prints them over the translation d405e95b4304378d… (all of the seat's roots in one cut). By AI agents, Wed Nov 11 2026. No macro, syntax, notation, axiom, sorry.
-/
import Derived.Test.YtniokdflljchgaaChecked
import GoSem.Claim
import GoSem.ClaimJoined
import GoSem.ClaimMapViews
import Derived.JoinedTies
import Derived.KernelRfl
namespace Go.Proofs.Ytniokdflljchgaa
/- THE CELL 'sum', in the pinned program and in every row, IS THE sha256 OF THE DUMP (.gsa) THAT YtniokdflljchgaaProg.lean LOADS. Nothing in Lean hashes anything: it is a label: what it is worth is what the hold of that sum in a sandbox is worth. -/
noncomputable def Try.pinned : Pinned := { name := "ytniokdflljchgaa", sum := "d405e95b4304378ded20267d64f7fc62692cfdc810d54ee093b1f566824c1828", checked := Try.checked }
namespace Rows
def none {H : Type} : Left H := { results := [], args := [] }

/-- 'heavykeyslaw33.ScriptEncode': WHATEVER THE INPUT: true; the input reads as it did. -/
def scriptEncodeSpec : ChangeSpec := { name := "scriptEncode", fn := fun _ => fun
  | [d1, d2, d3, d4, d5] => { results := [.lit (.bool true)], args := [d1, d2, d3, d4, d5] }
  | _ => none }
def scriptEncodeRow : OpenClaim := { program := "ytniokdflljchgaa", sum := "d405e95b4304378ded20267d64f7fc62692cfdc810d54ee093b1f566824c1828", func := "heavykeys/heavykeyslaw33.ScriptEncode", spec := "scriptEncode", apart := false }
def ScriptEncodeSaid : Prop := scriptEncodeRow.holds Try.pinned (OpenSpec.ofChange scriptEncodeSpec)

/-- ITS FALSE NEIGHBOUR: 'it returns false'. Refute it at one input. -/
def scriptEncodeWrong : ChangeSpec := { name := "scriptEncode", fn := fun _ => fun
  | [d1, d2, d3, d4, d5] => { results := [.lit (.bool false)], args := [d1, d2, d3, d4, d5] }
  | _ => none }
def ScriptEncodeWrongFalsely : Prop := scriptEncodeRow.holds Try.pinned (OpenSpec.ofChange scriptEncodeWrong)

/-- 'heavykeyslaw33.ScriptDecode': WHATEVER THE INPUT: true; the input reads as it did. -/
def scriptDecodeSpec : ChangeSpec := { name := "scriptDecode", fn := fun _ => fun
  | [d1, d2, d3, d4] => { results := [.lit (.bool true)], args := [d1, d2, d3, d4] }
  | _ => none }
def scriptDecodeRow : OpenClaim := { program := "ytniokdflljchgaa", sum := "d405e95b4304378ded20267d64f7fc62692cfdc810d54ee093b1f566824c1828", func := "heavykeys/heavykeyslaw33.ScriptDecode", spec := "scriptDecode", apart := false }
def ScriptDecodeSaid : Prop := scriptDecodeRow.holds Try.pinned (OpenSpec.ofChange scriptDecodeSpec)

/-- ITS FALSE NEIGHBOUR: 'it returns false'. Refute it at one input. -/
def scriptDecodeWrong : ChangeSpec := { name := "scriptDecode", fn := fun _ => fun
  | [d1, d2, d3, d4] => { results := [.lit (.bool false)], args := [d1, d2, d3, d4] }
  | _ => none }
def ScriptDecodeWrongFalsely : Prop := scriptDecodeRow.holds Try.pinned (OpenSpec.ofChange scriptDecodeWrong)

/-- 'heavykeyslaw33.ScriptBack': WHATEVER THE INPUT: true; the input reads as it did. -/
def scriptBackSpec : ChangeSpec := { name := "scriptBack", fn := fun _ => fun
  | [d1, d2, d3, d4, d5] => { results := [.lit (.bool true)], args := [d1, d2, d3, d4, d5] }
  | _ => none }
def scriptBackRow : OpenClaim := { program := "ytniokdflljchgaa", sum := "d405e95b4304378ded20267d64f7fc62692cfdc810d54ee093b1f566824c1828", func := "heavykeys/heavykeyslaw33.ScriptBack", spec := "scriptBack", apart := false }
def ScriptBackSaid : Prop := scriptBackRow.holds Try.pinned (OpenSpec.ofChange scriptBackSpec)

/-- ITS FALSE NEIGHBOUR: 'it returns false'. Refute it at one input. -/
def scriptBackWrong : ChangeSpec := { name := "scriptBack", fn := fun _ => fun
  | [d1, d2, d3, d4, d5] => { results := [.lit (.bool false)], args := [d1, d2, d3, d4, d5] }
  | _ => none }
def ScriptBackWrongFalsely : Prop := scriptBackRow.holds Try.pinned (OpenSpec.ofChange scriptBackWrong)

/-- 'heavykeyslaw26.LedgerLimit': WHATEVER THE INPUT: true; the input reads as it did. -/
def ledgerLimitSpec : ChangeSpec := { name := "ledgerLimit", fn := fun _ => fun
  | [d1, d2] => { results := [.lit (.bool true)], args := [d1, d2] }
  | _ => none }
def ledgerLimitRow : OpenClaim := { program := "ytniokdflljchgaa", sum := "d405e95b4304378ded20267d64f7fc62692cfdc810d54ee093b1f566824c1828", func := "heavykeys/heavykeyslaw26.LedgerLimit", spec := "ledgerLimit", inPlace := ["math/bits.Add64"], unfollowed := true, recurses := true, apart := false }
def LedgerLimitSaid : Prop := ledgerLimitRow.holds Try.pinned (OpenSpec.ofChange ledgerLimitSpec)

/-- ITS FALSE NEIGHBOUR: 'it returns false'. Refute it at one input. -/
def ledgerLimitWrong : ChangeSpec := { name := "ledgerLimit", fn := fun _ => fun
  | [d1, d2] => { results := [.lit (.bool false)], args := [d1, d2] }
  | _ => none }
def LedgerLimitWrongFalsely : Prop := ledgerLimitRow.holds Try.pinned (OpenSpec.ofChange ledgerLimitWrong)

/-- 'heavykeyslaw26.LedgerOnce': WHATEVER THE INPUT: true; the input reads as it did. -/
def ledgerOnceSpec : ChangeSpec := { name := "ledgerOnce", fn := fun _ => fun
  | [d] => { results := [.lit (.bool true)], args := [d] }
  | _ => none }
def ledgerOnceRow : OpenClaim := { program := "ytniokdflljchgaa", sum := "d405e95b4304378ded20267d64f7fc62692cfdc810d54ee093b1f566824c1828", func := "heavykeys/heavykeyslaw26.LedgerOnce", spec := "ledgerOnce", inPlace := ["math/bits.Add64"], unfollowed := true, recurses := true, apart := false }
def LedgerOnceSaid : Prop := ledgerOnceRow.holds Try.pinned (OpenSpec.ofChange ledgerOnceSpec)

/-- ITS FALSE NEIGHBOUR: 'it returns false'. Refute it at one input. -/
def ledgerOnceWrong : ChangeSpec := { name := "ledgerOnce", fn := fun _ => fun
  | [d] => { results := [.lit (.bool false)], args := [d] }
  | _ => none }
def LedgerOnceWrongFalsely : Prop := ledgerOnceRow.holds Try.pinned (OpenSpec.ofChange ledgerOnceWrong)

/-- 'heavykeyslaw26.LedgerSteps': WHATEVER THE INPUT: true; the input reads as it did. -/
def ledgerStepsSpec : ChangeSpec := { name := "ledgerSteps", fn := fun _ => fun
  | [d1, d2, d3] => { results := [.lit (.bool true)], args := [d1, d2, d3] }
  | _ => none }
def ledgerStepsRow : OpenClaim := { program := "ytniokdflljchgaa", sum := "d405e95b4304378ded20267d64f7fc62692cfdc810d54ee093b1f566824c1828", func := "heavykeys/heavykeyslaw26.LedgerSteps", spec := "ledgerSteps", inPlace := ["math/bits.Add64"], unfollowed := true, recurses := true, apart := false }
def LedgerStepsSaid : Prop := ledgerStepsRow.holds Try.pinned (OpenSpec.ofChange ledgerStepsSpec)

/-- ITS FALSE NEIGHBOUR: 'it returns false'. Refute it at one input. -/
def ledgerStepsWrong : ChangeSpec := { name := "ledgerSteps", fn := fun _ => fun
  | [d1, d2, d3] => { results := [.lit (.bool false)], args := [d1, d2, d3] }
  | _ => none }
def LedgerStepsWrongFalsely : Prop := ledgerStepsRow.holds Try.pinned (OpenSpec.ofChange ledgerStepsWrong)

/- THE SECOND FORM. 'bulk': how many values and letters a reading holds, each counted each time it is reached (what is shared counts as often as it is met; a slice's spare places count too). A statement '..UptoSaid' is the law's where the arguments, and the package variables that the reading takes, are together of bulk at most 1048576: NARROWER than '..Said'. Prove '..Said' where nothing that the law and all that it calls make is longer than what came in: it says more and counts as full. Else prove '..UptoSaid'. A law counts once. -/
mutual
def uptoBulk {H : Type} : DataW H → Nat
  | .lit (.string bytes) => bytes.length + 1
  | .lit _ => 1
  | .nil => 1
  | .ptr d => uptoBulk d + 1
  | .slice elems spare => uptoBulkAll elems + uptoBulkAll spare + 1
  | .agg parts => uptoBulkAll parts + 1
  | .iface _ d => uptoBulk d + 1
  | .map entries => uptoBulkEntries entries + 1
  | .held _ => 1
def uptoBulkAll {H : Type} : List (DataW H) → Nat
  | [] => 0
  | d :: r => uptoBulk d + uptoBulkAll r
def uptoBulkEntries {H : Type} : List (Lit × DataW H) → Nat
  | [] => 0
  | x :: r => uptoBulkEntry x + uptoBulkEntries r
def uptoBulkEntry {H : Type} : Lit × DataW H → Nat
  | (.string bytes, d) => bytes.length + uptoBulk d + 1
  | (_, d) => uptoBulk d + 1
 end
def uptoSmall : (H : Type) → List (DataW H) → Bool := fun _ ds => decide (uptoBulkAll ds ≤ 1048576)
def OpenSpec.upto (s : _root_.Go.ChangeSpec) : _root_.Go.OpenSpec := { _root_.Go.OpenSpec.ofChange s with cond := some uptoSmall }

/-- 'heavykeyslaw33.ScriptEncode', WHERE WHAT IT READS IS OF BULK AT MOST 1048576: true; the input reads as it did. -/
def scriptEncodeUptoRow : OpenClaim := { program := "ytniokdflljchgaa", sum := "d405e95b4304378ded20267d64f7fc62692cfdc810d54ee093b1f566824c1828", func := "heavykeys/heavykeyslaw33.ScriptEncode", spec := "scriptEncode", apart := false, narrowed := true }
def ScriptEncodeUptoSaid : Prop := scriptEncodeUptoRow.holds Try.pinned (OpenSpec.upto scriptEncodeSpec)

/-- 'heavykeyslaw33.ScriptDecode', WHERE WHAT IT READS IS OF BULK AT MOST 1048576: true; the input reads as it did. -/
def scriptDecodeUptoRow : OpenClaim := { program := "ytniokdflljchgaa", sum := "d405e95b4304378ded20267d64f7fc62692cfdc810d54ee093b1f566824c1828", func := "heavykeys/heavykeyslaw33.ScriptDecode", spec := "scriptDecode", apart := false, narrowed := true }
def ScriptDecodeUptoSaid : Prop := scriptDecodeUptoRow.holds Try.pinned (OpenSpec.upto scriptDecodeSpec)

/-- 'heavykeyslaw33.ScriptBack', WHERE WHAT IT READS IS OF BULK AT MOST 1048576: true; the input reads as it did. -/
def scriptBackUptoRow : OpenClaim := { program := "ytniokdflljchgaa", sum := "d405e95b4304378ded20267d64f7fc62692cfdc810d54ee093b1f566824c1828", func := "heavykeys/heavykeyslaw33.ScriptBack", spec := "scriptBack", apart := false, narrowed := true }
def ScriptBackUptoSaid : Prop := scriptBackUptoRow.holds Try.pinned (OpenSpec.upto scriptBackSpec)

/-- 'heavykeyslaw26.LedgerLimit', WHERE WHAT IT READS IS OF BULK AT MOST 1048576: true; the input reads as it did. -/
def ledgerLimitUptoRow : OpenClaim := { program := "ytniokdflljchgaa", sum := "d405e95b4304378ded20267d64f7fc62692cfdc810d54ee093b1f566824c1828", func := "heavykeys/heavykeyslaw26.LedgerLimit", spec := "ledgerLimit", inPlace := ["math/bits.Add64"], unfollowed := true, recurses := true, apart := false, narrowed := true }
def LedgerLimitUptoSaid : Prop := ledgerLimitUptoRow.holds Try.pinned (OpenSpec.upto ledgerLimitSpec)

/-- 'heavykeyslaw26.LedgerOnce', WHERE WHAT IT READS IS OF BULK AT MOST 1048576: true; the input reads as it did. -/
def ledgerOnceUptoRow : OpenClaim := { program := "ytniokdflljchgaa", sum := "d405e95b4304378ded20267d64f7fc62692cfdc810d54ee093b1f566824c1828", func := "heavykeys/heavykeyslaw26.LedgerOnce", spec := "ledgerOnce", inPlace := ["math/bits.Add64"], unfollowed := true, recurses := true, apart := false, narrowed := true }
def LedgerOnceUptoSaid : Prop := ledgerOnceUptoRow.holds Try.pinned (OpenSpec.upto ledgerOnceSpec)

/-- 'heavykeyslaw26.LedgerSteps', WHERE WHAT IT READS IS OF BULK AT MOST 1048576: true; the input reads as it did. -/
def ledgerStepsUptoRow : OpenClaim := { program := "ytniokdflljchgaa", sum := "d405e95b4304378ded20267d64f7fc62692cfdc810d54ee093b1f566824c1828", func := "heavykeys/heavykeyslaw26.LedgerSteps", spec := "ledgerSteps", inPlace := ["math/bits.Add64"], unfollowed := true, recurses := true, apart := false, narrowed := true }
def LedgerStepsUptoSaid : Prop := ledgerStepsUptoRow.holds Try.pinned (OpenSpec.upto ledgerStepsSpec)

end Rows
end Go.Proofs.Ytniokdflljchgaa
