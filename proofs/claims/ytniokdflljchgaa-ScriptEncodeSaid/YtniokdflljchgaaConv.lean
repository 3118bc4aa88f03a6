/- A text as bytes: the new row is read. -/
import Derived.Test.YtniokdflljchgaaIn
import Derived.Test.YtniokdflljchgaaVar
import Derived.Test.YtniokdflljchgaaBuf
import Derived.Lib.ConvBytes
import Derived.Maps.AppendAt
namespace Go.Proofs.Ytniokdflljchgaa
open Go.RowKit

theorem run_conv_sb (w : World) (s : ByteArray) (hs : s.size ≤ 9223372036854775807) : ∃ c w', (convert 9 28 (.string s)).run Try.prog w = .ok (.slice (some ⟨w.heap.size, 0, none⟩) s.size c) w' ∧ RdL byF 1 w' (.slice (some ⟨w.heap.size, 0, none⟩) s.size c) s.data.toList ∧ s.size ≤ c ∧ w.grownBy w' none ∧ w'.heap.size = w.heap.size + 1 := by
  have hl : s.data.toList.length = s.size := Array.length_toList
  refine ⟨_, _, Lib.run_convert_string_bytes w 9 28 5 s Try.underlying9 Try.underlying28 Try.underlying5, ?_, grownCap_ge w s.size 0 5, ⟨rfl, rfl, rfl, ?_, fun i hi _ => Lib.bytesWorld_at_old w _ s i hi⟩, Lib.bytesWorld_size w _ s⟩
  · refine ⟨by rw [length_cellsOf byF 1 byF_len], by rw [hl]; exact hs, .inr ⟨w.heap.size, 0, _, by rw [hl], by rw [Lib.bytesWorld_size]; omega, fun j u hu => ?_⟩⟩
    have hj : j < s.size := by
      have := (List.getElem?_eq_some_iff.1 hu).1
      rwa [length_cellsOf byF 1 byF_len, Nat.mul_one, hl] at this
    rw [Nat.zero_add, Lib.bytesWorld_cell w _ s j hj]
    have e := get_cellsOf byF 1 byF_len s.data.toList j 0 (by omega) (s.data.toList[j]'(by rw [hl]; exact hj)) (List.getElem?_eq_getElem _)
    rw [Nat.mul_one, Nat.add_zero] at e
    rw [← hu, e]
    have hd : s.data.toList.getD j 0 = s.data.toList[j]'(by rw [hl]; exact hj) := by
      rw [List.getD_eq_getElem?_getD, List.getElem?_eq_getElem (by rw [hl]; exact hj)]; rfl
    rw [hd]; rfl
  · rw [Lib.bytesWorld_size]; omega
theorem conv_arm {w : World} {s : ByteArray} (hsz : s.size ≤ 9223372036854775807) {o : Oper} {a : Act} {ops : Array Oper} {rest : List Oper} {Q : Exit → Act → World → Prop} (hgd : o.guard = none) (x : Operand) (ho : o.op = .convert 9 28 x) (hx : a.eval x = .string s)
    (h : ∀ c w', RdL byF 1 w' (.slice (some ⟨w.heap.size, 0, none⟩) s.size c) s.data.toList → s.size ≤ c → w.grownBy w' none → w'.heap.size = w.heap.size + 1 → wpList Try.prog ops Q rest (a.put o.dst (.slice (some ⟨w.heap.size, 0, none⟩) s.size c)) w') : wpList Try.prog ops Q (o :: rest) a w := by
  obtain ⟨c, w', hrun, h1, h2, h3, h4⟩ := run_conv_sb w s hsz
  refine wpList_plain hgd fun _ hK => ?_
  unfold Oper.wp execOp
  simp only [ho, hx, Sem.run_bind, Sem.run_pure, Result.andThen_ok, hrun]
  exact hK _ _ (h c w' h1 h2 h3 h4)
end Go.Proofs.Ytniokdflljchgaa
