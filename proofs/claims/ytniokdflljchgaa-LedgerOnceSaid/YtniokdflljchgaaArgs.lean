/- Arguments that come in: slices of ints. -/
import Derived.Test.YtniokdflljchgaaDeck
import Derived.ProofKit
import Derived.ShutString
import Derived.ChangeOld
namespace Go.Proofs.Ytniokdflljchgaa
open Go.RowKit

theorem own : ownKnob Try.prog.godebug = none := by kernel_rfl
theorem laidOut : laidOutB Try.prog = true := by kernel_rfl

/-- A slice of integers that came in: it is nil; or it leads to a row of 'cap' cells, the numbers 'zs' (the first 'len' are its elements), each fitting its kind. -/
def IsRow (k : IntKind) (w : World) (a : Option Addr) (len cap : Nat) (zs : List Int) : Prop :=
  (a = none ∧ len = 0 ∧ cap = 0 ∧ zs = []) ∨
  ∃ x, a = some x ∧ len ≤ cap ∧ cap ≤ maxLen ∧ zs.length = cap ∧ (∀ i, i < zs.length → w.cell? (x.add i) = some (.int k (zs.getD i 0))) ∧ ∀ n ∈ zs, (Lit.int k n).wf = true

theorem IsRow.rd {k : IntKind} {w : World} {a : Option Addr} {len cap : Nat} {zs : List Int} (h : IsRow k w a len cap zs) : Rd w 1 (.slice a len cap) len ((zs.take len).map (fun x => Value.int k x)) := by
  rcases h with ⟨rfl, rfl, rfl, rfl⟩ | ⟨x, rfl, h1, h2, h3, h4, h5⟩
  · exact ⟨by simp, by omega, .inl ⟨rfl, _, _, rfl⟩⟩
  · have hm : len ≤ 9223372036854775807 := by unfold maxLen at h2; omega
    rcases Nat.eq_zero_or_pos len with rfl | h0
    · exact ⟨by simp, by omega, .inl ⟨rfl, _, _, rfl⟩⟩
    · obtain ⟨b, off, spot⟩ := x
      have hc := h4 0 (by omega)
      cases spot with
      | some s =>
        exfalso
        unfold Addr.add at hc
        simp [World.cell?] at hc
        split at hc <;> simp_all
      | none =>
        refine ⟨by simp; omega, hm, .inr ⟨b, off, cap, rfl, block_lt_of_cell hc, fun j u hu => ?_⟩⟩
        have hj : j < len := by
          have := (List.getElem?_eq_some_iff.1 hu).1
          simp at this; omega
        have := h4 j (by omega)
        have ha : (⟨b, off, none⟩ : Addr).add j = ⟨b, off + j, none⟩ := by unfold Addr.add; split <;> simp_all
        rw [ha] at this
        rw [this, ← hu]
        simp [hj, List.getElem?_eq_getElem (show j < zs.length by omega)]
end Go.Proofs.Ytniokdflljchgaa
