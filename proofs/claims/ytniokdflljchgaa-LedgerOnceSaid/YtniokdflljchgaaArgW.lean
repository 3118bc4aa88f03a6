/- Arguments that come in: slices of ints and of words, read as lists. -/
import Derived.Test.YtniokdflljchgaaArgs
import Derived.Test.YtniokdflljchgaaCls
namespace Go.Proofs.Ytniokdflljchgaa
open Go.RowKit

theorem IsRow.len_take {k : IntKind} {w : World} {a : Option Addr} {len cap : Nat} {zs : List Int} (h : IsRow k w a len cap zs) : (zs.take len).length = len := by
  rcases h with ⟨_, rfl, _, rfl⟩ | ⟨x, _, h1, _, h3, _⟩
  · rfl
  · rw [List.length_take]; omega
theorem IsRow.rdI {w : World} {a : Option Addr} {len cap : Nat} {zs : List Int} (h : IsRow .i64 w a len cap zs) : RdL intF 1 w (.slice a len cap) (zs.take len) := by
  have e := h.len_take
  have h2 := h.rd
  unfold RdL
  rw [e, show cellsOf intF (zs.take len) = _ from cells_int _]
  exact h2
theorem IsRow.rdW {w : World} {a : Option Addr} {len cap : Nat} {zs : List Int} (h : IsRow .u64 w a len cap zs) : RdL wordF 1 w (.slice a len cap) (zs.take len) := by
  have e := h.len_take
  have h2 := h.rd
  unfold RdL
  rw [e, show cellsOf wordF (zs.take len) = _ from cells_word _]
  exact h2
theorem IsRow.wf {k : IntKind} {w : World} {a : Option Addr} {len cap : Nat} {zs : List Int} (h : IsRow k w a len cap zs) : ∀ x ∈ zs.take len, (Lit.int k x).wf = true := by
  intro x hx
  rcases h with ⟨_, rfl, _, rfl⟩ | ⟨_, _, _, _, _, _, h5⟩
  · simp at hx
  · exact h5 x (List.mem_of_mem_take hx)
end Go.Proofs.Ytniokdflljchgaa
