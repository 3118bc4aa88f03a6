/- Values that lie in a range of blocks; append of one element that holds other slices. -/
import Derived.Test.YtniokdflljchgaaSl
import Derived.Test.YtniokdflljchgaaBlk
namespace Go.Proofs.Ytniokdflljchgaa
open Go.RowKit

theorem notIn_at {g n c b : Nat} (h : g ≠ b) : NotIn (.slice (some ⟨g, 0, none⟩) n c) b := fun a n' c' e => by cases e; exact h
def InB (lo hi : Nat) (v : Value) : Prop := ∀ a n c, v = .slice (some a) n c → lo ≤ a.block ∧ a.block < hi
theorem InB.notIn {lo hi b : Nat} {v : Value} (h : InB lo hi v) (hb : b < lo ∨ hi ≤ b) : NotIn v b := fun a n c e => by have := h a n c e; omega
theorem InB.wide {lo hi lo' hi' : Nat} {v : Value} (h : InB lo hi v) (h1 : lo' ≤ lo) (h2 : hi ≤ hi') : InB lo' hi' v := fun a n c e => by have := h a n c e; omega
/-- The slice lies in blocks from lo on, below hi. -/
theorem Own.inB {α : Type} {f : α → List Value} {s : Nat} {e : TypeId} {B : Nat} {w : World} {v : Value} {l : List α} (h : Own f s e B w v l) : InB B w.heap.size v := by
  intro a n c hv
  rcases h.2 with ⟨rfl, _⟩ | ⟨g, cap, cur, rfl, _⟩
  · cases hv
  · cases hv; exact h.lt g rfl
/-- append of one element in a block of its own, whatever the list's reading says of other elements. -/
theorem app_oneV {α : Type} {f : α → List Value} {st e : TypeId} {z : Value} {size bytes : Nat} {w : World} {B : Nat} {v : Value} {l : List α} {o : Oper} {a : Act} {ops : Array Oper} {rest : List Oper} {Q : Exit → Act → World → Prop}
    (E : Elt st e z size bytes) (hf : ∀ x, (f x).length = size) (hown : Own f size e B w v l) (y : α) (h1 : ∀ u ∈ f y, u.oneCell' = true) (hb : (l.length + 1) * bytes ≤ 140737488355328) (h63 : l.length + 1 ≤ 9223372036854775807) (hbase : B ≤ w.heap.size) {te : TypeId} {cs : Array Value} (hcs : cs.toList = f y)
    (hgd : o.guard = none) (s x : Operand) (ho : o.op = .call { callee := .builtin .append, args := #[s, x], argTypes := #[st, st] }) (hs : a.eval s = v) (hx : a.eval x = .slice (some ⟨w.heap.size, 0, none⟩) 1 1)
    (h : ∀ v' w', Own f size e B w' v' (l ++ [y]) → w.grownBy w' v.ownBlock → Lies v v' w.heap.size → wpList Try.prog ops Q rest (a.put o.dst v') w') : wpList Try.prog ops Q (o :: rest) a (w.alloc (.cells cs te)) := by
  refine wpList_plain hgd fun _ hK => ?_
  have hr := rd_one' hf w y cs te hcs
  obtain ⟨v', w', hrun, h2, h3, h4⟩ := run_app (ty := o.type) E (hown.same (World.grownBy_alloc w (.cells cs te) none)) hr (by simpa [cellsOf] using h1) (by unfold maxLen; exact h63) (by simpa using hb) (by simp; omega)
  unfold Oper.wp execOp
  simp only [ho, resolve, invoke, builtin, Sem.run_bind, Sem.run_pure, Result.andThen_ok, List.map_toArray, List.map_cons, List.map_nil, hs, hx, hrun]
  refine hK _ _ (h v' w' ?_ (grownBy_trans (World.grownBy_alloc w _ _) h3) (h4.imp id fun ⟨g, e1, e2⟩ => ⟨g, e1, by simp at e2; omega⟩))
  unfold Own; rw [cellsOf_append, List.length_append]; exact h2

end Go.Proofs.Ytniokdflljchgaa
