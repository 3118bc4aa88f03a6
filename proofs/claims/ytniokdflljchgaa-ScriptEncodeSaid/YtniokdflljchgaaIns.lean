/- append onto an empty literal: nothing that lies there is written. Insertion into a slice, made anew. -/
import Derived.Test.YtniokdflljchgaaOwn2
import Derived.Test.YtniokdflljchgaaRg
import Derived.ArgAppend
namespace Go.Proofs.Ytniokdflljchgaa
open Go.RowKit

/-- The slice lies in the literal's block or in a new one. -/
theorem run_app_lit {w : World} {st e ty : TypeId} {z : Value} {size bytes : Nat} (E : Elt st e z size bytes) {base g : Nat} (hown : w.ownsRow base e size (.slice (some ⟨g, 0, none⟩) 0 0) 0 [])
    {A : Option Addr} {m c : Nat} {news : List Value} (hr : Rd w size (.slice A m c) m news) (h1 : ∀ u ∈ news, u.oneCell' = true) (h63 : m ≤ maxLen) (hb : m * bytes ≤ 140737488355328) (hbase : base ≤ w.heap.size) :
    ∃ v' w', (Builtin.append_ #[st, st] ty #[.slice (some ⟨g, 0, none⟩) 0 0, .slice A m c]).run Try.prog w = .ok v' w' ∧ w'.ownsRow base e size v' m news ∧ w.grownBy w' none ∧ Lies (.slice (some ⟨g, 0, none⟩) 0 0) v' w.heap.size := by
  obtain ⟨i, hi, hz0, hz1, hz2⟩ := info_parts E.info
  rcases Nat.eq_zero_or_pos m with rfl | hm
  · have hn : news = [] := List.eq_nil_of_length_eq_zero (by simpa using hr.1)
    subst hn
    have key : ∀ ad : Addr, ∃ v' w', (Builtin.append_ #[st, st] ty #[.slice (some ⟨g, 0, none⟩) 0 0, .slice (some ad) 0 c]).run Try.prog w = .ok v' w' ∧ v' = .slice (some ⟨g, 0, none⟩) 0 0 ∧ w' = w := by
      intro ad
      refine ⟨_, _, ?_, rfl, rfl⟩
      simp [Builtin.append_, run_underlying E.ht, sizeOf, typeInfo, hi, Builtin.lenOf, Builtin.firstCells, storeCells, loadCells, loadCellsFrom]
    cases A with
    | none => exact ⟨_, w, run_app_nil E hown c, hown, World.grownBy.refl w _, .inl rfl⟩
    | some ad =>
      obtain ⟨v', w', h, rfl, rfl⟩ := key ad
      exact ⟨_, _, h, hown, World.grownBy.refl _ _, .inl rfl⟩
  · rcases hr.2.2 with ⟨rfl, _⟩ | ⟨g', off, cap, hv, _, hc⟩
    · omega
    · cases hv
      obtain ⟨v', w', hrun, h2, h3⟩ := run_append_arg_grows (P := Try.prog) w st ty e i z size bytes E.ht hi hz0 hz1 hz2 E.cells E.pos ⟨g, 0, none⟩ 0 0 [] (by simp) (by simp) ⟨g', off, none⟩ m c news hr.1 (fun j u hu => by
        have e : (⟨g', off, none⟩ : Addr).add j = ⟨g', off + j, none⟩ := by unfold Addr.add; split <;> simp_all
        rw [e]; exact hc j u hu) (by omega) (by simpa using h63) (by simpa using hb)
      simp only [Nat.zero_add, List.nil_append] at h2
      refine ⟨v', w', hrun, ⟨h2.1, h2.2.imp id fun ⟨g3, cap3, cur3, e1, e2, e3⟩ => ⟨g3, cap3, cur3, e1, Nat.le_trans hbase e2, e3⟩⟩, h3, ?_⟩
      rcases h2.2 with ⟨_, h0⟩ | ⟨g2, cap2, cur, rfl, hb2, _⟩
      · omega
      · exact .inr ⟨g2, rfl, hb2⟩
section
variable {α : Type} {f : α → List Value} {st e : TypeId} {z : Value} {size bytes : Nat} {w : World} {B : Nat} {g : Nat} {l2 : List α} {A : Option Addr} {m c : Nat}
variable {o : Oper} {a : Act} {ops : Array Oper} {rest : List Oper} {Q : Exit → Act → World → Prop}
theorem wp_app_lit (E : Elt st e z size bytes) (h1 : ∀ u ∈ cellsOf f l2, u.oneCell' = true) (hown : Own f size e B w (.slice (some ⟨g, 0, none⟩) 0 0) []) (hr : RdL f size w (.slice A m c) l2) (hm : m = l2.length) (hb : l2.length * bytes ≤ 140737488355328) (h63 : l2.length ≤ 9223372036854775807) (hbase : B ≤ w.heap.size)
    (s x : Operand) (ho : o.op = .call { callee := .builtin .append, args := #[s, x], argTypes := #[st, st] }) (hs : a.eval s = .slice (some ⟨g, 0, none⟩) 0 0) (hx : a.eval x = .slice A m c) {K : Act → World → Prop}
    (h : ∀ v' w', Own f size e B w' v' l2 → w.grownBy w' none → Lies (.slice (some ⟨g, 0, none⟩) 0 0) v' w.heap.size → K (a.put o.dst v') w') : o.wp Try.prog a w K Q := by
  subst hm
  obtain ⟨v', w', hrun, h2, h3, h4⟩ := run_app_lit (ty := o.type) E hown hr h1 (by unfold maxLen; exact h63) hb hbase
  unfold Oper.wp execOp
  simp only [ho, resolve, invoke, builtin, Sem.run_bind, Sem.run_pure, Result.andThen_ok, List.map_toArray, List.map_cons, List.map_nil, hs, hx, hrun]
  exact h v' w' h2 h3 h4
/-- append onto an empty literal, in a region that is carried out in order. -/
theorem app_litV (E : Elt st e z size bytes) (h1 : ∀ u ∈ cellsOf f l2, u.oneCell' = true) (hown : Own f size e B w (.slice (some ⟨g, 0, none⟩) 0 0) []) (hr : RdL f size w (.slice A m c) l2) (hm : m = l2.length) (hb : l2.length * bytes ≤ 140737488355328) (h63 : l2.length ≤ 9223372036854775807) (hbase : B ≤ w.heap.size)
    (hgd : o.guard = none) (s x : Operand) (ho : o.op = .call { callee := .builtin .append, args := #[s, x], argTypes := #[st, st] }) (hs : a.eval s = .slice (some ⟨g, 0, none⟩) 0 0) (hx : a.eval x = .slice A m c)
    (h : ∀ v' w', Own f size e B w' v' l2 → w.grownBy w' none → Lies (.slice (some ⟨g, 0, none⟩) 0 0) v' w.heap.size → wpList Try.prog ops Q rest (a.put o.dst v') w') : wpList Try.prog ops Q (o :: rest) a w :=
  wpList_plain hgd fun _ hK => wp_app_lit E h1 hown hr hm hb h63 hbase s x ho hs hx fun v' w' h2 h3 h4 => hK _ _ (h v' w' h2 h3 h4)
theorem app_lit (E : Elt st e z size bytes) (h1 : OneF f) (hown : Own f size e B w (.slice (some ⟨g, 0, none⟩) 0 0) []) (hr : RdL f size w (.slice A m c) l2) (hm : m = l2.length) (hb : l2.length * bytes ≤ 140737488355328) (h63 : l2.length ≤ 9223372036854775807) (hbase : B ≤ w.heap.size)
    (hgd : o.guard = none) (s x : Operand) (ho : o.op = .call { callee := .builtin .append, args := #[s, x], argTypes := #[st, st] }) (hs : a.eval s = .slice (some ⟨g, 0, none⟩) 0 0) (hx : a.eval x = .slice A m c)
    (h : ∀ v' w', Own f size e B w' v' l2 → w.grownBy w' none → Lies (.slice (some ⟨g, 0, none⟩) 0 0) v' w.heap.size → wpList Try.prog ops Q rest (a.put o.dst v') w') : wpList Try.prog ops Q (o :: rest) a w :=
  app_litV E (h1.cells l2) hown hr hm hb h63 hbase hgd s x ho hs hx h
end
/-- One element in a block of its own that is known whole. -/
theorem Blk.one {α : Type} {f : α → List Value} {size : Nat} {w : World} {g : Nat} {cs : Array Value} (h : Blk w g cs) (hf : ∀ x, (f x).length = size) (y : α) (hcs : cs.toList = f y) : RdL f size w (.slice (some ⟨g, 0, none⟩) 1 1) [y] := by
  refine ⟨by simp [cellsOf, hf], by simp, .inr ⟨g, 0, 1, rfl, h.lt, fun j u hu => ?_⟩⟩
  simp only [cellsOf, List.flatMap_cons, List.flatMap_nil, List.append_nil, ← hcs] at hu
  rw [Nat.zero_add, h.cell j]
  simpa using hu
end Go.Proofs.Ytniokdflljchgaa
