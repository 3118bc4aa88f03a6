/- Slices that the call itself makes: what they hold; append; cuts of slices that are read. -/
import Derived.Test.YtniokdflljchgaaCls
import Derived.Maps.AppendAt
import Derived.OwnWalk
import Derived.Deep.RegionLaw
import Derived.RegionTactic
import Derived.Deep.AppendLies
import Derived.Laws.OwnMore
namespace Go.Proofs.Ytniokdflljchgaa
open Go.RowKit

/-- v is a slice of the call's own (its block lies from B on); it holds l. -/
def Own {α : Type} (f : α → List Value) (s : Nat) (e : TypeId) (B : Nat) (w : World) (v : Value) (l : List α) : Prop := w.ownsRow B e s v l.length (cellsOf f l)
theorem Own.shape {α : Type} {f : α → List Value} {s : Nat} {e : TypeId} {B : Nat} {w : World} {v : Value} {l : List α} (h : Own f s e B w v l) : ∃ a cap, v = .slice a l.length cap := by
  rcases h.2 with ⟨rfl, h0⟩ | ⟨g, cap, cur, rfl, _⟩
  · exact ⟨_, _, by rw [h0]⟩
  · exact ⟨_, _, rfl⟩
theorem Own.nil {α : Type} (f : α → List Value) (s : Nat) (e : TypeId) (B : Nat) (w : World) : Own f s e B w (.slice none 0 0) [] := World.ownsRow_nil w B e s
theorem Own.lt {α : Type} {f : α → List Value} {s : Nat} {e : TypeId} {B : Nat} {w : World} {v : Value} {l : List α} (h : Own f s e B w v l) : ∀ k, v.ownBlock = some k → B ≤ k ∧ k < w.heap.size := World.ownsRow.lt h
theorem Own.kept {α : Type} {f : α → List Value} {s : Nat} {e : TypeId} {B : Nat} {w w' : World} {v : Value} {l : List α} {r : Option Nat} (h : Own f s e B w v l) (hg : w.grownBy w' r) (hne : ∀ k, v.ownBlock = some k → r ≠ some k) : Own f s e B w' v l := by
  refine World.ownsRow.kept h hg ?_
  cases hv : v.ownBlock with
  | none => exact .inl rfl
  | some k => exact .inr (fun e => hne k hv e.symm)
theorem Own.same {α : Type} {f : α → List Value} {s : Nat} {e : TypeId} {B : Nat} {w w' : World} {v : Value} {l : List α} (h : Own f s e B w v l) (hg : w.grownBy w' none) : Own f s e B w' v l := h.kept hg (by simp)
theorem Own.len {α : Type} {f : α → List Value} {s : Nat} {e : TypeId} {B : Nat} {w : World} {v : Value} {l : List α} (h : Own f s e B w v l) : l.length ≤ 9223372036854775807 := by
  rcases h.2 with ⟨rfl, h0⟩ | ⟨g, cap, cur, rfl, _, _, h1, h2, _⟩
  · omega
  · unfold maxLen at h2; omega
theorem Own.rd {α : Type} {f : α → List Value} {s : Nat} {e : TypeId} {B : Nat} {w : World} {v : Value} {l : List α} (h : Own f s e B w v l) : RdL f s w v l := by
  refine ⟨h.1, h.len, ?_⟩
  rcases h.2 with ⟨rfl, h0⟩ | ⟨g, cap, cur, rfl, _, hg, h1, h2, _⟩
  · exact .inl ⟨h0, none, 0, rfl⟩
  · refine .inr ⟨g, 0, cap, rfl, (Array.getElem?_eq_some_iff.1 hg).1, fun j u hu => ?_⟩
    have := World.ownsRow.cells h (g := g) rfl j u hu
    have e : (⟨g, 0, none⟩ : Addr).add j = ⟨g, 0 + j, none⟩ := by unfold Addr.add; split <;> simp_all
    rw [e] at this; exact this
theorem Own.base {α : Type} {f : α → List Value} {s : Nat} {e : TypeId} {B B' : Nat} {w : World} {v : Value} {l : List α} (h : Own f s e B w v l) (hb : ∀ k, v.ownBlock = some k → B' ≤ k) : Own f s e B' w v l := by
  refine ⟨h.1, ?_⟩
  rcases h.2 with h0 | ⟨g, cap, cur, rfl, _, hh⟩
  · exact .inl h0
  · exact .inr ⟨g, cap, cur, rfl, hb g rfl, hh⟩
/-- A step that writes the row of a slice of the call's own leaves what was there at the call's beginning as it was. -/
theorem grown_own {α : Type} {f : α → List Value} {s : Nat} {e : TypeId} {w w0 w' : World} {v : Value} {l : List α} {r : Option Nat} {B : Nat} (hg : w.grownBy w0 r) (h : Own f s e B w0 v l) (hB : w.heap.size ≤ B) (k : w0.grownBy w' v.ownBlock) : w.grownBy w' r := by
  cases hv : v.ownBlock with
  | none => rw [hv] at k; exact grownBy_trans hg (grownBy_some k _)
  | some g => rw [hv] at k; exact grownBy_new hg k (by have := h.lt g hv; omega)
/-- The rows of two slices of the call's own are two. -/
def Apart (v u : Value) : Prop := ∀ g, v.ownBlock = some g → u.ownBlock ≠ some g
theorem Apart.symm {v u : Value} (h : Apart v u) : Apart u v := fun g hg e => h g e hg
theorem apart_nil (u : Value) : Apart (.slice none 0 0) u := fun g hg => by simp [Value.ownBlock] at hg
def Lies (v v' : Value) (n : Nat) : Prop := v'.ownBlock = v.ownBlock ∨ ∃ g, v'.ownBlock = some g ∧ n ≤ g
theorem Apart.app {v u v' : Value} {n : Nat} (h : Apart v u) (hu : ∀ k, u.ownBlock = some k → k < n) (hl : Lies v v' n) : Apart v' u := by
  intro g hg e
  rcases hl with h1 | ⟨k, h1, h2⟩
  · exact h g (h1 ▸ hg) e
  · rw [h1] at hg; cases hg; have := hu _ e; omega

theorem off_new {v : Value} {n a b : Nat} (h : ∀ k, v.ownBlock = some k → k < n) : ∀ k, v.ownBlock = some k → Value.ownBlock (.slice (some ⟨n, 0, none⟩) a b) ≠ some k := by
  intro k hk e
  have h1 := h k hk
  have h2 : n = k := by simpa [Value.ownBlock] using e
  omega
theorem Lies.ge {v v' : Value} {n m : Nat} (h : Lies v v' n) (hv : ∀ k, v.ownBlock = some k → m ≤ k) (hm : m ≤ n) : ∀ k, v'.ownBlock = some k → m ≤ k := by
  intro k hk
  rcases h with h | ⟨g, h1, h2⟩
  · exact hv k (h ▸ hk)
  · rw [h1] at hk; cases hk; omega
theorem ge_new (n a b : Nat) : ∀ k, Value.ownBlock (.slice (some ⟨n, 0, none⟩) a b) = some k → n ≤ k := by
  intro k hk
  have : n = k := by simpa [Value.ownBlock] using hk
  omega
theorem apart_ge {v u : Value} {m : Nat} (h : ∀ k, v.ownBlock = some k → m ≤ k) (h' : ∀ k, u.ownBlock = some k → k < m) : Apart v u := fun g hg e => by
  have h1 := h g hg
  have h2 := h' g e
  omega

/-- What is known of a slice type and its element type. -/
structure Elt (st e : TypeId) (z : Value) (size bytes : Nat) : Prop where
  ht : Try.prog.underlying st = some (.slice e)
  info : (Try.prog.info? e).map (fun i => (i.zero, i.size, i.bytes)) = some (some z, size, bytes)
  cells : z.cells.size = size
  pos : 0 < size

theorem run_app_nil {w : World} {st e ty : TypeId} {z : Value} {size bytes : Nat} (E : Elt st e z size bytes) {base : Nat} {v : Value} {n : Nat} {xs : List Value} (hown : w.ownsRow base e size v n xs) (c : Nat) :
    (Builtin.append_ #[st, st] ty #[v, .slice none 0 c]).run Try.prog w = .ok v w := by
  obtain ⟨i, hi, _⟩ := info_parts E.info
  rcases hown.2 with ⟨rfl, rfl⟩ | ⟨g, cap, cur, rfl, _, _, hnc, _⟩
  · simp [Builtin.append_, run_underlying E.ht, sizeOf, typeInfo, hi, Builtin.lenOf, Builtin.firstCells]
  · simp [Builtin.append_, run_underlying E.ht, sizeOf, typeInfo, hi, Builtin.lenOf, Builtin.firstCells, hnc, storeCells]

/-- append of whatever is read. -/
theorem run_app {w : World} {st e ty : TypeId} {z : Value} {size bytes : Nat} (E : Elt st e z size bytes) {base : Nat} {v : Value} {n : Nat} {xs : List Value} (hown : w.ownsRow base e size v n xs)
    {A : Option Addr} {m c : Nat} {news : List Value} (hr : Rd w size (.slice A m c) m news) (h1 : ∀ u ∈ news, u.oneCell' = true) (h63 : n + m ≤ maxLen) (hb : (n + m) * bytes ≤ 140737488355328) (hbase : base ≤ w.heap.size) :
    ∃ v' w', (Builtin.append_ #[st, st] ty #[v, .slice A m c]).run Try.prog w = .ok v' w' ∧ w'.ownsRow base e size v' (n + m) (xs ++ news) ∧ w.grownBy w' v.ownBlock ∧ Lies v v' w.heap.size := by
  obtain ⟨i, hi, hz0, hz1, hz2⟩ := info_parts E.info
  have key : ∀ ad : Addr, (∀ j u, news[j]? = some u → w.cell? (ad.add j) = some u) → ∃ v' w', (Builtin.append_ #[st, st] ty #[v, .slice (some ad) m c]).run Try.prog w = .ok v' w' ∧ w'.ownsRow base e size v' (n + m) (xs ++ news) ∧ w.grownBy w' v.ownBlock ∧ Lies v v' w.heap.size := by
    intro ad hc
    obtain ⟨v', w', hrun, h2, h3, _, h5⟩ := run_append_own_at (P := Try.prog) w base st ty e i z size bytes E.ht hi hz0 hz1 hz2 E.cells E.pos v n xs hown ad m c news hr.1 hc h1 h63 hb hbase
    exact ⟨v', w', hrun, h2, h3, h5.imp id fun h => ⟨_, h, Nat.le_refl _⟩⟩
  rcases hr.2.2 with ⟨rfl, a, cap, hv⟩ | ⟨g, off, cap, hv, _, hc⟩
  · have hn : news = [] := List.eq_nil_of_length_eq_zero (by simpa using hr.1)
    subst hn
    cases A with
    | none => exact ⟨v, w, run_app_nil E hown c, by simpa using hown, World.grownBy.refl w _, .inl rfl⟩
    | some ad => exact key ad (by simp)
  · cases hv
    refine key _ fun j u hu => ?_
    have e : (⟨g, off, none⟩ : Addr).add j = ⟨g, off + j, none⟩ := by unfold Addr.add; split <;> simp_all
    rw [e]; exact hc j u hu

theorem cellsOf_append {α : Type} (f : α → List Value) (l l' : List α) : cellsOf f (l ++ l') = cellsOf f l ++ cellsOf f l' := by simp [cellsOf]
/-- The cells of an element are single cells. -/
def OneF {α : Type} (f : α → List Value) : Prop := ∀ x, ∀ u ∈ f x, u.oneCell' = true
theorem OneF.cells {α : Type} {f : α → List Value} (h : OneF f) (l : List α) : ∀ u ∈ cellsOf f l, u.oneCell' = true := by
  intro u hu
  obtain ⟨x, _, hx⟩ := List.mem_flatMap.1 hu
  exact h x u hx

section
variable {α : Type} {f : α → List Value} {st e : TypeId} {z : Value} {size bytes : Nat} {w : World} {B : Nat} {v : Value} {l l2 : List α} {A : Option Addr} {m c : Nat}
variable {o : Oper} {a : Act} {ops : Array Oper} {rest : List Oper} {Q : Exit → Act → World → Prop}

theorem wp_app (E : Elt st e z size bytes) (h1 : OneF f) (hown : Own f size e B w v l) (hr : RdL f size w (.slice A m c) l2) (hm : m = l2.length) (hb : (l.length + l2.length) * bytes ≤ 140737488355328) (h63 : l.length + l2.length ≤ 9223372036854775807) (hbase : B ≤ w.heap.size)
    (s x : Operand) (ho : o.op = .call { callee := .builtin .append, args := #[s, x], argTypes := #[st, st] }) (hs : a.eval s = v) (hx : a.eval x = .slice A m c) {K : Act → World → Prop}
    (h : ∀ v' w', Own f size e B w' v' (l ++ l2) → w.grownBy w' v.ownBlock → Lies v v' w.heap.size → K (a.put o.dst v') w') : o.wp Try.prog a w K Q := by
  subst hm
  obtain ⟨v', w', hrun, h2, h3, h4⟩ := run_app (ty := o.type) E hown hr (h1.cells l2) (by unfold maxLen; exact h63) hb hbase
  unfold Oper.wp execOp
  simp only [ho, resolve, invoke, builtin, Sem.run_bind, Sem.run_pure, Result.andThen_ok, List.map_toArray, List.map_cons, List.map_nil, hs, hx, hrun]
  exact h v' w' (by unfold Own; rw [cellsOf_append, List.length_append]; exact h2) h3 h4

/-- append, in a region that is carried out in order. -/
theorem app (E : Elt st e z size bytes) (h1 : OneF f) (hown : Own f size e B w v l) (hr : RdL f size w (.slice A m c) l2) (hm : m = l2.length) (hb : (l.length + l2.length) * bytes ≤ 140737488355328) (h63 : l.length + l2.length ≤ 9223372036854775807) (hbase : B ≤ w.heap.size)
    (hgd : o.guard = none) (s x : Operand) (ho : o.op = .call { callee := .builtin .append, args := #[s, x], argTypes := #[st, st] }) (hs : a.eval s = v) (hx : a.eval x = .slice A m c)
    (h : ∀ v' w', Own f size e B w' v' (l ++ l2) → w.grownBy w' v.ownBlock → Lies v v' w.heap.size → wpList Try.prog ops Q rest (a.put o.dst v') w') : wpList Try.prog ops Q (o :: rest) a w :=
  wpList_plain hgd fun _ hK => wp_app E h1 hown hr hm hb h63 hbase s x ho hs hx fun v' w' h2 h3 h4 => hK _ _ (h v' w' h2 h3 h4)
/-- The same at a step of a region that draws its order. -/
theorem step_app (E : Elt st e z size bytes) (h1 : OneF f) (hown : Own f size e B w v l) (hr : RdL f size w (.slice A m c) l2) (hm : m = l2.length) (hb : (l.length + l2.length) * bytes ≤ 140737488355328) (h63 : l.length + l2.length ≤ 9223372036854775807) (hbase : B ≤ w.heap.size)
    (hgd : o.guard = none) (s x : Operand) (ho : o.op = .call { callee := .builtin .append, args := #[s, x], argTypes := #[st, st] }) (hs : a.eval s = v) (hx : a.eval x = .slice A m c) {K : Act → World → Prop} {R : Prop}
    (h : ∀ v' w', Own f size e B w' v' (l ++ l2) → w.grownBy w' v.ownBlock → Lies v v' w.heap.size → K (a.put o.dst v') w') : if Region.wanted o (yielded ops a.tmps) = true then Oper.wp Try.prog o a w K Q else R := by
  have hw : Region.wanted o (yielded ops a.tmps) = true := by simp [Region.wanted, hgd]
  rw [if_pos hw]
  exact wp_app E h1 hown hr hm hb h63 hbase s x ho hs hx h

/-- One element that lies in a block of its own is read as a list. -/
theorem rd_one' (hf : ∀ x, (f x).length = size) (w0 : World) (y : α) (cs : Array Value) (te : TypeId) (hcs : cs.toList = f y) : RdL f size (w0.alloc (.cells cs te)) (.slice (some ⟨w0.heap.size, 0, none⟩) 1 1) [y] := by
  refine ⟨by simp [cellsOf, hf], by simp, .inr ⟨w0.heap.size, 0, 1, rfl, by simp, fun j u hu => ?_⟩⟩
  simp only [cellsOf, List.flatMap_cons, List.flatMap_nil, List.append_nil, ← hcs] at hu
  have := heap_alloc_new w0 (.cells cs te)
  simp only [World.cell?, this, Nat.zero_add]
  simpa using hu
/-- append of one element, which lies in a block of its own. -/
theorem app_one (E : Elt st e z size bytes) (h1 : OneF f) (hf : ∀ x, (f x).length = size) (hown : Own f size e B w v l) (y : α) (hb : (l.length + 1) * bytes ≤ 140737488355328) (h63 : l.length + 1 ≤ 9223372036854775807) (hbase : B ≤ w.heap.size) {te : TypeId} {cs : Array Value} (hcs : cs.toList = f y)
    (hgd : o.guard = none) (s x : Operand) (ho : o.op = .call { callee := .builtin .append, args := #[s, x], argTypes := #[st, st] }) (hs : a.eval s = v) (hx : a.eval x = .slice (some ⟨w.heap.size, 0, none⟩) 1 1)
    (h : ∀ v' w', Own f size e B w' v' (l ++ [y]) → w.grownBy w' v.ownBlock → Lies v v' w.heap.size → wpList Try.prog ops Q rest (a.put o.dst v') w') : wpList Try.prog ops Q (o :: rest) a (w.alloc (.cells cs te)) :=
  app (l2 := [y]) E h1 (hown.same (World.grownBy_alloc w _ _)) (rd_one' hf w y cs te hcs) rfl (by simpa using hb) (by simpa using h63) (by simp; omega) hgd s x ho hs hx
    fun v' w' h2 h3 h4 => h v' w' h2 (grownBy_trans (World.grownBy_alloc w _ _) h3) (h4.imp id fun ⟨g, e1, e2⟩ => ⟨g, e1, by simp at e2; omega⟩)
theorem step_app_one (E : Elt st e z size bytes) (h1 : OneF f) (hf : ∀ x, (f x).length = size) (hown : Own f size e B w v l) (y : α) (hb : (l.length + 1) * bytes ≤ 140737488355328) (h63 : l.length + 1 ≤ 9223372036854775807) (hbase : B ≤ w.heap.size) {te : TypeId} {cs : Array Value} (hcs : cs.toList = f y)
    (hgd : o.guard = none) (s x : Operand) (ho : o.op = .call { callee := .builtin .append, args := #[s, x], argTypes := #[st, st] }) (hs : a.eval s = v) (hx : a.eval x = .slice (some ⟨w.heap.size, 0, none⟩) 1 1) {K : Act → World → Prop} {R : Prop}
    (h : ∀ v' w', Own f size e B w' v' (l ++ [y]) → w.grownBy w' v.ownBlock → Lies v v' w.heap.size → K (a.put o.dst v') w') : if Region.wanted o (yielded ops a.tmps) = true then Oper.wp Try.prog o a (w.alloc (.cells cs te)) K Q else R :=
  step_app (l2 := [y]) E h1 (hown.same (World.grownBy_alloc w _ _)) (rd_one' hf w y cs te hcs) rfl (by simpa using hb) (by simpa using h63) (by simp; omega) hgd s x ho hs hx
    fun v' w' h2 h3 h4 => h v' w' h2 (grownBy_trans (World.grownBy_alloc w _ _) h3) (h4.imp id fun ⟨g, e1, e2⟩ => ⟨g, e1, by simp at e2; omega⟩)
end

/-- The first elements. -/
theorem RdL.take {α : Type} {f : α → List Value} {s : Nat} {w : World} {A : Option Addr} {n cap : Nat} {l : List α} (hf : ∀ x, (f x).length = s) (h : RdL f s w (.slice A n cap) l) {k : Nat} (hk : k ≤ l.length) (c : Nat) : RdL f s w (.slice A k c) (l.take k) := by
  have hl : (l.take k).length = k := by simp; omega
  refine ⟨length_cellsOf f s hf _, by have := h.2.1; omega, ?_⟩
  rcases h.2.2 with ⟨h0, _⟩ | ⟨g, off, cap', hv, hg, hc⟩
  · obtain rfl : k = 0 := by omega
    exact .inl ⟨by omega, A, c, rfl⟩
  · cases hv
    refine .inr ⟨g, off, c, by rw [hl], hg, fun j u hu => hc j u ?_⟩
    have e : cellsOf f l = cellsOf f (l.take k) ++ cellsOf f (l.drop k) := by rw [← cellsOf_append, List.take_append_drop]
    rw [e, List.getElem?_append_left (List.getElem?_eq_some_iff.1 hu).1]; exact hu
/-- The elements from one on. -/
theorem RdL.drop {α : Type} {f : α → List Value} {s : Nat} {w : World} {A : Option Addr} {n cap : Nat} {l : List α} (hf : ∀ x, (f x).length = s) (h : RdL f s w (.slice A n cap) l) {k : Nat} (hk : k ≤ l.length) (hcap : l.length ≤ cap) (c : Nat) :
    RdL f s w (.slice (if cap = k then A else A.map (·.add (k * s))) (l.length - k) c) (l.drop k) := by
  have hl : (l.drop k).length = l.length - k := by simp
  refine ⟨length_cellsOf f s hf _, by have := h.2.1; omega, ?_⟩
  rcases Nat.eq_zero_or_pos (l.length - k) with h0 | h0
  · exact .inl ⟨by omega, _, c, by rw [h0]⟩
  · rcases h.2.2 with ⟨h1, _⟩ | ⟨g, off, cap', hv, hg, hc⟩
    · omega
    · cases hv
      rw [if_neg (by omega)]
      refine .inr ⟨g, off + k * s, c, ?_, hg, fun j u hu => ?_⟩
      · rw [hl]; simp only [Option.map_some]
        unfold Addr.add; split <;> simp_all
      · have e : cellsOf f l = cellsOf f (l.take k) ++ cellsOf f (l.drop k) := by rw [← cellsOf_append, List.take_append_drop]
        have e2 : (cellsOf f (l.take k)).length = k * s := by rw [length_cellsOf f s hf, List.length_take, Nat.min_eq_left hk]
        rw [Nat.add_assoc]
        refine hc _ u ?_
        rw [e, List.getElem?_append_right (by omega), e2, show k * s + j - k * s = j by omega]; exact hu
theorem RdL.dropS {α : Type} {f : α → List Value} {s : Nat} {w : World} {g off n cap : Nat} {l : List α} (hf : ∀ x, (f x).length = s) (h : RdL f s w (.slice (some ⟨g, off, none⟩) n cap) l) {k : Nat} (hk : k ≤ l.length) (hcap : l.length ≤ cap) (c : Nat) :
    RdL f s w (.slice (if cap = k then some ⟨g, off, none⟩ else some ⟨g, off + k * s, none⟩) (l.length - k) c) (l.drop k) := by
  have := h.drop hf hk hcap c
  have e : Option.map (fun a => Addr.add a (k * s)) (some (⟨g, off, none⟩ : Addr)) = some ⟨g, off + k * s, none⟩ := by
    simp only [Option.map_some]; unfold Addr.add; split <;> simp_all
  rw [e] at this; exact this
theorem RdL.drop1 {α : Type} {f : α → List Value} {w : World} {g off n cap : Nat} {l : List α} (hf : ∀ x, (f x).length = 1) (h : RdL f 1 w (.slice (some ⟨g, off, none⟩) n cap) l) {k : Nat} (hk : k ≤ l.length) (hcap : l.length ≤ cap) (c : Nat) :
    RdL f 1 w (.slice (if cap = k then some ⟨g, off, none⟩ else some ⟨g, off + k, none⟩) (l.length - k) c) (l.drop k) := by
  have := h.dropS hf hk hcap c
  rwa [Nat.mul_one] at this
theorem RdL.same {α : Type} {f : α → List Value} {s : Nat} {w w' : World} {v : Value} {l : List α} (h : RdL f s w v l) (hg : w.grownBy w' none) : RdL f s w' v l := Rd.same h hg
theorem RdL.at_ {α : Type} {f : α → List Value} {w : World} {v : Value} {l : List α} {s : Nat} (h : RdL f s w v l) (hf : ∀ x, (f x).length = s) {k : Nat} (hk : k < l.length) :
    ∃ g off cap, v = .slice (some ⟨g, off, none⟩) l.length cap ∧ g < w.heap.size ∧ ∀ j u, (f l[k])[j]? = some u → w.cell? ⟨g, off + k * s + j, none⟩ = some u := by
  obtain ⟨g, off, cap, hv, hg, hc⟩ := h.cell hf (by omega)
  exact ⟨g, off, cap, hv, hg, fun j u hu => hc k l[k] (List.getElem?_eq_getElem hk) j u hu⟩
theorem RdL.one {α : Type} {f : α → List Value} {u : α → Value} (hu : ∀ x, f x = [u x]) {w : World} {v : Value} {l : List α} (h : RdL f 1 w v l) {k : Nat} (hk : k < l.length) :
    ∃ g off cap, v = .slice (some ⟨g, off, none⟩) l.length cap ∧ g < w.heap.size ∧ w.cell? ⟨g, off + k, none⟩ = some (u l[k]) := by
  obtain ⟨g, off, cap, hv, hg, hc⟩ := h.at_ (fun x => by rw [hu]; rfl) hk
  refine ⟨g, off, cap, hv, hg, ?_⟩
  have := hc 0 (u l[k]) (by rw [hu]; rfl)
  simpa using this
theorem own_lit0 {α : Type} (f : α → List Value) (s : Nat) {e : TypeId} {B : Nat} {w : World} (hB : B ≤ w.heap.size) : Own f s e B (w.alloc (.cells #[] e)) (.slice (some ⟨w.heap.size, 0, none⟩) 0 0) [] :=
  ⟨by simp [cellsOf], .inr ⟨w.heap.size, 0, #[], rfl, hB, heap_alloc_new w _, Nat.le_refl _, Nat.zero_le _, by simp, by simp [cellsOf]⟩⟩
theorem Own.cap {α : Type} {f : α → List Value} {s : Nat} {e : TypeId} {B : Nat} {w : World} {a : Option Addr} {n c : Nat} {l : List α} (h : Own f s e B w (.slice a n c) l) : l.length ≤ c := by
  rcases h.2 with ⟨hv, h0⟩ | ⟨g, cap, cur, hv, _, _, h1, _⟩
  · omega
  · cases hv; exact h1
theorem word_one (x : Int) : wordF x = [Value.int .u64 x] := rfl
theorem int_one (x : Int) : intF x = [Value.int .i64 x] := rfl
end Go.Proofs.Ytniokdflljchgaa
