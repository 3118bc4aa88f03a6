/- append that keeps what lies there: a class of worlds for regions that make a slice anew by several appends. -/
import Derived.Test.YtniokdflljchgaaGrow
import Derived.Test.YtniokdflljchgaaIns
namespace Go.Proofs.Ytniokdflljchgaa
open Go.RowKit

/-- In place, or in a new block. -/
theorem run_app2 {w : World} {st e ty : TypeId} {z : Value} {size bytes : Nat} (E : Elt st e z size bytes) {base : Nat} {v : Value} {n : Nat} {xs : List Value} (hown : w.ownsRow base e size v n xs)
    {A : Option Addr} {m c : Nat} {news : List Value} (hr : Rd w size (.slice A m c) m news) (h1 : ∀ u ∈ news, u.oneCell' = true) (h63 : n + m ≤ maxLen) (hb : (n + m) * bytes ≤ 140737488355328) (hbase : base ≤ w.heap.size) :
    ∃ v' w', (Builtin.append_ #[st, st] ty #[v, .slice A m c]).run Try.prog w = .ok v' w' ∧ w'.ownsRow base e size v' (n + m) (xs ++ news) ∧ w.grownBy w' v.ownBlock ∧
      ((∃ g cap cur, v = .slice (some ⟨g, 0, none⟩) n cap ∧ v' = .slice (some ⟨g, 0, none⟩) (n + m) cap ∧ w.heap[g]? = some (.cells cur e (0, 0)) ∧ w'.heap[g]? = some (.cells (cur.toList.take (n * size) ++ news ++ cur.toList.drop (n * size + news.length)).toArray e (0, 0))) ∨ w.grownBy w' none) := by
  obtain ⟨i, hi, hz0, hz1, hz2⟩ := info_parts E.info
  obtain ⟨v', w', hrun, h2, h3, h4⟩ := run_app (ty := ty) E hown hr h1 h63 hb hbase
  refine ⟨v', w', hrun, h2, h3, ?_⟩
  have key : ∀ ad : Addr, (∀ j u, news[j]? = some u → w.cell? (ad.add j) = some u) → A = some ad → (∃ g cap cur, v = .slice (some ⟨g, 0, none⟩) n cap ∧ v' = .slice (some ⟨g, 0, none⟩) (n + m) cap ∧ w.heap[g]? = some (.cells cur e (0, 0)) ∧ w'.heap[g]? = some (.cells (cur.toList.take (n * size) ++ news ++ cur.toList.drop (n * size + news.length)).toArray e (0, 0))) ∨ w.grownBy w' none := by
    intro ad hc e
    subst e
    have hl := hr.1
    rcases hown.2 with ⟨rfl, rfl⟩ | ⟨g, cap, cur, rfl, hbg, hg, hnc, hcm, hcs, htake⟩
    · exact .inr h3
    · by_cases hroom : n + m ≤ cap
      · have hfit : n * i.size + news.length ≤ cur.size := by rw [hz1, hl, hcs, ← Nat.add_mul]; exact Nat.mul_le_mul_right _ hroom
        have hr2 := run_append_room (P := Try.prog) w st ty e i E.ht hi g n cap cur hg ad m c news (by rw [hz1]; exact hl) hc h1 hroom hfit
        rw [hr2] at hrun
        cases hrun
        rw [hz1]
        exact .inl ⟨g, cap, cur, rfl, rfl, hg, setRow_heap w g cur _ e _ hg⟩
      · have holds : ∀ j u, xs[j]? = some u → w.cell? ((⟨g, 0, none⟩ : Addr).add j) = some u := hown.cells (g := g) rfl
        have hr2 := run_append_grow (P := Try.prog) w st ty e i z E.ht hi hz0 ⟨g, 0, none⟩ n cap xs (by rw [hz1]; exact hown.1) holds ad m c news (by rw [hz1]; exact hl) hc (by omega) (by unfold maxLen at h63; omega) (growslice_fits (by omega) (by rw [hz2]; exact hb))
        rw [hr2] at hrun
        cases hrun
        exact .inr (grownBy_new_block (grownBy_drew (grownBy_refl _ _)) _)
  rcases hr.2.2 with ⟨rfl, a, cap, hv⟩ | ⟨g, off, cap, hv, _, hc⟩
  · have hn : news = [] := List.eq_nil_of_length_eq_zero (by simpa using hr.1)
    subst hn
    cases A with
    | none =>
      have hr2 := run_app_nil (ty := ty) E hown c
      rw [hr2] at hrun
      cases hrun
      exact .inr (grownBy_refl _ _)
    | some ad => exact key ad (by simp) rfl
  · cases hv
    refine key _ (fun j u hu => ?_) rfl
    have e : (⟨g, off, none⟩ : Addr).add j = ⟨g, off + j, none⟩ := by unfold Addr.add; split <;> simp_all
    rw [e]; exact hc j u hu

section
variable {α : Type} {f : α → List Value} {st e : TypeId} {z : Value} {size bytes : Nat}
/-- Blocks below N stand; so do the rows from N on that hold what P allows. -/
structure Keep (f : α → List Value) (size : Nat) (e : TypeId) (N : Nat) (P : List α → Prop) (w w' : World) : Prop where
  grown : GrownS (fun i => N ≤ i) w w'
  own : ∀ T v, P T → Own f size e N w v T → Own f size e N w' v T
variable {N : Nat} {P : List α → Prop} {w w' w'' : World}
theorem Keep.refl (f : α → List Value) (size : Nat) (e : TypeId) (N : Nat) (P : List α → Prop) (w : World) : Keep f size e N P w w := ⟨GrownS.refl _ _, fun _ _ _ h => h⟩
theorem Keep.trans (h : Keep f size e N P w w') (k : Keep f size e N P w' w'') : Keep f size e N P w w'' := ⟨h.grown.trans k.grown (fun _ hi _ => hi), fun T v hp ho => k.own T v hp (h.own T v hp ho)⟩
theorem Keep.of (h : w.grownBy w' none) : Keep f size e N P w w' := ⟨GrownS.none_ h, fun _ _ _ ho => ho.same h⟩
theorem Keep.rd {β : Type} {g : β → List Value} {s : Nat} {v : Value} {l : List β} (h : Keep f size e N P w w') (hr : RdL g s w v l) (hv : 0 < l.length → ∀ a n c, v = .slice (some a) n c → a.block < N) : RdL g s w' v l :=
  hr.keptS h.grown fun h0 a n c e h1 => by have := hv h0 a n c e; omega
theorem Keep.blk {g : Nat} {cs : Array Value} (h : Keep f size e N P w w') (hb : Blk w g cs) (hg : g < N) : Blk w' g cs := hb.keptS h.grown (by omega)
/-- What append keeps. -/
theorem own_keeps {v v' : Value} {l l2 T : List α} (hf : ∀ x, (f x).length = size) (hpos : 0 < size) (ho : Own f size e N w v l) (ho' : Own f size e N w' v' (l ++ l2)) (hg : w.grownBy w' v.ownBlock)
    (hc : (∃ g cap cur, v = .slice (some ⟨g, 0, none⟩) l.length cap ∧ v' = .slice (some ⟨g, 0, none⟩) (l.length + l2.length) cap ∧ w.heap[g]? = some (.cells cur e (0, 0)) ∧ w'.heap[g]? = some (.cells (cur.toList.take (l.length * size) ++ cellsOf f l2 ++ cur.toList.drop (l.length * size + (cellsOf f l2).length)).toArray e (0, 0))) ∨ w.grownBy w' none)
    (hT : T.length ≤ l.length ∨ T <+: l ++ l2 ∨ l ++ l2 <+: T)
    {u : Value} (hu : Own f size e N w u T) : Own f size e N w' u T := by
  rcases hc with ⟨g, cap, cur, rfl, rfl, hc1, hc2⟩ | hc
  · by_cases hub : u.ownBlock = some g
    · rcases hu.2 with ⟨rfl, h0⟩ | ⟨g', cap', cur', rfl, hb', hg', hn', hm', hs', ht'⟩
      · simp [Value.ownBlock] at hub
      · have e1 : g' = g := by simpa [Value.ownBlock] using hub
        subst e1
        rw [hc1] at hg'
        cases hg'
        rcases ho.2 with ⟨h0, _⟩ | ⟨g1, cap1, cur1, e1, _, hg1, hn1, _, hs1, ht1⟩
        · cases h0
        · cases e1
          rw [hc1] at hg1
          cases hg1
          rcases ho'.2 with ⟨h0, _⟩ | ⟨g2, cap2, cur2, e2, _, hg2, hn2, hm2, hs2, ht2⟩
          · cases h0
          · obtain ⟨e3, _, e4⟩ := Value.slice.inj e2
            cases e3
            subst e4
            rw [hc2] at hg2
            cases hg2
            have hl2 : (cellsOf f l2).length = l2.length * size := length_cellsOf f size hf l2
            have hroom : l.length * size + l2.length * size ≤ cap * size := by
              rw [← Nat.add_mul, ← List.length_append]; exact Nat.mul_le_mul_right _ hn2
            have hcc : cap' = cap := Nat.eq_of_mul_eq_mul_right hpos (by rw [← hs', hs1])
            subst hcc
            refine ⟨hu.1, .inr ⟨g', cap', _, rfl, hb', hc2, hn', hm', hs2, ?_⟩⟩
            rcases hT with h | ⟨r, hr⟩ | ⟨r, hr⟩
            · have hle : T.length * size ≤ l.length * size := Nat.mul_le_mul_right _ h
              have e9 : cur.toList.length = cur.size := Array.length_toList (xs := cur)
              have hA : l.length * size ≤ cur.toList.length := by omega
              show List.take _ (cur.toList.take _ ++ _ ++ _) = _
              rw [List.append_assoc, List.take_append_of_le_length (by rw [List.length_take]; omega), List.take_take, Nat.min_eq_left hle]
              exact ht'
            · have hlen : (cellsOf f T).length = T.length * size := length_cellsOf f size hf T
              have hle : T.length * size ≤ (cellsOf f l ++ cellsOf f l2).length := by
                rw [← cellsOf_append, ← hr, cellsOf_append, List.length_append, hlen]; omega
              show List.take _ (cur.toList.take _ ++ _ ++ _) = _
              rw [ht1, List.take_append_of_le_length hle, ← cellsOf_append, ← hr, cellsOf_append, ← hlen, List.take_left]
            · have h1 : cur.toList.take (l.length * size + (cellsOf f l2).length) = cellsOf f l ++ cellsOf f l2 := by
                have hle : l.length * size + (cellsOf f l2).length ≤ T.length * size := by
                  rw [hl2, ← Nat.add_mul, ← hr, List.length_append, List.length_append]; exact Nat.mul_le_mul_right _ (by omega)
                have : (cur.toList.take (T.length * size)).take (l.length * size + (cellsOf f l2).length) = cellsOf f l ++ cellsOf f l2 := by
                  rw [ht', ← hr, cellsOf_append, cellsOf_append]
                  have e5 : l.length * size + (cellsOf f l2).length = (cellsOf f l ++ cellsOf f l2).length := by rw [List.length_append, length_cellsOf f size hf l]
                  rw [e5, List.take_left]
                rwa [List.take_take, Nat.min_eq_left hle] at this
              show List.take _ (cur.toList.take _ ++ _ ++ _) = _
              rw [ht1, ← h1, List.take_append_drop]
              exact ht'
    · exact hu.kept hg (fun k hk e => hub (by rw [hk]; simpa [Value.ownBlock] using e.symm))
  · exact hu.same hc
section
variable {v : Value} {l l2 : List α} {A : Option Addr} {m c : Nat}
variable {o : Oper} {a : Act} {ops : Array Oper} {rest : List Oper} {Q : Exit → Act → World → Prop}
theorem app_keep (E : Elt st e z size bytes) (h1 : OneF f) (hf : ∀ x, (f x).length = size) (hown : Own f size e N w v l) (hr : RdL f size w (.slice A m c) l2) (hm : m = l2.length) (hb : (l.length + l2.length) * bytes ≤ 140737488355328) (h63 : l.length + l2.length ≤ 9223372036854775807) (hbase : N ≤ w.heap.size)
    (hP : ∀ T, P T → T.length ≤ l.length ∨ T <+: l ++ l2 ∨ l ++ l2 <+: T)
    (hgd : o.guard = none) (s x : Operand) (ho : o.op = .call { callee := .builtin .append, args := #[s, x], argTypes := #[st, st] }) (hs : a.eval s = v) (hx : a.eval x = .slice A m c)
    (h : ∀ v' w', Own f size e N w' v' (l ++ l2) → Keep f size e N P w w' → wpList Try.prog ops Q rest (a.put o.dst v') w') : wpList Try.prog ops Q (o :: rest) a w := by
  refine wpList_plain hgd fun _ hK => ?_
  subst hm
  obtain ⟨v', w', hrun, h2, h3, h4⟩ := run_app2 (ty := o.type) E hown hr (h1.cells l2) (by unfold maxLen; exact h63) hb hbase
  have h2' : Own f size e N w' v' (l ++ l2) := by unfold Own; rw [cellsOf_append, List.length_append]; exact h2
  unfold Oper.wp execOp
  simp only [ho, resolve, invoke, builtin, Sem.run_bind, Sem.run_pure, Result.andThen_ok, List.map_toArray, List.map_cons, List.map_nil, hs, hx, hrun]
  exact hK _ _ (h v' w' h2' ⟨GrownS.of h3 (fun k hk => (hown.lt k hk).1), fun T u hp hu => own_keeps hf E.pos hown h2' h3 h4 (hP T hp) hu⟩)
end
/-- One element in a new block. -/
theorem own_one' (hf : ∀ x, (f x).length = size) (w0 : World) (hN : N ≤ w0.heap.size) (y : α) (cs : Array Value) (hcs : cs.toList = f y) : Own f size e N (w0.alloc (.cells cs e)) (.slice (some ⟨w0.heap.size, 0, none⟩) 1 1) [y] := by
  have hl : cs.size = size := by rw [← Array.length_toList, hcs, hf]
  refine ⟨by simp [cellsOf, hf], .inr ⟨w0.heap.size, 1, cs, rfl, hN, heap_alloc_new w0 _, Nat.le_refl _, by unfold maxLen; omega, by omega, ?_⟩⟩
  rw [hcs]
  simp only [cellsOf, List.flatMap_cons, List.flatMap_nil, List.append_nil, List.length_cons, List.length_nil, Nat.zero_add, Nat.one_mul]
  rw [← hf y, List.take_length]
end
theorem Blk.manyK {α : Type} {f : α → List Value} {size : Nat} {w : World} {g : Nat} {cs : Array Value} (h : Blk w g cs) (hf : ∀ x, (f x).length = size) (l : List α) (hcs : cs.toList = cellsOf f l) (hl : l.length ≤ 9223372036854775807) : RdL f size w (.slice (some ⟨g, 0, none⟩) l.length l.length) l := by
  refine ⟨length_cellsOf f size hf l, hl, .inr ⟨g, 0, l.length, rfl, h.lt, fun j u hu => ?_⟩⟩
  rw [Nat.zero_add, h.cell j]
  rw [← hcs] at hu
  simpa using hu
end Go.Proofs.Ytniokdflljchgaa
