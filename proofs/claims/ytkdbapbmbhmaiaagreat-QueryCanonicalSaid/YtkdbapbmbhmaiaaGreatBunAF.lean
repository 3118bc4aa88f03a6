/- Several texts in one file; each begins with a comment that says what is proved in it. -/
import Derived.Test.YtkdbapbmbhmaiaaGreatBunAE
import Derived.Test.YtkdbapbmbhmaiaaGreatBunAD
import Derived.OwnWalk
import Derived.Maps.OwnSet
import Derived.Maps.Own
import Derived.Test.YtkdbapbmbhmaiaaGreatBunAB
import Derived.RangeFuncNested
import Derived.RangeFuncBound
import Derived.RangeFuncCalls
import Derived.RangeFuncLeaves
import Derived.RangeFuncWrites
import Derived.OwnWalkIn
import Derived.TacticsInMore
import Derived.LoopNIn
import Derived.LoopIn
import Derived.Shelf.AbstractIn
import Derived.RangeFuncBox
import Derived.Deep.RegionHeld3
import Derived.Test.YtkdbapbmbhmaiaaGreatBunAC

/- append that keeps what lies there: a class of worlds for regions that make a slice anew by several appends. -/
namespace Go.Proofs.YtkdbapbmbhmaiaaGreat
open Go.RowKit

/-- In place, or in a new block. -/
theorem run_app2 {w : World} {st e ty : TypeId} {z : Value} {size bytes : Nat} (E : Elt st e z size bytes) {base : Nat} {v : Value} {n : Nat} {xs : List Value} (hown : w.ownsRow base e size v n xs)
    {A : Option Addr} {m c : Nat} {news : List Value} (hr : Rd w size (.slice A m c) m news) (h1 : ∀ u ∈ news, u.oneCell' = true) (h63 : n + m ≤ maxLen) (hb : (n + m) * bytes ≤ 140737488355328) (hbase : base ≤ w.heap.size) :
    ∃ v' w', (Builtin.append_ #[st, st] ty #[v, .slice A m c]).run Tryz.prog w = .ok v' w' ∧ w'.ownsRow base e size v' (n + m) (xs ++ news) ∧ w.grownBy w' v.ownBlock ∧
      ((∃ g cap cur, v = .slice (some ⟨g, 0, none⟩) n cap ∧ v' = .slice (some ⟨g, 0, none⟩) (n + m) cap ∧ w.heap[g]? = some (.cells cur e (0, 0)) ∧ w'.heap[g]? = some (.cells (cur.toList.take (n * size) ++ news ++ cur.toList.drop (n * size + news.length)).toArray e (0, 0))) ∨ w.grownBy w' none) := by
  obtain ⟨i, hi, hz0, hz1, hz2⟩ := info_parts E.info
  obtain ⟨v', w', hrun, h2, h3, h4⟩ := run_app (ty := ty) E hown hr h1 h63 hb hbase
  refine ⟨v', w', hrun, h2, h3, ?_⟩
  have key : ∀ ad : Addr, (∀ j u, news[j]? = some u → w.cell? (ad.add j) = some u) → A = some ad → (∃ g cap cur, v = .slice (some ⟨g, 0, none⟩) n cap ∧ v' = .slice (some ⟨g, 0, none⟩) (n + m) cap ∧ w.heap[g]? = some (.cells cur e (0, 0)) ∧ w'.heap[g]? = some (.cells (cur.toList.take (n * size) ++ news ++ cur.toList.drop (n * size + news.length)).toArray e (0, 0))) ∨ w.grownBy w' none := by
    intro ad hc e
    subst e
    have hl := hr.1
    rcases hown.2 with ⟨rfl, rfl⟩ | ⟨g, cap, cur, rfl, hbg, hg, hnc, hcm, hcs, htake⟩
    · exact .inr h3
    · by_cases hroom : n + m ≤ cap
      · have hfit : n * i.size + news.length ≤ cur.size := by rw [hz1, hl, hcs, ← Nat.add_mul]; exact Nat.mul_le_mul_right _ hroom
        have hr2 := run_append_room (P := Tryz.prog) w st ty e i E.ht hi g n cap cur hg ad m c news (by rw [hz1]; exact hl) hc h1 hroom hfit
        rw [hr2] at hrun
        cases hrun
        rw [hz1]
        exact .inl ⟨g, cap, cur, rfl, rfl, hg, setRow_heap w g cur _ e _ hg⟩
      · have holds : ∀ j u, xs[j]? = some u → w.cell? ((⟨g, 0, none⟩ : Addr).add j) = some u := hown.cells (g := g) rfl
        have hr2 := run_append_grow (P := Tryz.prog) w st ty e i z E.ht hi hz0 ⟨g, 0, none⟩ n cap xs (by rw [hz1]; exact hown.1) holds ad m c news (by rw [hz1]; exact hl) hc (by omega) (by unfold maxLen at h63; omega) (growslice_fits (by omega) (by rw [hz2]; exact hb))
        rw [hr2] at hrun
        cases hrun
        exact .inr (grownBy_new_block (grownBy_drew (grownBy_refl _ _)) _)
  rcases hr.2.2 with ⟨rfl, a, cap, hv⟩ | ⟨g, off, cap, hv, _, hc⟩
  · have hn : news = [] := List.eq_nil_of_length_eq_zero (by simpa using hr.1)
    subst hn
    cases A with
    | none =>
      have hr2 := run_app_nil (ty := ty) E hown c
      rw [hr2] at hrun
      cases hrun
      exact .inr (grownBy_refl _ _)
    | some ad => exact key ad (by simp) rfl
  · cases hv
    refine key _ (fun j u hu => ?_) rfl
    have e : (⟨g, off, none⟩ : Addr).add j = ⟨g, off + j, none⟩ := by unfold Addr.add; split <;> simp_all
    rw [e]; exact hc j u hu

section
variable {α : Type} {f : α → List Value} {st e : TypeId} {z : Value} {size bytes : Nat}
/-- Blocks below N stand; so do the rows from N on that hold what P allows. -/
structure Keep (f : α → List Value) (size : Nat) (e : TypeId) (N : Nat) (P : List α → Prop) (w w' : World) : Prop where
  grown : GrownS (fun i => N ≤ i) w w'
  own : ∀ T v, P T → Own f size e N w v T → Own f size e N w' v T
variable {N : Nat} {P : List α → Prop} {w w' w'' : World}
theorem Keep.refl (f : α → List Value) (size : Nat) (e : TypeId) (N : Nat) (P : List α → Prop) (w : World) : Keep f size e N P w w := ⟨GrownS.refl _ _, fun _ _ _ h => h⟩
theorem Keep.trans (h : Keep f size e N P w w') (k : Keep f size e N P w' w'') : Keep f size e N P w w'' := ⟨h.grown.trans k.grown (fun _ hi _ => hi), fun T v hp ho => k.own T v hp (h.own T v hp ho)⟩
theorem Keep.of (h : w.grownBy w' none) : Keep f size e N P w w' := ⟨GrownS.none_ h, fun _ _ _ ho => ho.same h⟩
theorem Keep.rd {β : Type} {g : β → List Value} {s : Nat} {v : Value} {l : List β} (h : Keep f size e N P w w') (hr : RdL g s w v l) (hv : 0 < l.length → ∀ a n c, v = .slice (some a) n c → a.block < N) : RdL g s w' v l :=
  hr.keptS h.grown fun h0 a n c e h1 => by have := hv h0 a n c e; omega
theorem Keep.blk {g : Nat} {cs : Array Value} (h : Keep f size e N P w w') (hb : Blk w g cs) (hg : g < N) : Blk w' g cs := hb.keptS h.grown (by omega)
/-- What append keeps. -/
theorem own_keeps {v v' : Value} {l l2 T : List α} (hf : ∀ x, (f x).length = size) (hpos : 0 < size) (ho : Own f size e N w v l) (ho' : Own f size e N w' v' (l ++ l2)) (hg : w.grownBy w' v.ownBlock)
    (hc : (∃ g cap cur, v = .slice (some ⟨g, 0, none⟩) l.length cap ∧ v' = .slice (some ⟨g, 0, none⟩) (l.length + l2.length) cap ∧ w.heap[g]? = some (.cells cur e (0, 0)) ∧ w'.heap[g]? = some (.cells (cur.toList.take (l.length * size) ++ cellsOf f l2 ++ cur.toList.drop (l.length * size + (cellsOf f l2).length)).toArray e (0, 0))) ∨ w.grownBy w' none)
    (hT : T.length ≤ l.length ∨ T <+: l ++ l2 ∨ l ++ l2 <+: T)
    {u : Value} (hu : Own f size e N w u T) : Own f size e N w' u T := by
  rcases hc with ⟨g, cap, cur, rfl, rfl, hc1, hc2⟩ | hc
  · by_cases hub : u.ownBlock = some g
    · rcases hu.2 with ⟨rfl, h0⟩ | ⟨g', cap', cur', rfl, hb', hg', hn', hm', hs', ht'⟩
      · simp [Value.ownBlock] at hub
      · have e1 : g' = g := by simpa [Value.ownBlock] using hub
        subst e1
        rw [hc1] at hg'
        cases hg'
        rcases ho.2 with ⟨h0, _⟩ | ⟨g1, cap1, cur1, e1, _, hg1, hn1, _, hs1, ht1⟩
        · cases h0
        · cases e1
          rw [hc1] at hg1
          cases hg1
          rcases ho'.2 with ⟨h0, _⟩ | ⟨g2, cap2, cur2, e2, _, hg2, hn2, hm2, hs2, ht2⟩
          · cases h0
          · obtain ⟨e3, _, e4⟩ := Value.slice.inj e2
            cases e3
            subst e4
            rw [hc2] at hg2
            cases hg2
            have hl2 : (cellsOf f l2).length = l2.length * size := length_cellsOf f size hf l2
            have hroom : l.length * size + l2.length * size ≤ cap * size := by
              rw [← Nat.add_mul, ← List.length_append]; exact Nat.mul_le_mul_right _ hn2
            have hcc : cap' = cap := Nat.eq_of_mul_eq_mul_right hpos (by rw [← hs', hs1])
            subst hcc
            refine ⟨hu.1, .inr ⟨g', cap', _, rfl, hb', hc2, hn', hm', hs2, ?_⟩⟩
            rcases hT with h | ⟨r, hr⟩ | ⟨r, hr⟩
            · have hle : T.length * size ≤ l.length * size := Nat.mul_le_mul_right _ h
              have e9 : cur.toList.length = cur.size := Array.length_toList (xs := cur)
              have hA : l.length * size ≤ cur.toList.length := by omega
              show List.take _ (cur.toList.take _ ++ _ ++ _) = _
              rw [List.append_assoc, List.take_append_of_le_length (by rw [List.length_take]; omega), List.take_take, Nat.min_eq_left hle]
              exact ht'
            · have hlen : (cellsOf f T).length = T.length * size := length_cellsOf f size hf T
              have hle : T.length * size ≤ (cellsOf f l ++ cellsOf f l2).length := by
                rw [← cellsOf_append, ← hr, cellsOf_append, List.length_append, hlen]; omega
              show List.take _ (cur.toList.take _ ++ _ ++ _) = _
              rw [ht1, List.take_append_of_le_length hle, ← cellsOf_append, ← hr, cellsOf_append, ← hlen, List.take_left]
            · have h1 : cur.toList.take (l.length * size + (cellsOf f l2).length) = cellsOf f l ++ cellsOf f l2 := by
                have hle : l.length * size + (cellsOf f l2).length ≤ T.length * size := by
                  rw [hl2, ← Nat.add_mul, ← hr, List.length_append, List.length_append]; exact Nat.mul_le_mul_right _ (by omega)
                have : (cur.toList.take (T.length * size)).take (l.length * size + (cellsOf f l2).length) = cellsOf f l ++ cellsOf f l2 := by
                  rw [ht', ← hr, cellsOf_append, cellsOf_append]
                  have e5 : l.length * size + (cellsOf f l2).length = (cellsOf f l ++ cellsOf f l2).length := by rw [List.length_append, length_cellsOf f size hf l]
                  rw [e5, List.take_left]
                rwa [List.take_take, Nat.min_eq_left hle] at this
              show List.take _ (cur.toList.take _ ++ _ ++ _) = _
              rw [ht1, ← h1, List.take_append_drop]
              exact ht'
    · exact hu.kept hg (fun k hk e => hub (by rw [hk]; simpa [Value.ownBlock] using e.symm))
  · exact hu.same hc
section
variable {v : Value} {l l2 : List α} {A : Option Addr} {m c : Nat}
variable {o : Oper} {a : Act} {ops : Array Oper} {rest : List Oper} {Q : Exit → Act → World → Prop}
theorem app_keep (E : Elt st e z size bytes) (h1 : OneF f) (hf : ∀ x, (f x).length = size) (hown : Own f size e N w v l) (hr : RdL f size w (.slice A m c) l2) (hm : m = l2.length) (hb : (l.length + l2.length) * bytes ≤ 140737488355328) (h63 : l.length + l2.length ≤ 9223372036854775807) (hbase : N ≤ w.heap.size)
    (hP : ∀ T, P T → T.length ≤ l.length ∨ T <+: l ++ l2 ∨ l ++ l2 <+: T)
    (hgd : o.guard = none) (s x : Operand) (ho : o.op = .call { callee := .builtin .append, args := #[s, x], argTypes := #[st, st] }) (hs : a.eval s = v) (hx : a.eval x = .slice A m c)
    (h : ∀ v' w', Own f size e N w' v' (l ++ l2) → Keep f size e N P w w' → wpList Tryz.prog ops Q rest (a.put o.dst v') w') : wpList Tryz.prog ops Q (o :: rest) a w := by
  refine wpList_plain hgd fun _ hK => ?_
  subst hm
  obtain ⟨v', w', hrun, h2, h3, h4⟩ := run_app2 (ty := o.type) E hown hr (h1.cells l2) (by unfold maxLen; exact h63) hb hbase
  have h2' : Own f size e N w' v' (l ++ l2) := by unfold Own; rw [cellsOf_append, List.length_append]; exact h2
  unfold Oper.wp execOp
  simp only [ho, resolve, invoke, builtin, Sem.run_bind, Sem.run_pure, Result.andThen_ok, List.map_toArray, List.map_cons, List.map_nil, hs, hx, hrun]
  exact hK _ _ (h v' w' h2' ⟨GrownS.of h3 (fun k hk => (hown.lt k hk).1), fun T u hp hu => own_keeps hf E.pos hown h2' h3 h4 (hP T hp) hu⟩)
end
/-- One element in a new block. -/
theorem own_one' (hf : ∀ x, (f x).length = size) (w0 : World) (hN : N ≤ w0.heap.size) (y : α) (cs : Array Value) (hcs : cs.toList = f y) : Own f size e N (w0.alloc (.cells cs e)) (.slice (some ⟨w0.heap.size, 0, none⟩) 1 1) [y] := by
  have hl : cs.size = size := by rw [← Array.length_toList, hcs, hf]
  refine ⟨by simp [cellsOf, hf], .inr ⟨w0.heap.size, 1, cs, rfl, hN, heap_alloc_new w0 _, Nat.le_refl _, by unfold maxLen; omega, by omega, ?_⟩⟩
  rw [hcs]
  simp only [cellsOf, List.flatMap_cons, List.flatMap_nil, List.append_nil, List.length_cons, List.length_nil, Nat.zero_add, Nat.one_mul]
  rw [← hf y, List.take_length]
end
theorem Blk.manyK {α : Type} {f : α → List Value} {size : Nat} {w : World} {g : Nat} {cs : Array Value} (h : Blk w g cs) (hf : ∀ x, (f x).length = size) (l : List α) (hcs : cs.toList = cellsOf f l) (hl : l.length ≤ 9223372036854775807) : RdL f size w (.slice (some ⟨g, 0, none⟩) l.length l.length) l := by
  refine ⟨length_cellsOf f size hf l, hl, .inr ⟨g, 0, l.length, rfl, h.lt, fun j u hu => ?_⟩⟩
  rw [Nat.zero_add, h.cell j]
  rw [← hcs] at hu
  simpa using hu
end Go.Proofs.YtkdbapbmbhmaiaaGreat

/- append onto a field's own slice, in place or in a new block: all blocks but that one stand, and the rows that it holds. -/
namespace Go.Proofs.YtkdbapbmbhmaiaaGreat
open Go.RowKit

section
variable {α : Type} {f : α → List Value} {st e : TypeId} {z : Value} {size bytes : Nat}
/-- All blocks but r stand; so do the rows from N on that hold what P allows. -/
structure KeepR (f : α → List Value) (size : Nat) (e : TypeId) (N : Nat) (P : List α → Prop) (r : Option Nat) (w w' : World) : Prop where
  grown : w.grownBy w' r
  own : ∀ T v, P T → Own f size e N w v T → Own f size e N w' v T
variable {N : Nat} {P : List α → Prop} {r : Option Nat} {w w' w'' : World}
theorem KeepR.refl (f : α → List Value) (size : Nat) (e : TypeId) (N : Nat) (P : List α → Prop) (r : Option Nat) (w : World) : KeepR f size e N P r w w := ⟨grownBy_refl _ _, fun _ _ _ h => h⟩
theorem KeepR.trans (h : KeepR f size e N P r w w') (k : KeepR f size e N P r w' w'') : KeepR f size e N P r w w'' := ⟨grownBy_trans h.grown k.grown, fun T v hp ho => k.own T v hp (h.own T v hp ho)⟩
theorem KeepR.of (h : w.grownBy w' none) : KeepR f size e N P r w w' := ⟨grownBy_some h r, fun _ _ _ ho => ho.same h⟩
theorem KeepR.blk {g : Nat} {cs : Array Value} (h : KeepR f size e N P r w w') (hb : Blk w g cs) (hg : r ≠ some g) : Blk w' g cs := hb.kept h.grown hg
end
theorem grownBy_someR {a b : World} {r : Option Nat} (h : a.grownBy b none) : a.grownBy b r := by
  cases r with
  | none => exact h
  | some k => exact grownBy_some h _
section
variable {α : Type} {f : α → List Value} {st e : TypeId} {z : Value} {size bytes N : Nat} {P : List α → Prop} {w : World}
variable {v : Value} {l l2 : List α} {A : Option Addr} {m c : Nat}
variable {o : Oper} {a : Act} {ops : Array Oper} {rest : List Oper} {Q : Exit → Act → World → Prop}
theorem app_keepR (E : Elt st e z size bytes) (h1 : OneF f) (hf : ∀ x, (f x).length = size) (hown : Own f size e N w v l) (hr : RdL f size w (.slice A m c) l2) (hm : m = l2.length) (hb : (l.length + l2.length) * bytes ≤ 140737488355328) (h63 : l.length + l2.length ≤ 9223372036854775807) (hbase : N ≤ w.heap.size)
    (hP : ∀ T, P T → T.length ≤ l.length ∨ T <+: l ++ l2 ∨ l ++ l2 <+: T)
    (hgd : o.guard = none) (s x : Operand) (ho : o.op = .call { callee := .builtin .append, args := #[s, x], argTypes := #[st, st] }) (hs : a.eval s = v) (hx : a.eval x = .slice A m c)
    (h : ∀ v' w', Own f size e N w' v' (l ++ l2) → KeepR f size e N P v.ownBlock w w' → Lies v v' w.heap.size → wpList Tryz.prog ops Q rest (a.put o.dst v') w') : wpList Tryz.prog ops Q (o :: rest) a w := by
  refine wpList_plain hgd fun _ hK => ?_
  subst hm
  obtain ⟨v', w', hrun, h2, h3, h4⟩ := run_app2 (ty := o.type) E hown hr (h1.cells l2) (by unfold maxLen; exact h63) hb hbase
  have h2' : Own f size e N w' v' (l ++ l2) := by unfold Own; rw [cellsOf_append, List.length_append]; exact h2
  obtain ⟨v3, w3, hrun3, _, _, h5⟩ := run_app (ty := o.type) E hown hr (h1.cells l2) (by unfold maxLen; exact h63) hb hbase
  rw [hrun] at hrun3
  cases hrun3
  unfold Oper.wp execOp
  simp only [ho, resolve, invoke, builtin, Sem.run_bind, Sem.run_pure, Result.andThen_ok, List.map_toArray, List.map_cons, List.map_nil, hs, hx, hrun]
  exact hK _ _ (h v' w' h2' ⟨h3, fun T u hp hu => own_keeps hf E.pos hown h2' h3 h4 (hP T hp) hu⟩ h5)
end
end Go.Proofs.YtkdbapbmbhmaiaaGreat

/- An arena, a pool, a queue, a shard: as they are made. -/
namespace Go.Proofs.YtkdbapbmbhmaiaaGreat
open Go.RowKit Go.Sort Go.Maps
attribute [local go_sem ↓] exec_load_cfg
attribute [local go_sem] run_loadCfgS

theorem mk_entry (w : World) : (Instr.makeSlice 101 (.int .i64 1) (.int .i64 1)).run Tryz.prog w = .ok (.slice (some ⟨w.heap.size, 0, none⟩) 1 1) (w.alloc (.cells #[.int .i64 0, .int .i64 0, .int .i64 0, .int .i64 0] 197)) := by kernel_rfl
/-- A pool as it is made, in block g: its entries in ge, its map in gm. -/
structure PoolNew (w w' : World) (ga : Nat) (n : Int) (g ge gm : Nat) : Prop where
  blk : Blk w' g #[.pointer (some ⟨ga, 0, none⟩), .int .i64 n, .slice (some ⟨ge, 0, none⟩) 1 1, .map (some gm)]
  ent : Blk w' ge #[.int .i64 0, .int .i64 0, .int .i64 0, .int .i64 0]
  own : w'.ownsMap Tryz.prog 9 (plainElem (H := Unit) Tryz.prog 3) gm 0 (.map [])
  old : w.heap.size ≤ ge ∧ ge < gm ∧ gm < g
  G : w.grownBy w' none
set_option maxHeartbeats 400000 in
set_option maxRecDepth 100000 in
theorem poolNew_c (ga : Nat) (n : Int) (w : World) (hn : 1 ≤ n ∧ n ≤ 8192) : Calls Tryz.prog 14 #[.pointer (some ⟨ga, 0, none⟩), .int .i64 n] w fun e w' =>
    ∃ g ge gm, e = .returned (.tuple #[.pointer (some ⟨g, 0, none⟩), .int .i64 0]) ∧ PoolNew w w' ga n g ge gm := by
  obtain ⟨n1, n2⟩ := hn
  have hmm := @run_makeMap Tryz.prog
  have hmk := mk_entry
  go_enter Tryz.func14, Tryz.ntmps14
  go_wp2_with fail
  go_ret2
  have M := World.ownsMap_made (H := Unit) (w.alloc (.cells #[.int .i64 0, .int .i64 0, .int .i64 0, .int .i64 0] 197)) Tryz.prog 9 (plainElem (H := Unit) Tryz.prog 3)
  rw [World.size_alloc] at M
  exact ⟨_, w.heap.size, w.heap.size + 1, rfl, Blk.new' _ _ _ (by simp), ((Blk.new w #[.int .i64 0, .int .i64 0, .int .i64 0, .int .i64 0] 197).same (World.grownBy_alloc _ _ none)).same (World.grownBy_alloc _ _ none), M.alloc _, ⟨Nat.le_refl _, by omega, by simp⟩, grownBy_new_block (grownBy_new_block (grownBy_new_block (grownBy_refl w none) _) _) _⟩

/-- A queue as it is made, in block g: its places in gl. -/
structure QueueNew (w w' : World) (ga gp : Nat) (n : Nat) (g gl : Nat) : Prop where
  blk : Blk w' g #[.pointer (some ⟨ga, 0, none⟩), .pointer (some ⟨gp, 0, none⟩), .slice (some ⟨gl, 0, none⟩) n n, .int .i64 0]
  old : w.heap.size ≤ gl ∧ gl < g
  G : w.grownBy w' none
theorem info_wt : (Tryz.prog.info? 162).map (fun i => (i.zero, i.size, i.bytes)) = some (some (.agg #[.int .i64 0, .int .i64 0, .int .u64 0, .int .i64 0, .int .i64 0, .int .i64 0, .int .i64 0]), 7, 56) := by kernel_rfl
theorem mk_wt (n : Nat) (hn : n ≤ 1000000) (w : World) : ∃ w', (Instr.makeSlice 125 (.int .i64 n) (.int .i64 n)).run Tryz.prog w = .ok (.slice (some ⟨w.heap.size, 0, none⟩) n n) w' ∧ w.grownBy w' none ∧ w'.heap.size = w.heap.size + 1 := by
  obtain ⟨i0, hi, hz0, hz1, hz2⟩ := info_parts info_wt
  have := run_make (P := Tryz.prog) w 125 162 i0 _ Tryz.underlying125 hi hz0 .i64 .i64 n n (by omega) (by omega) (by rw [hz2]; omega) (by omega)
  refine ⟨_, this, World.grownBy_alloc _ _ _, by simp⟩
set_option maxHeartbeats 400000 in
set_option maxRecDepth 100000 in
theorem queueNew_c (ga gp : Nat) (n : Nat) (w : World) (hn : 1 ≤ n ∧ n ≤ 64) : Calls Tryz.prog 35 #[.pointer (some ⟨ga, 0, none⟩), .pointer (some ⟨gp, 0, none⟩), .int .i64 n] w fun e w' =>
    ∃ g gl, e = .returned (.tuple #[.pointer (some ⟨g, 0, none⟩), .int .i64 0]) ∧ QueueNew w w' ga gp n g gl := by
  obtain ⟨n1, n2⟩ := hn
  obtain ⟨w1, hmk, g1, z1⟩ := mk_wt n (by omega) w
  go_enter Tryz.func35, Tryz.ntmps35
  go_wp2_with fail
  go_ret2
  exact ⟨_, w.heap.size, rfl, Blk.new' _ _ _ (by omega), ⟨Nat.le_refl _, by omega⟩, grownBy_new_block g1 _⟩

/-! ### The arena -/
theorem grown_new {a b c : World} {r : Option Nat} (h : a.grownBy b none) (k : b.grownBy c r) (hr : ∀ q, r = some q → a.heap.size ≤ q) : a.grownBy c none := by
  cases r with
  | none => exact grownBy_trans h k
  | some q => exact grownBy_new h k (hr q rfl)
structure ClR where
  (size count : Int)
def clF (x : ClR) : List Value := [.int .i64 x.size, .int .i64 x.count, .slice none 0 0, .int .i64 0]
theorem clF_len (x : ClR) : (clF x).length = 4 := rfl
theorem one_cl : OneF clF := by intro x u hu; simp [clF] at hu; rcases hu with rfl | rfl | rfl | rfl <;> rfl
theorem elt_cl : Elt 94 100 (.agg #[.int .i64 0, .int .i64 0, .slice none 0 0, .int .i64 0]) 4 48 := ⟨Tryz.underlying94, by kernel_rfl, rfl, by decide⟩
/-- The arena's cells: the classes, the first free slots, the faults. -/
def arA (v : Value) (fr : List Int) : Array Value := (v :: ((fr.map (fun x => Value.int .i64 x)) ++ [Value.int .i64 0])).toArray
theorem arA_0 (v : Value) (fr : List Int) : (arA v fr)[0]? = some v := rfl
theorem arA_set0 (v v' : Value) (fr : List Int) : (arA v fr).setIfInBounds 0 v' = arA v' fr := by simp [arA]
theorem arA_k (v : Value) {fr : List Int} {k : Nat} (hk : k < fr.length) : (arA v fr)[1 + k]? = some (.int .i64 fr[k]) := by
  unfold arA
  rw [List.getElem?_toArray, Nat.add_comm, List.getElem?_cons_succ, List.getElem?_append_left (by simpa using hk)]
  simp [List.getElem?_eq_getElem hk]
theorem arA_setk (v : Value) {fr : List Int} {k : Nat} (hk : k < fr.length) (x : Int) : (arA v fr).setIfInBounds (1 + k) (.int .i64 x) = arA v (fr.set k x) := by
  unfold arA
  rw [List.setIfInBounds_toArray, Nat.add_comm, List.set_cons_succ, List.set_append_left _ _ (by simpa using hk), List.map_set]
def frK (k : Nat) : List Int := List.replicate k (-1) ++ List.replicate (8 - k) 0
theorem frK_len {k : Nat} (hk : k ≤ 8) : (frK k).length = 8 := by simp [frK]; omega
theorem frK_set {k : Nat} (hk : k < 8) : (frK k).set k (-1) = frK (k + 1) := by
  unfold frK
  rw [List.set_append_right _ _ (by simp), List.length_replicate, Nat.sub_self, show 8 - k = (8 - (k + 1)) + 1 by omega, List.replicate_succ, List.set_cons_zero, List.replicate_succ', List.append_assoc, List.singleton_append]
/-- An arena as it is made, in block g. -/
structure ArenaNew (w w' : World) (l : List (Int × Int)) (g : Nat) : Prop where
  ex : ∃ v, Blk w' g (arA v (frK l.length)) ∧ Own clF 4 100 w.heap.size w' v (l.map fun p => ⟨p.1, p.2⟩)
  old : w.heap.size ≤ g
  G : w.grownBy w' none
set_option maxHeartbeats 1000000 in
set_option maxRecDepth 100000 in
theorem arenaNew_c (v : Value) (l : List (Int × Int)) (w : World) (h : RdL clsF 2 w v l) (hok : ClsOk l) : Calls Tryz.prog 13 #[v] w fun e w' => ∃ g, e = .returned (.tuple #[.pointer (some ⟨g, 0, none⟩), .int .i64 0]) ∧ ArenaNew w w' l g := by
  obtain ⟨a, cp, rfl⟩ := h.shape
  have C := Lib.hid (acheckA_c _ l w h hok)
  have H := Lib.hid h
  have hp0 := hok.pos
  have hp8 := hok.len
  clear h hok
  go_enter Tryz.func13, Tryz.ntmps13
  go_upto_region 5 with (go_at_call 33; refine C.out.mono ?_; rintro e w1 ⟨rfl, g1⟩)
  have D1 := Blk.new w1 (arA (.slice none 0 0) (frK 0)) 97
  have G1 := grownBy_new_block g1 (.cells (arA (.slice none 0 0) (frK 0)) 97)
  have hgb : w.heap.size ≤ w1.heap.size := g1.size
  have hz1 : w1.heap.size + 1 ≤ (w1.alloc (.cells (arA (.slice none 0 0) (frK 0)) 97)).heap.size := by simp
  rw [show (Obj.cells #[Value.slice none 0 0, .int .i64 0, .int .i64 0, .int .i64 0, .int .i64 0, .int .i64 0, .int .i64 0, .int .i64 0, .int .i64 0, .int .i64 0] 97) = .cells (arA (.slice none 0 0) (frK 0)) 97 from rfl]
  generalize w1.alloc (.cells (arA (.slice none 0 0) (frK 0)) 97) = w2 at *
  generalize w1.heap.size = gb at *
  clear g1 C
  have HW2 := Lib.hid (And.intro D1 (And.intro G1 hz1))
  clear D1 G1 hz1
  go_upto_region 6 with fail
  go_loopw [17] (fun s17 wk => ∃ k : Nat, k ≤ l.length ∧ s17 = .int .i64 k ∧ (∃ v, Blk wk gb (arA v (frK k)) ∧ Own clF 4 100 (gb + 1) wk v ((l.take k).map fun p => (⟨p.1, p.2⟩ : ClR))) ∧ w.grownBy wk none ∧ gb + 1 ≤ wk.heap.size) (fun s17 _ => l.length - (intOf s17).toNat)
  case atStart => exact ⟨0, Nat.zero_le _, rfl, ⟨_, HW2.out.1, Own.nil _ _ _ _ _⟩, HW2.out.2.1, HW2.out.2.2⟩
  case round =>
    clear HW2
    obtain ⟨k, hk, rfl, ⟨v, hB, hO⟩, hg, hz⟩ := hrel
    by_cases hlt : k < l.length
    · obtain ⟨gx, ox, cx, hv, hgx, hcx⟩ := (RdL.same H.out hg).at_ clsF_len hlt
      cases hv
      have c0 := hcx 0 _ rfl
      have c1 := hcx 1 _ rfl
      rw [Nat.add_zero] at c0
      have HT := Lib.hid (show (l.take (k + 1)).map (fun p => (⟨p.1, p.2⟩ : ClR)) = (l.take k).map (fun p => (⟨p.1, p.2⟩ : ClR)) ++ [⟨l[k].1, l[k].2⟩] by rw [List.take_succ_eq_append_getElem hlt, List.map_append]; rfl)
      have HSl := Lib.hid (show ((l.take k).map (fun p => (⟨p.1, p.2⟩ : ClR))).length = k by simp; omega)
      generalize (l.take k).map (fun p => (⟨p.1, p.2⟩ : ClR)) = S at *
      generalize l[k] = p at *
      obtain ⟨sz, cn⟩ := p
      dsimp only at *
      clear hcx
      go_upto_region 8 with fail
      have O2 := hO.same (World.grownBy_alloc wr (.cells #[.int .i64 sz, .int .i64 cn] 72) none)
      have B2 := hB.same (World.grownBy_alloc wr (.cells #[.int .i64 sz, .int .i64 cn] 72) none)
      have A2 := Blk.new wr #[.int .i64 sz, .int .i64 cn] 72
      have G2 := grownBy_new_block hg (.cells #[.int .i64 sz, .int .i64 cn] 72)
      have hz2 : gb + 1 ≤ (wr.alloc (.cells #[.int .i64 sz, .int .i64 cn] 72)).heap.size := by simp; omega
      have hlo := fun q hq => (hO.lt q hq).2
      have hlo2 := fun q hq => (hO.lt q hq).1
      have HZ3 := Lib.hid (show wr.heap.size ≤ (wr.alloc (.cells #[.int .i64 sz, .int .i64 cn] 72)).drew.heap.size from (grownBy_drew (World.grownBy_alloc wr _ none)).size)
      generalize wr.alloc (.cells #[.int .i64 sz, .int .i64 cn] 72) = w3 at *
      generalize wr.heap.size = gk at *
      clear hO hB hg c0 c1 hgx
      obtain ⟨oa, oc, rfl⟩ := O2.shape
      obtain ⟨r, hr⟩ : ∃ r, (Value.slice oa S.length oc).ownBlock = r := ⟨_, rfl⟩
      have hr1 : r ≠ some gb := fun e => by have := hlo2 gb (by rw [hr]; exact e); omega
      have hr2 : r ≠ some gk := fun e => by have := hlo gk (by rw [hr]; exact e); omega
      have Hr := Lib.hid hr
      have Hlo := Lib.hid hlo2
      have Hlt := Lib.hid (fun q hq => Nat.lt_of_lt_of_le (hlo q hq) (show gk ≤ w3.drew.heap.size from HZ3.out))
      clear hr hlo hlo2
      have Gd : World.grownBy w3 w3.drew none := (by (repeat (first | exact grownBy_refl _ _ | assumption | refine grownBy_new_block ?_ _ | refine grownBy_drew ?_ | refine grownBy_drewN ?_ _ | refine grownBy_setNew ?_ (by first | (simp; done) | omega | (simp; omega)) _)))
      have HOd := Lib.hid (O2.same Gd)
      have HBd := Lib.hid (B2.same Gd)
      have HAd := Lib.hid (A2.same Gd)
      have Gd2 := Lib.hid (grownBy_trans G2 Gd)
      have hzd : gb + 1 ≤ w3.drew.heap.size := Nat.le_trans hz2 Gd.size
      have hb1 : (S.length + [(⟨sz, cn⟩ : ClR)].length) * 48 ≤ 140737488355328 := by rw [HSl.out]; simp; omega
      have hb2 : S.length + [(⟨sz, cn⟩ : ClR)].length ≤ 9223372036854775807 := by rw [HSl.out]; simp; omega
      clear O2 B2 A2 G2 hz2
      (refine Rg.wp_region_rgZ 11 #[] (KeepR clF 4 100 (gb + 1) (fun T => T = S ∨ T = S ++ [⟨sz, cn⟩]) r) (fun _ _ _ _ _ => False) (by kernel_rfl) (by kernel_rfl) (KeepR.refl _ _ _ _ _ _) (fun _ _ _ h k => h.trans k) (fun _ _ _ _ _ h => h) ?_; simp only [List.take, List.drop])
      clear Gd
      generalize w3.drew = wd at *
      (refine Rg.tree_quiet 4 rfl (by first | exact Or.inl rfl | exact Or.inr rfl) ?_; simp only [List.take, List.drop, List.length_cons, List.length_nil, List.replicate, Nat.reduceAdd]; (try simp only [List.cons_append]); (try simp only [List.nil_append]); (repeat (go_big_quiet_step (fail))); refine wpQuiet_nil ?_)
      (refine Rg.tree_op rfl rfl ?_; intro y4 my4 dy4)
      clear dy4
      have ab0 := (my4.blk HBd.out hr1).cell 0
      rw [arA_0] at ab0
      go_wp2_with fail
      refine ⟨KeepR.refl _ _ _ _ _ _ _, ?_⟩
      clear ab0
      (refine Rg.tree_op rfl rfl ?_; intro y5 my5 dy5)
      clear dy5
      have ab := (my5.blk HAd.out hr2).cell
      go_wp2_with fail
      refine ⟨KeepR.refl _ _ _ _ _ _ _, ?_⟩
      clear ab
      (refine Rg.tree_quiet 1 rfl (by first | exact Or.inl rfl | exact Or.inr rfl) ?_; simp only [List.take, List.drop, List.length_cons, List.length_nil, List.replicate, Nat.reduceAdd]; (try simp only [List.cons_append]); (try simp only [List.nil_append]); (repeat (go_big_quiet_step (fail))); refine wpQuiet_nil ?_)
      (refine Rg.tree_op rfl rfl ?_; intro y7 my7 dy7)
      clear dy7
      go_wp2_with fail
      refine ⟨KeepR.of (World.grownBy_alloc _ _ _), ?_⟩
      have N7 := Blk.new y7 #[.int .i64 sz, .int .i64 cn, .slice none 0 0, .int .i64 0] 100
      have hy7 := my7.grown.size
      generalize y7.alloc (.cells #[.int .i64 sz, .int .i64 cn, .slice none 0 0, .int .i64 0] 100) = e7 at *
      have hg7 : r ≠ some y7.heap.size := fun e => by have := Hlt.out _ (Hr.out.trans e); omega
      generalize y7.heap.size = g7 at *
      (refine Rg.tree_op rfl rfl ?_; intro y8 my8 dy8)
      have N8 := ((dy8.out 7 (by omega) (by kernel_rfl)).blk N7 hg7).one clF_len ⟨sz, cn⟩ rfl
      have O8 := my8.own _ _ (.inl rfl) HOd.out
      have z8 := Nat.le_trans hzd my8.grown.size
      clear dy8 N7
      go_wp2_with (at_builtin; refine app_keepR (P := fun T => T = S ∨ T = S ++ [⟨sz, cn⟩]) elt_cl one_cl clF_len O8 N8 rfl hb1 hb2 z8 (fun T e => e.elim (fun e => .inl (by rw [e]; exact Nat.le_refl _)) (fun e => .inr (.inl (by rw [e]; exact List.prefix_refl _)))) (by rfl) _ _ (by rfl) (by rfl) (by rfl) ?_; intro v8 e8 o8 k8 l8; have Hk8 := Lib.hid k8; clear k8)
      rw [Hr.out] at Hk8
      refine ⟨Hk8.out, ?_⟩
      obtain ⟨a8, c8, rfl⟩ := o8.shape
      (refine Rg.tree_quiet 2 rfl (by first | exact Or.inl rfl | exact Or.inr rfl) ?_; simp only [List.take, List.drop, List.length_cons, List.length_nil, List.replicate, Nat.reduceAdd]; (try simp only [List.cons_append]); (try simp only [List.nil_append]); (repeat (go_big_quiet_step (fail))); refine wpQuiet_nil ?_)
      (refine Rg.tree_nil ?_; intro z mz dz cz)
      have BZ := mz.blk HBd.out hr1
      have bz0 := BZ.cell 0
      rw [arA_0] at bz0
      have fz := BZ.free 0
      have OZ := (dz.out 8 (by omega)).own _ _ (.inr rfl) o8
      have GZ : w.grownBy z none := grown_new Gd2.out mz.grown (fun q e => Nat.le_trans (Nat.le_trans hgb (Nat.le_succ gb)) (Hlo.out q (Hr.out.trans e)))
      have hzz := Nat.le_trans hzd mz.grown.size
      clear dz cz mz my4 my5 my7 my8 Hk8 o8 O8 N8 l8 HBd HAd HOd
      have hl9 : (S ++ [(⟨sz, cn⟩ : ClR)]).length = S.length + 1 := by simp
      rw [hl9] at OZ
      have HL9 := Lib.hid hl9
      clear hl9
      go_upto_region 9 with fail
      have B9 := BZ.set_ 0 (.slice a8 (S.length + 1) c8) (arA_set0 _ _ _)
      have O9 := OZ.kept (grownBy_set (grownBy_refl z (some gb)) 0 (.slice a8 (S.length + 1) c8)) (fun q hq e => by cases e; have := (OZ.lt _ hq).1; omega)
      have G9 := grownBy_setNew (p := ⟨gb, 0, none⟩) GZ hgb (.slice a8 (S.length + 1) c8)
      have hz9 : gb + 1 ≤ (z.setCell ⟨gb, 0, none⟩ (.slice a8 (S.length + 1) c8)).heap.size := by simpa [World.setCell] using hzz
      clear BZ OZ GZ hzz bz0 fz
      generalize z.setCell ⟨gb, 0, none⟩ (.slice a8 (S.length + 1) c8) = w9 at *
      have hk8 : k < (frK k).length := by rw [frK_len (by omega)]; omega
      have c9 := B9.cell (1 + k)
      rw [arA_k _ hk8] at c9
      have f9 := B9.free (1 + k)
      have hk9 : (k : Int) < 8 := by omega
      have B10 := B9.set_ (1 + k) (.int .i64 (-1)) (arA_setk _ hk8 (-1))
      rw [frK_set (by omega)] at B10
      have O10 := O9.kept (grownBy_set (grownBy_refl w9 (some gb)) (1 + k) (.int .i64 (-1))) (fun q hq e => by cases e; have := (O9.lt _ hq).1; omega)
      have G10 := grownBy_setNew (p := ⟨gb, 1 + k, none⟩) G9 hgb (.int .i64 (-1))
      have HF := Lib.hid (And.intro B10 (And.intro O10 (And.intro G10 (show gb + 1 ≤ (w9.setCell ⟨gb, 1 + k, none⟩ (.int .i64 (-1))).heap.size by simpa [World.setCell] using hz9))))
      clear B10 O10 G10 B9 O9 G9 hz9
      go_wp2_with fail
      exact ⟨⟨k + 1, by omega, by go_num, ⟨_, HF.out.1, by rw [HT.out]; exact HF.out.2.1⟩, HF.out.2.2.1, HF.out.2.2.2⟩, by simp [intOf]; omega⟩
    · have hke : l.take k = l := List.take_of_length_le (by omega)
      have hkl : k = l.length := by omega
      rw [hke] at hO
      rw [hkl] at hB
      go_wp2_with fail
      go_ret2
      exact ⟨gb, rfl, ⟨v, hB, hO.base (fun q hq => Nat.le_trans hgb (Nat.le_trans (Nat.le_succ gb) (hO.lt q hq).1))⟩, hgb, hg⟩
end Go.Proofs.YtkdbapbmbhmaiaaGreat

/- The slots that are needed, one size after the other: plain; what they add up to is the reference's demand. -/
namespace Go.Proofs.YtkdbapbmbhmaiaaGreat
open Go.RowKit

/-- A size, and how many slots of it. -/
abbrev NeedT := { p : Int × Int // 1 ≤ p.1 ∧ p.1 ≤ 1000000 ∧ 0 ≤ p.2 ∧ p.2 ≤ 7000 }
def mkN (a b : Int) : NeedT := ⟨(max 1 (min a 1000000), max 0 (min b 7000)), by simp only; omega⟩
theorem mkN_is {a b : Int} (ha : 1 ≤ a ∧ a ≤ 1000000) (hb : 0 ≤ b ∧ b ≤ 7000) : (mkN a b).1 = (a, b) := by
  unfold mkN
  simp only [Prod.mk.injEq]
  omega
def needStep (l : List (Int × Int)) (o : List Int) (x : NeedT) : List Int := match fit l x.1.1 with
  | some k => addAt o k x.1.2
  | none => o
def needOut (l : List (Int × Int)) (pre : List NeedT) : List Int := pre.foldl (needStep l) (List.replicate l.length 0)
theorem needOut_snoc (l : List (Int × Int)) (pre : List NeedT) (x : NeedT) : needOut l (pre ++ [x]) = needStep l (needOut l pre) x := by simp [needOut]
theorem needStep_len (l : List (Int × Int)) (o : List Int) (x : NeedT) : (needStep l o x).length = o.length := by
  unfold needStep; split
  · exact addAt_len _ _ _
  · rfl
theorem needOut_len (l : List (Int × Int)) (pre : List NeedT) : (needOut l pre).length = l.length := by
  have : ∀ (pre : List NeedT) (o : List Int), (pre.foldl (needStep l) o).length = o.length := by
    intro pre
    induction pre with
    | nil => intro o; rfl
    | cons x pre ih => intro o; rw [List.foldl_cons, ih, needStep_len]
  unfold needOut
  rw [this]; simp
theorem needOut_bd (l : List (Int × Int)) (pre : List NeedT) : BdL (needOut l pre) (7000 * pre.length) := by
  have : ∀ (pre : List NeedT) (o : List Int) (M : Int), BdL o M → BdL (pre.foldl (needStep l) o) (M + 7000 * pre.length) := by
    intro pre
    induction pre with
    | nil => intro o M h; simpa using h
    | cons x pre ih =>
      intro o M h
      rw [List.foldl_cons]
      have h1 : BdL (needStep l o x) (M + 7000) := by
        unfold needStep; split
        · exact h.add x.2.2.2 _
        · exact h.mono (by omega)
      exact (ih _ _ h1).mono (by simp only [List.length_cons]; omega)
  exact (this pre _ 0 (BdL.zero _)).mono (by omega)
/-- The least length that needs a class. -/
def leastI (l : List (Int × Int)) (i : Nat) : Int := if i = 0 then 1 else (l[i - 1]?.map (·.1)).getD 0 + 1
def needK (c : Cfg) (l : List (Int × Int)) (m : Nat) : List NeedT := (List.range m).map fun i => mkN (leastI l i) (trkN c + queN c)
theorem needK_snoc (c : Cfg) (l : List (Int × Int)) (m : Nat) : needK c l (m + 1) = needK c l m ++ [mkN (leastI l m) (trkN c + queN c)] := by simp [needK, List.range_succ]
def needB (c : Cfg) : List NeedT := [mkN (8 * c.Width) (rowN c), mkN 32 (trkN c), mkN 24 (queN c)]
def needL (c : Cfg) (l : List (Int × Int)) : List NeedT := needB c ++ needK c l (fitI l c.Key + 1)
theorem fit_fitI {l : List (Int × Int)} {n : Int} (hn : 1 ≤ n) {q : Int × Int} {m : Nat} (hq : l[m]? = some q) (hl : n ≤ q.1) : fit l n = some (fitI l n) := by
  obtain ⟨p, hp, h1, h2⟩ := fit_is hn hq hl
  rw [fit_some hn h2 hp h1]
theorem needStep_is {l : List (Int × Int)} {o : List Int} {a b : Int} (ha : 1 ≤ a ∧ a ≤ 1000000) (hb : 0 ≤ b ∧ b ≤ 7000) {q : Int × Int} {m : Nat} (hq : l[m]? = some q) (hl : a ≤ q.1) : needStep l o (mkN a b) = addAt o (fitI l a) b := by
  unfold needStep
  rw [mkN_is ha hb]
  simp only
  rw [fit_fitI ha.1 hq hl]
section
variable {c : Cfg} {l : List (Int × Int)}
theorem last_at (hc : CfgCls c l) : ∃ q, l[l.length - 1]? = some q ∧ 32 ≤ q.1 ∧ 8 * c.Width ≤ q.1 ∧ c.Key ≤ q.1 := by
  have hp := hc.ok.pos
  have hq : l[l.length - 1]? = some (l[l.length - 1]'(by omega)) := List.getElem?_eq_getElem (by omega)
  exact ⟨_, hq, hc.last _ hq⟩
theorem needB_is (hn : CfgNums c) (hc : CfgCls c l) : needOut l (needB c) = demB c l := by
  obtain ⟨q, hq, h1, h2, h3⟩ := last_at hc
  have hw := hn.width
  have r1 := rowN_bd hn
  have r2 := trkN_bd hn
  have r3 := queN_bd hn
  unfold needOut needB
  simp only [List.foldl_cons, List.foldl_nil]
  rw [needStep_is (by omega) (by omega) hq h2, needStep_is (by omega) (by omega) hq h1, needStep_is (by omega) (by omega) hq (by omega)]
  rfl
theorem least_le (hn : CfgNums c) (hc : CfgCls c l) {i : Nat} (hi : i ≤ fitI l c.Key) : 1 ≤ leastI l i ∧ leastI l i ≤ c.Key ∧ fitI l (leastI l i) = i := by
  obtain ⟨q, hq, h1, h2, h3⟩ := last_at hc
  have hk := hn.key
  obtain ⟨p, hp, g1, g2⟩ := fit_is hk.1 hq h3
  have hlt := (List.getElem?_eq_some_iff.1 hp).1
  cases i with
  | zero => exact ⟨by simp [leastI], by simp [leastI]; omega, fit_one hc.ok⟩
  | succ i =>
    have hi2 : l[i]? = some (l[i]'(by omega)) := List.getElem?_eq_getElem (by omega)
    have e : leastI l (i + 1) = (l[i]'(by omega)).1 + 1 := by simp [leastI, hi2]
    have s1 := hc.ok.size i _ hi2
    have s2 := g2 i _ (by omega) hi2
    have hi3 : l[i + 1]? = some (l[i + 1]'(by omega)) := List.getElem?_eq_getElem (by omega)
    rw [e]
    refine ⟨by omega, by omega, fitI_of (by omega) (fun j p' hj hp' => ?_) hi3 (by have := hc.ok.asc i _ _ hi2 hi3; omega)⟩
    rcases Nat.lt_or_ge j i with h5 | h5
    · have := asc_lt hc.ok (i := j) (d := i - j - 1) hp' (by rw [show j + (i - j - 1) + 1 = i by omega]; exact hi2)
      omega
    · obtain rfl : j = i := by omega
      rw [hi2] at hp'; cases hp'; omega
theorem needK_is (hn : CfgNums c) (hc : CfgCls c l) : ∀ m, m ≤ fitI l c.Key + 1 → (needK c l m).foldl (needStep l) (demB c l) = keysAdd (demB c l) (trkN c + queN c) m
  | 0, _ => rfl
  | m + 1, hm => by
    obtain ⟨q, hq, h1, h2, h3⟩ := last_at hc
    have hk := hn.key
    have r2 := trkN_bd hn
    have r3 := queN_bd hn
    obtain ⟨a1, a2, a3⟩ := least_le hn hc (i := m) (by omega)
    rw [needK_snoc, List.foldl_append, needK_is hn hc m (by omega)]
    simp only [List.foldl_cons, List.foldl_nil]
    rw [needStep_is (by omega) (by omega) hq (by omega), a3]
    rfl
theorem needL_is (hn : CfgNums c) (hc : CfgCls c l) : needOut l (needL c l) = demF c l := by
  have h1 := needB_is hn hc
  unfold needOut at h1 ⊢
  unfold needL
  rw [List.foldl_append, h1, needK_is hn hc _ (Nat.le_refl _), demF_is hn hc]
theorem needL_len (hc : CfgCls c l) : (needL c l).length ≤ 11 := by
  have := fitI_lt (l := l) c.Key hc.ok.pos
  have := hc.ok.len
  simp [needL, needB, needK]; omega
/-- Behind the class of the longest key no length needs a class. -/
theorem least_end (hn : CfgNums c) (hc : CfgCls c l) (h : fitI l c.Key + 1 < l.length) : c.Key < leastI l (fitI l c.Key + 1) := by
  obtain ⟨q, hq, h1, h2, h3⟩ := last_at hc
  obtain ⟨p, hp, g1, g2⟩ := fit_is hn.key.1 hq h3
  simp [leastI, hp]
  omega
end
end Go.Proofs.YtkdbapbmbhmaiaaGreat

/- The iterator over the slots that are needed. -/
namespace Go.Proofs.YtkdbapbmbhmaiaaGreat
open Go.RowKit Go.Shelf
attribute [local go_sem] Oper.semAt_some

/-- Whatever cells there are, in other blocks than B, stand. -/
structure KpB (B : Nat) (W W' : World) : Prop where
  size : W.heap.size ≤ W'.heap.size
  same : ∀ (k : Nat) (o : Obj), W.heap[k]? = some o → o.isCells = true → k ≠ B → W'.heap[k]? = some o
theorem KpB.refl (B : Nat) (W : World) : KpB B W W := ⟨Nat.le_refl _, fun _ _ h _ _ => h⟩
theorem KpB.trans {B : Nat} {X Y Z : World} (h : KpB B X Y) (k : KpB B Y Z) : KpB B X Z := ⟨Nat.le_trans h.size k.size, fun i o hi ho hb => k.same i o (h.same i o hi ho hb) ho hb⟩
theorem KpB.of {B : Nat} {X Y : World} (h : X.grownBy Y none) : KpB B X Y := ⟨h.size, fun i o hi _ _ => (h.block i (Array.getElem?_eq_some_iff.1 hi).1 (by simp)).trans hi⟩
theorem KpB.cell {B : Nat} {W W' : World} (h : KpB B W W') {g o : Nat} {v : Value} (hc : W.cell? ⟨g, o, none⟩ = some v) (hg : g ≠ B) : W'.cell? ⟨g, o, none⟩ = some v := by
  obtain ⟨ob, h1, h2⟩ := cells_of_cell hc
  have h3 := h.same g ob h1 h2 hg
  unfold World.cell? at hc ⊢
  rw [h1] at hc
  rw [h3]; exact hc
theorem KpB.rd {B : Nat} {W W' : World} (h : KpB B W W') {size : Nat} {v : Value} {n : Nat} {xs : List Value} (hr : Rd W size v n xs) (hv : ∀ a m k, v = .slice (some a) m k → a.block ≠ B) : Rd W' size v n xs := by
  obtain ⟨h1, h0, h2⟩ := hr
  refine ⟨h1, h0, ?_⟩
  rcases h2 with h2 | ⟨g, off, cap, rfl, hlt, hc⟩
  · exact .inl h2
  · exact .inr ⟨g, off, cap, rfl, Nat.lt_of_lt_of_le hlt h.size, fun j u hu => h.cell (hc j u hu) (hv _ _ _ rfl)⟩
theorem KpB.box {B : Nat} {W W' : World} (h : KpB B W W') {b : Nat} {c : Cfg} (hb : BoxAt W b c) (hne : b ≠ B) : BoxAt W' b c := by
  obtain ⟨t, f, hbl, hf⟩ := hb.block
  exact ⟨t, f, h.same b _ hbl rfl hne, hf⟩
theorem KpB.put (B : Nat) (W : World) (l : Nat) (o o' : Obj) (hl : W.heap[l]? = some o) (ho : o.isCells = false) : KpB B W (W.putObj l o') :=
  ⟨(grownBy_putObj' W l o').size, fun k ob hk hc _ => by
    by_cases e : k = l
    · subst e; rw [hl] at hk; cases hk; rw [ho] at hc; cases hc
    · exact ((grownBy_putObj' W l o').block k (Array.getElem?_eq_some_iff.1 hk).1 (by simpa using e)).trans hk⟩

theorem load_cfg_ifI {n : Nat} {ops : Array Oper} {rest : List Oper} {o : Oper} {a : Act} {w : World} {Q : Exit → Act → World → Prop} (hw : Region.wanted o (yielded ops a.tmps) = true) (x : Operand) (ho : o.op = .load 31 x)
    (b : Nat) (hx : a.eval x = .pointer (some ⟨b, 0, none⟩)) (c : Cfg) (hb : BoxAt w b c) (h : wpListIn Fence.wide n Tryz.prog ops Q rest (a.put o.dst c.val) w) : wpListIn Fence.wide n Tryz.prog ops Q (o :: rest) a w := by
  refine BigFrame.wpListIn_want hw fun K hK => ?_
  obtain ⟨t, f, hbl, _⟩ := hb.block
  unfold Oper.wpIn
  refine ⟨by simp [Oper.about, ho], ?_⟩
  rw [Oper.semAt_plain _ _ _ (by rw [ho]; intro c hc; cases hc)]
  simp only [execOp, ho, hx, Instr.loadAt, Instr.sureAddr, Sem.run_bind, Sem.run_pure, Result.andThen_ok, run_loadVar_row w b t _ _ f _ hbl Tryz.underlying31 rfl size_cfg]
  exact hK _ _ h

/-- What stands of a configuration and its box. -/
structure CfgAt (c : Cfg) (l : List (Int × Int)) (t : List Int) (bx B : Nat) (W : World) : Prop where
  mem : CfgMem c l t W
  box : BoxAt W bx c
theorem CfgAt.kp {c : Cfg} {l : List (Int × Int)} {t : List Int} {bx B : Nat} {W W' : World} (h : CfgAt c l t bx B W) (k : KpB B W W') (hb : bx ≠ B) (h1 : ∀ a m k, c.Classes = .slice (some a) m k → a.block ≠ B) (h2 : ∀ a m k, c.Table = .slice (some a) m k → a.block ≠ B) : CfgAt c l t bx B W' :=
  ⟨⟨k.rd h.mem.classes h1, k.rd h.mem.table h2, h.mem.tlen, h.mem.twords⟩, k.box h.box hb⟩
theorem CfgAt.same {c : Cfg} {l : List (Int × Int)} {t : List Int} {bx B : Nat} {W W' : World} (h : CfgAt c l t bx B W) (g : W.grownBy W' none) : CfgAt c l t bx B W' := ⟨h.mem.same g, h.box.same g⟩

set_option maxHeartbeats 2000000 in
set_option maxRecDepth 100000 in
theorem needs_stops (c : Cfg) (l : List (Int × Int)) (t : List Int) (bx B n : Nat) (w : World) (hn : CfgNums c) (hc : CfgCls c l) (hA : CfgAt c l t bx B w) (h1n : 1 ≤ n) (hBw : B < w.heap.size) (hb : bx ≠ B) (h1 : ∀ a m k, c.Classes = .slice (some a) m k → a.block ≠ B) (h2 : ∀ a m k, c.Table = .slice (some a) m k → a.block ≠ B) :
    SeqStopsK Fence.wide n Tryz.prog 64 #[.pointer (some ⟨bx, 0, none⟩)] (fun x : NeedT => #[.int .i64 x.1.1, .int .i64 x.1.2]) (KpB B) (fun ys => ys = needL c l) (fun _ => True) 11 w := fun l0 J Jx W hW hJ hJx hY h0 => by
  have hGW : w.grownBy W none := ⟨hW.os, hW.tape, hW.output, hW.size, fun i hi _ => hW.block i hi⟩
  have A0 := Lib.hid (hA.same hGW)
  obtain ⟨w1, w2⟩ := hn.width
  obtain ⟨s1, s2⟩ := hn.shards
  obtain ⟨n1, n2⟩ := hn.windows
  obtain ⟨q1, q2⟩ := hn.queue
  obtain ⟨d1, d2⟩ := hn.depth
  have R1 := rowN_bd hn
  have R2 := trkN_bd hn
  have R3 := queN_bd hn
  have hm1 := mkN_is (a := 8 * c.Width) (b := rowN c) (by omega) (by omega)
  have hm2 := mkN_is (a := 32) (b := trkN c) (by omega) (by omega)
  have hm3 := mkN_is (a := 24) (b := queN c) (by omega) (by omega)
  have m0 : 0 ≤ c.Shards * c.Windows := Int.mul_nonneg (by omega) (by omega)
  have m1 : c.Shards * c.Windows ≤ 64 := by have := Int.mul_le_mul s2 n2 (by omega) (by omega); simpa using this
  have CT := Lib.hid fun (W' : World) (h : CfgAt c l t bx B W') => sizTrk_c c l t W' hn h.mem hc
  have HR1 := Lib.hid (show rowN c = c.Shards * c.Windows * c.Depth from rfl)
  have HR3 := Lib.hid (show queN c = c.Shards * c.Queue from rfl)
  have R1' := R1
  have R3' := R3
  unfold rowN at R1'
  unfold queN at R3'
  obtain ⟨r1a, r1b⟩ := R1'
  obtain ⟨r3a, r3b⟩ := R3'
  have hY' := Lib.hid hY
  have hJ' := Lib.hid hJ
  have hJx' := Lib.hid hJx
  obtain ⟨fn, tmps, assign, body, hy, hR⟩ := hY [] (mkN (8 * c.Width) (rowN c)) W h0 (by decide)
  dsimp only at hy
  rw [hm1] at hy
  dsimp only at hy
  unfold rowN at hy
  have b0 := A0.out.box.cell
  refine callsIn_of_wp Tryz.func64 rfl trivial ?_ rfl
  simp only [Tryz.ntmps64, List.size_toArray, List.length_cons, List.length_nil, Nat.reduceAdd, Nat.reduceSub, Array.replicate_succ, Array.replicate_zero, List.push_toArray, List.append_toArray, List.nil_append, List.cons_append]
  have HL := Lib.hid fun (i : Nat) (hi : i ≤ fitI l c.Key) => least_le hn hc hi
  have HE := Lib.hid (least_end hn hc)
  have hfl := fitI_lt (l := l) c.Key hc.ok.pos
  have hl8 := hc.ok.len
  have hsz := Lib.hid hc.ok.size
  have hk1 := hn.key.1
  have hk2 := hn.key.2
  clear hn hc hA hJ hJx hY
  gi_wp2_with fail
  refine hR.mono ?_
  clear hR hy b0
  rintro e W1 (⟨rfl, hj1, k1⟩ | ⟨rfl, hx1⟩)
  case inr =>
    gi_wp2_with (refine ⟨trivial, ?_⟩)
    refine ⟨fun _ h => (by cases h), ?_⟩
    gi_wp2_with fail
    refine ⟨fun _ h => (by cases h), ?_⟩
    gi_wp2_with fail
    refine bodyPost_ret (results_none (h := by kernel_rfl) ..) rfl ?_
    exact ⟨⟨_, rfl⟩, .inr ⟨_, trivial, hx1⟩⟩
  have A1 := A0.out.kp k1 hb h1 h2
  have B1 := A1.box
  gi_wp2_with (refine load_cfg_ifI rfl _ rfl _ rfl c B1 ?_)
  refine ⟨trivial, ?_⟩
  refine (callsIn_wide.2 (CT.out _ A1)).mono ?_
  rintro e W2 ⟨rfl, g2⟩
  have hj2 := hJ'.out _ _ _ none hj1 g2 (fun r e => by cases e)
  obtain ⟨fn2, tmps2, assign2, body2, hy2, hR2⟩ := hY'.out _ (mkN 32 (trkN c)) W2 hj2 (by simp)
  try dsimp only at hy2
  rw [hm2] at hy2
  try dsimp only at hy2
  gi_wp2_with fail
  refine hR2.mono ?_
  clear hR2 hy2
  rintro e W3 (⟨rfl, hj3, k3⟩ | ⟨rfl, hx3⟩)
  case inr =>
    gi_wp2_with fail
    refine ⟨fun _ h => (by cases h), ?_⟩
    gi_wp2_with fail
    refine bodyPost_ret (results_none (h := by kernel_rfl) ..) rfl ?_
    exact ⟨⟨_, rfl⟩, .inr ⟨_, trivial, hx3⟩⟩
  have A3 := ((A1.same g2).kp k3 hb h1 h2)
  obtain ⟨fn4, tmps4, assign4, body4, hy4, hR4⟩ := hY'.out _ (mkN 24 (queN c)) W3 hj3 (by simp)
  try dsimp only at hy4
  rw [hm3] at hy4
  try dsimp only at hy4
  unfold queN at hy4
  gi_wp2_with fail
  refine hR4.mono ?_
  clear hR4 hy4
  rintro e W4 (⟨rfl, hj4, k4⟩ | ⟨rfl, hx4⟩)
  case inr =>
    gi_wp2_with fail
    refine bodyPost_ret (results_none (h := by kernel_rfl) ..) rfl ?_
    exact ⟨⟨_, rfl⟩, .inr ⟨_, trivial, hx4⟩⟩
  have A4 := A3.kp k4 hb h1 h2
  have B4 := A4.box.cell
  have hcl0 := A4.mem.classes
  obtain ⟨ac, cp, hcl⟩ := hcl0.shape
  have hm := hcl0.2.1
  have HC := Lib.hid hcl
  clear hcl0
  simp only [Cfg.arr, hcl] at B4
  clear hcl
  have hBW4 : B < W4.heap.size := by
    have := hW.size; have := k1.size; have := g2.size; have := k3.size; have := k4.size; omega
  have A4' := Lib.hid A4
  have hj5 : J (needB c ++ needK c l 0) W4 := by simpa [needB, needK] using hj4
  clear hj4 A4 A3 A1 B1 A0 k1 k3 k4 g2 hj1 hj2 hj3
  have hm := hm
  gi_wp2_with fail
  gi_loopw [42, 4] (fun s42 s4 wr => ∃ i : Nat, i ≤ fitI l c.Key + 1 ∧ i ≤ l.length ∧ s42 = .int .i64 i ∧ s4 = .int .i64 (leastI l i) ∧ J (needB c ++ needK c l i) wr ∧ CfgAt c l t bx B wr ∧ B < wr.heap.size) (fun s42 _ _ => l.length - (intOf s42).toNat)
  case atStart => exact ⟨0, by omega, by omega, rfl, by simp [leastI], hj5, A4'.out, hBW4⟩
  clear hj5 A4' hBW4
  obtain ⟨i, hi1, hi2, rfl, rfl, hj, A, hBw2⟩ := hrel
  by_cases hlt : i < l.length
  · have R := A.mem.classes
    obtain ⟨gx, ox, cx, hv, hgx, hcx⟩ := R.at_ clsF_len hlt
    have hv' := HC.out.symm.trans hv
    cases hv'
    have c0 := hcx 0 _ rfl
    have c1 := hcx 1 _ rfl
    rw [Nat.add_zero] at c0
    have hls : leastI l (i + 1) = (l[i]'hlt).1 + 1 := by simp [leastI, List.getElem?_eq_getElem hlt]
    obtain ⟨s1, s2, s3, s4⟩ := hsz.out i _ (List.getElem?_eq_getElem hlt)
    clear hcx
    have HLS := Lib.hid hls
    clear hls
    generalize l[i] = p at *
    obtain ⟨sz, cn⟩ := p
    dsimp only at *
    have G2 := World.grownBy_alloc wr (.cells #[.int .i64 sz, .int .i64 cn] 72) none
    have A2 := A.same G2
    have B2 := A2.box.cell
    simp only [Cfg.arr, HC.out] at B2
    have X2 := (Blk.new wr #[.int .i64 sz, .int .i64 cn] 72)
    have hj2 := hJ'.out _ _ _ none hj G2 (fun r e => by cases e)
    have hk3 : wr.heap.size ≠ B := by omega
    have hlt11 : (needB c ++ needK c l i).length < 11 := by simp [needB, needK]; omega
    by_cases hgt : c.Key < leastI l i
    · have hie := Lib.hid <| show i = fitI l c.Key + 1 by
        rcases Nat.lt_or_ge i (fitI l c.Key + 1) with h | h
        · have := (HL.out i (by omega)).2.1; omega
        · omega
      have d : decide (c.Key < leastI l i) = true := decide_eq_true hgt
      gi_wp2_with (refine ⟨trivial, ?_⟩)
      refine ⟨fun _ h => (by cases h), ?_⟩
      gi_wp2_with fail
      refine bodyPost_ret (results_none (h := by kernel_rfl) ..) rfl ?_
      exact ⟨⟨_, rfl⟩, .inl ⟨_, rfl, by rw [needL, ← hie.out]; exact hj2⟩⟩
    · have hi3 : i ≤ fitI l c.Key := by
        rcases Nat.lt_or_ge i (fitI l c.Key + 1) with h | h
        · omega
        · have := HE.out (by omega); have : i = fitI l c.Key + 1 := by omega
          subst this; omega
      obtain ⟨e1, e2, e3⟩ := HL.out i hi3
      have d : decide (c.Key < leastI l i) = false := decide_eq_false hgt
      have hmk := mkN_is (a := leastI l i) (b := trkN c + queN c) (by omega) (by omega)
      have AX := Lib.hid (A2.box)
      gi_wp2_with (refine load_cfg_ifI rfl _ rfl _ rfl c AX.out ?_)
      refine ⟨trivial, ?_⟩
      generalize wr.alloc (.cells #[.int .i64 sz, .int .i64 cn] 72) = wa at *
      generalize wr.heap.size = gk at *
      refine (callsIn_wide.2 (CT.out _ A2)).mono ?_
      rintro e W6 ⟨rfl, g6⟩
      have hj6 := hJ'.out _ _ _ none hj2 g6 (fun r e => by cases e)
      obtain ⟨fn7, tmps7, assign7, body7, hy7, hR7⟩ := hY'.out _ (mkN (leastI l i) (trkN c + queN c)) W6 hj6 hlt11
      try dsimp only at hy7
      rw [hmk] at hy7
      try dsimp only at hy7
      unfold queN at hy7
      gi_wp2_with fail
      refine hR7.mono ?_
      clear hR7 hy7
      rintro e W8 (⟨rfl, hj8, k8⟩ | ⟨rfl, hx8⟩)
      case inr =>
        gi_wp2_with fail
        refine bodyPost_ret (results_none (h := by kernel_rfl) ..) rfl ?_
        exact ⟨⟨_, rfl⟩, .inr ⟨_, trivial, hx8⟩⟩
      have A8 := Lib.hid ((A2.same g6).kp k8 hb h1 h2)
      have X8 := k8.cell (v := .int .i64 sz) (g := gk) (o := 0) ((X2.same g6).cell 0) hk3
      have hB8 : B < W8.heap.size := by have := k8.size; have := g6.size; have := X2.lt; omega
      have hls := HLS.out
      have hsn := Lib.hid (needK_snoc c l i)
      clear A2 B2 X2 A R c0 c1 hj2 hj6 G2 AX
      gi_wp2_with fail
      refine ⟨⟨i + 1, by omega, by omega, by go_num, by rw [hls], ?_, A8.out, hB8⟩, by simp [intOf]; omega⟩
      rw [hsn.out, ← List.append_assoc]; exact hj8
  · have hie := Lib.hid <| show i = l.length by omega
    have hif := Lib.hid <| show i = fitI l c.Key + 1 by omega
    gi_wp2_with fail
    refine bodyPost_end (results_none (h := by kernel_rfl) ..) rfl ?_
    exact ⟨⟨_, rfl⟩, .inl ⟨_, rfl, by rw [needL, ← hif.out]; exact hj⟩⟩
end Go.Proofs.YtkdbapbmbhmaiaaGreat

/- sizing.needs, sizing.Demand: the slots that a configuration needs. -/
namespace Go.Proofs.YtkdbapbmbhmaiaaGreat
open Go.RowKit Go.Shelf
attribute [local go_sem] Oper.semAt_some

theorem load_cfgI {n : Nat} {ops : Array Oper} {rest : List Oper} {o : Oper} {a : Act} {w : World} {Q : Exit → Act → World → Prop} (hgd : o.guard = none) (x : Operand) (ho : o.op = .load 31 x)
    (b : Nat) (hx : a.eval x = .pointer (some ⟨b, 0, none⟩)) (c : Cfg) (hb : BoxAt w b c) (h : wpListIn Fence.wide n Tryz.prog ops Q rest (a.put o.dst c.val) w) : wpListIn Fence.wide n Tryz.prog ops Q (o :: rest) a w := by
  refine wpListIn_plain hgd fun K hK => ?_
  obtain ⟨t, f, hbl, _⟩ := hb.block
  unfold Oper.wpIn
  refine ⟨by simp [Oper.about, ho], ?_⟩
  rw [Oper.semAt_plain _ _ _ (by rw [ho]; intro c hc; cases hc)]
  simp only [execOp, ho, hx, Instr.loadAt, Instr.sureAddr, Sem.run_bind, Sem.run_pure, Result.andThen_ok, run_loadVar_row w b t _ _ f _ hbl Tryz.underlying31 rfl size_cfg]
  exact hK _ _ h
theorem box_cfgI {n : Nat} {ops : Array Oper} {rest : List Oper} {o : Oper} {a : Act} {w : World} {Q : Exit → Act → World → Prop} (hgd : o.guard = none) (x : Operand) (ho : o.op = .box 31 x)
    (c : Cfg) (hx : a.eval x = c.val) (h : ∀ w', BoxAt w' w.heap.size c → w.grownBy w' none → w.heap.size < w'.heap.size → wpListIn Fence.wide n Tryz.prog ops Q rest (a.put o.dst (.pointer (some ⟨w.heap.size, 0, none⟩))) w') : wpListIn Fence.wide n Tryz.prog ops Q (o :: rest) a w :=
  wpListIn_plain hgd fun K hK => by
    unfold Oper.wpIn
    refine ⟨by simp [Oper.about, ho], ?_⟩
    rw [Oper.semAt_plain _ _ _ (by rw [ho]; intro c hc; cases hc)]
    simp only [execOp, ho, hx, Sem.run_bind, run_box_cfg, Result.andThen_ok, Sem.run_pure]
    exact hK _ _ (h _ ⟨_, _, heap_alloc_new w _, rfl⟩ (World.grownBy_alloc w _ none) (by simp))

/-- The iterator's maker. -/
theorem needs_c (c : Cfg) (w : World) : Calls Tryz.prog 50 #[c.val] w fun e w' => e = .returned (.func (.func 64) #[] #[.pointer (some ⟨w.heap.size, 0, none⟩)]) ∧ BoxAt w' w.heap.size c ∧ w.grownBy w' none ∧ w.heap.size < w'.heap.size := by
  go_enter Tryz.func50, Tryz.ntmps50
  go_upto_region 1 with (refine box_cfg rfl _ rfl c rfl ?_; intro w1 B1 G1 z1)
  go_wp2_with fail
  go_ret
  exact ⟨rfl, B1, G1, z1⟩

/-- What stands while the demand is summed up. -/
structure DmS (c : Cfg) (l : List (Int × Int)) (t : List Int) (w : World) (g v bq : Nat) (o : List Int) (W : World) : Prop where
  out : OutAt W g o
  var : Blk W v #[.slice (some ⟨g, 0, none⟩) l.length l.length]
  mem : CfgMem c l t W
  box : BoxAt W bq c
  grown : w.grownBy W none
theorem DmS.beyond {c : Cfg} {l : List (Int × Int)} {t : List Int} {w W W' : World} {g v bq : Nat} {o : List Int} {r : Option Nat} {n0 : Nat} (h : DmS c l t w g v bq o W) (k : W.grownBy W' r) (hr : ∀ j, r = some j → n0 ≤ j) (h1 : g < n0) (h2 : v < n0) (h3 : bq < n0) (h4 : w.heap.size ≤ n0)
    (hb1 : ∀ a n k, c.Classes = .slice (some a) n k → a.block < w.heap.size) (hb2 : ∀ a n k, c.Table = .slice (some a) n k → a.block < w.heap.size) : DmS c l t w g v bq o W' := by
  cases r with
  | none => exact ⟨h.out.kept k (by simp), h.var.same k, h.mem.same k, h.box.same k, grownBy_trans h.grown k⟩
  | some j =>
    have hj := hr j rfl
    refine ⟨h.out.kept k (by simp; omega), h.var.kept k (by simp; omega), ⟨Rd.kept h.mem.classes k fun b e a n m hv => ?_, Rd.kept h.mem.table k fun b e a n m hv => ?_, h.mem.tlen, h.mem.twords⟩, h.box.kept k (by simp; omega), grownBy_new h.grown k (by omega)⟩
    · cases e; have := hb1 a n m hv; omega
    · cases e; have := hb2 a n m hv; omega
theorem KpB.ofB {B : Nat} {X Y : World} (h : X.grownBy Y (some B)) : KpB B X Y := ⟨h.size, fun i o hi _ hb => (h.block i (Array.getElem?_eq_some_iff.1 hi).1 (by simpa using hb)).trans hi⟩
theorem DmS.same {c : Cfg} {l : List (Int × Int)} {t : List Int} {w W W' : World} {g v bq : Nat} {o : List Int} (h : DmS c l t w g v bq o W) (k : W.grownBy W' none) : DmS c l t w g v bq o W' :=
  ⟨h.out.kept k (by simp), h.var.same k, h.mem.same k, h.box.same k, grownBy_trans h.grown k⟩

set_option maxHeartbeats 2000000 in
set_option maxRecDepth 100000 in
theorem sizDemand_c (c : Cfg) (l : List (Int × Int)) (t : List Int) (w : World) (hn : CfgNums c) (hm : CfgMem c l t w) (hc : CfgCls c l) :
    Calls Tryz.prog 30 #[c.val] w fun e w' => ∃ g, e = .returned (.tuple #[.slice (some ⟨g, 0, none⟩) l.length l.length, .int .i64 0]) ∧ OutAt w' g (demF c l) ∧ w.heap.size ≤ g ∧ w.grownBy w' none := by
  obtain ⟨ac, cp, hcl⟩ := hm.classes.shape
  have hp0 := hc.ok.pos
  have hp8 := hc.ok.len
  have hb1 := Rd.blockLt hm.classes hp0
  have hb2 := Rd.blockLt hm.table (by have := hm.tlen; omega)
  have C1 := Lib.hid fun w' (g : w.grownBy w' none) => sizCheck_c c l t w' hn (hm.same g) hc
  have Hm := Lib.hid hm
  have Hn := Lib.hid hn
  have Hc := Lib.hid hc
  have HL := Lib.hid hcl
  have hmk := make_ints l.length (by omega)
  clear hn hm hc hcl
  refine (callsIn_wide (n := 6)).1 ?_
  refine callsIn_of_wp_marks Tryz.func30 rfl trivial ?_ rfl
  simp only [Tryz.ntmps30, List.size_toArray, List.length_cons, List.length_nil, Nat.reduceAdd, Nat.reduceSub, Array.replicate_succ, Array.replicate_zero, List.push_toArray, List.append_toArray, List.nil_append, List.cons_append]
  gi_wp2_with (first
    | (refine box_cfgI rfl _ rfl c rfl ?_; intro w1 B1 G1 z1)
    | (refine load_cfgI rfl _ rfl _ rfl c B1 ?_)
    | (refine ⟨trivial, ?_⟩; gi_at_call 34; refine (callsIn_wide.2 (C1.out _ G1)).mono ?_; rintro e w2 ⟨rfl, G2⟩; have B2 := B1.same G2; have K2 := grownBy_trans G1 G2; have z2 := G2.size; clear B1 G1 G2; have b2 := B2.cell; simp only [Cfg.arr, HL.out] at b2)
    | (refine load_cfgI rfl _ rfl _ rfl c (B2.same (grownBy_new_block (World.grownBy_alloc _ _ none) _)) ?_; clear b2)
    | (refine ⟨trivial, ?_⟩; gi_at_call 50; refine (callsIn_wide.2 (needs_c c _)).mono ?_; rintro e w5 ⟨rfl, B5, G5, z5⟩))
  have O5 := (((OutAt.new w2 l.length).kept (World.grownBy_alloc _ (.cells #[Value.slice (some ⟨w2.heap.size, 0, none⟩) l.length l.length] 65) none) (by simp)).kept G5 (by simp))
  have V5 := (Blk.new (w2.alloc (.cells (intCells (List.replicate l.length 0)) 3)) #[Value.slice (some ⟨w2.heap.size, 0, none⟩) l.length l.length] 65).same G5
  have G25 := grownBy_trans (grownBy_new_block (World.grownBy_alloc w2 (.cells (intCells (List.replicate l.length 0)) 3) none) (.cells #[Value.slice (some ⟨w2.heap.size, 0, none⟩) l.length l.length] 65)) G5
  simp only [World.size_alloc] at V5 B5 z5 ⊢
  have D5 : DmS c l t w w2.heap.size (w2.heap.size + 1) w.heap.size (needOut l []) w5 := ⟨O5, V5, (Hm.out.same K2).same G25, B2.same G25, grownBy_trans K2 G25⟩
  clear O5 V5 G25 G5 B2 K2 hmk C1
  generalize hgg : w2.heap.size = g at *
  have hwg : w.heap.size < g := by omega
  have hA5 : CfgAt c l t (g + 1 + 1) g w5 := ⟨D5.mem, B5⟩
  have hk1 : ∀ a m k, c.Classes = .slice (some a) m k → a.block ≠ g := fun a m k e => by have := hb1 a m k e; omega
  have hk2 : ∀ a m k, c.Table = .slice (some a) m k → a.block ≠ g := fun a m k e => by have := hb2 a m k e; omega
  have HS := needs_stops c l t (g + 1 + 1) g (6 - 1) w5 Hn.out Hc.out hA5 (by omega) (by omega) (by omega) hk1 hk2
  refine wpIn_rangeFunc_ownG rfl (by omega) (gf := 64) (lb := #[.pointer (some ⟨g + 1 + 1, 0, none⟩)]) rfl trivial (enters_of Tryz.func64 (by kernel_rfl) rfl)
    HS (fun h k => h.trans k) (fun W l o o' _ h2 h3 _ => KpB.put g W l o o' h2 h3) (Below.refl _ _) (fun _ => rfl)
    (fun pre W => DmS c l t w g (g + 1) w.heap.size (needOut l pre) W) (fun _ _ _ => False)
    (fun s A B row hs hg' hr => hs.beyond hg' (fun j e => (hr j e).1) (by omega) (by omega) (by omega) (by omega) hb1 hb2)
    (fun _ _ _ _ _ hs _ _ => hs) D5
    (fun x => { tmps := #[c.val, .pointer (some ⟨w.heap.size, 0, none⟩), .slice none 0 0, .int .i64 0, .int .i64 0, .pointer (some ⟨g + 1, 0, none⟩), .int .i64 x.1.1, .int .i64 x.1.2, undef, undef, c.val, .int .i64 0, .int .i64 0, .bool false, undef, .pointer (some ⟨w.heap.size, 14, none⟩), .slice ac l.length cp, .int .i64 l.length, .slice (some ⟨g, 0, none⟩) l.length l.length, c.val, .func (.func 64) #[] #[.pointer (some ⟨g + 1 + 1, 0, none⟩)], .int .i64 x.1.1, .int .i64 x.1.2, undef, undef, undef, undef, undef, undef, undef, undef, undef, undef, undef, undef, undef, undef, undef, undef, undef, undef, undef, undef, undef], defers := [] }) ?assign ?body ?done ?stop
  case assign =>
    intro l x W K hK
    gi_wp2
    exact hK
  case done =>
    rintro D ys W hD rfl S hK
    have v0 := S.var.cell 0
    gi_wp2_with fail
    refine ⟨by simp, .inl ⟨_, _, rfl, run_takeDeferred hK, ?_⟩⟩
    refine ⟨_, results_tmp2 rfl _ _ _, g, rfl, ?_, by omega, ?_⟩
    · have := S.out
      rw [needL_is Hn.out Hc.out] at this
      exact this.kept (grownBy_putObj' _ D _) (by simp; omega)
    · exact grownBy_new S.grown (grownBy_putObj' _ D _) (by omega)
  case stop =>
    rintro D c pre W _ _ h _
    exact h.elim
  case body =>
    rintro lr pre x W S hlt
    have hlt' := Lib.hid hlt
    have b0 := S.box.cell
    simp only [Cfg.arr, HL.out] at b0
    obtain ⟨⟨sz, ct⟩, x1, x2, x3, x4⟩ := x
    dsimp only at *
    have HN := Lib.hid (needOut_snoc l pre ⟨(sz, ct), x1, x2, x3, x4⟩)
    have hbd := needOut_bd l pre
    have hol := needOut_len l pre
    generalize needOut l pre = o at *
    gi_wp2_with fail
    gi_loopw [26] (fun s26 wr => ∃ i : Nat, i ≤ l.length ∧ s26 = .int .i64 i ∧ (∀ (j : Nat) (p : Int × Int), j < i → l[j]? = some p → p.1 < sz) ∧ DmS c l t w g (g + 1) w.heap.size o wr ∧ W.grownBy wr none) (fun s26 _ => l.length - (intOf s26).toNat)
    case atStart => exact ⟨0, by omega, rfl, fun j p h => by omega, S, grownBy_refl _ _⟩
    obtain ⟨i, hi, rfl, hlow, S2, GW⟩ := hrel
    have HLow := Lib.hid hlow
    have HG := Lib.hid GW
    clear hlow GW S b0
    by_cases hlt2 : i < l.length
    · have R := S2.mem.classes
      obtain ⟨gx, ox, cx, hv, hgx, hcx⟩ := R.at_ clsF_len hlt2
      have hv' := HL.out.symm.trans hv
      cases hv'
      have c0 := hcx 0 _ rfl
      have c1 := hcx 1 _ rfl
      rw [Nat.add_zero] at c0
      obtain ⟨s1, s2, s3, s4⟩ := Hc.out.ok.size i _ (List.getElem?_eq_getElem hlt2)
      have hli := Lib.hid (List.getElem?_eq_getElem hlt2)
      clear hcx hv
      generalize l[i] = p at *
      obtain ⟨ps, pc⟩ := p
      dsimp only at *
      have G2 := Lib.hid (World.grownBy_alloc wr (.cells #[.int .i64 ps, .int .i64 pc] 72) none)
      have S3 := S2.same G2.out
      have v3 := S3.var.cell 0
      have o3 := S3.out.cell (k := i) (by omega)
      have f3 := S3.out.free i
      have X2 := (Blk.new wr #[.int .i64 ps, .int .i64 pc] 72).cell 0
      by_cases hge : sz ≤ ps
      · have d : decide (sz ≤ ps) = true := decide_eq_true hge
        have hb := hbd i
        rw [List.getD_eq_getElem?_getD] at o3
        have HA := Lib.hid (show addAt o i ct = o.set i (o[i]?.getD 0 + ct) from rfl)
        generalize o[i]?.getD 0 = v at *
        obtain ⟨q1, q2⟩ := hb
        gi_wp2_with fail
        clear v3 o3 f3 X2 c0 c1
        generalize wr.alloc (.cells #[.int .i64 ps, .int .i64 pc] 72) = wa at *
        have GS : W.grownBy (wa.setCell ⟨g, i, none⟩ (.int .i64 (v + ct))) (some g) := grownBy_set (grownBy_some (grownBy_trans HG.out G2.out) _) _ _
        have GA : wa.grownBy (wa.setCell ⟨g, i, none⟩ (.int .i64 (v + ct))) (some g) := grownBy_set (grownBy_refl _ _) _ _
        refine ⟨KeepsFrom.of_grownBy GS (fun j e => by cases e; omega), KpB.ofB GS, ?_⟩
        show DmS c l t w g (g + 1) w.heap.size (needOut l (pre ++ [⟨(sz, ct), _⟩])) _
        rw [HN.out]
        unfold needStep
        dsimp only
        rw [fit_some x1 HLow.out hli.out hge]
        dsimp only
        rw [HA.out]
        exact ⟨S3.out.set i _, S3.var.kept GA (by simp), ⟨Rd.kept S3.mem.classes GA fun b e a n m hv => by cases e; have := hb1 a n m hv; omega, Rd.kept S3.mem.table GA fun b e a n m hv => by cases e; have := hb2 a n m hv; omega, S3.mem.tlen, S3.mem.twords⟩, S3.box.kept GA (by simp; omega), grownBy_setNew S3.grown (by simp; omega) _⟩
      · have d : decide (sz ≤ ps) = false := decide_eq_false hge
        gi_wp2_with fail
        refine ⟨⟨i + 1, by omega, by go_num, fun j p hj hp => ?_, S3, grownBy_trans HG.out G2.out⟩, by simp [intOf]; omega⟩
        rcases Nat.lt_or_ge j i with h | h
        · exact HLow.out j p h hp
        · obtain rfl : j = i := by omega
          have := hli.out.symm.trans hp
          cases this; simp only; omega
    · have hie := Lib.hid <| show i = l.length by omega
      gi_wp2_with fail
      refine ⟨KeepsFrom.of_grownBy HG.out (fun j e => by cases e), KpB.of HG.out, ?_⟩
      show DmS c l t w g (g + 1) w.heap.size (needOut l (pre ++ [⟨(sz, ct), _⟩])) _
      rw [HN.out]
      unfold needStep
      dsimp only
      rw [fit_none fun j p hp => HLow.out j p (by have := (List.getElem?_eq_some_iff.1 hp).1; have := hie.out; omega) hp]
      exact S2
end Go.Proofs.YtkdbapbmbhmaiaaGreat

/- sizing.Validate: a configuration with the slots that it needs is accepted. -/
namespace Go.Proofs.YtkdbapbmbhmaiaaGreat
open Go.RowKit Go.Sort
attribute [local go_sem ↓] exec_load_cfg
attribute [local go_sem] run_loadCfgS

set_option maxHeartbeats 1000000 in
set_option maxRecDepth 100000 in
theorem validate_c (c : Cfg) (l : List (Int × Int)) (t : List Int) (w : World) (hn : CfgNums c) (hm : CfgMem c l t w) (hc : ClsFit c l) : Calls Tryz.prog 10 #[c.val] w (RetInt 0 w) := by
  obtain ⟨ac, cp, hcl⟩ := hm.classes.shape
  have hmx := hm.classes.2.1
  have HL := Lib.hid hcl
  have C1 := Lib.hid fun w' (g : w.grownBy w' none) => sizDemand_c c l t w' hn (hm.same g) hc.cls
  have HD := Lib.hid fun i => demF_le hn hc.cls i
  have hdl := demF_len c l
  have Hf := Lib.hid hc.cnt
  have Hs := Lib.hid hc.cls.ok.size
  have Hm := Lib.hid hm.classes
  clear hn hm hc hcl
  go_enter Tryz.func10, Tryz.ntmps10
  go_upto_region 5 with (first
    | (refine box_cfg rfl _ rfl c rfl ?_; intro w1 B1 G1 z1)
    | (refine load_cfg rfl _ rfl _ rfl c B1 ?_)
    | (go_at_call 30; refine (C1.out _ G1).mono ?_; rintro e w2 ⟨g, rfl, O2, z2, G2⟩; have B2 := B1.same G2; have K2 := grownBy_trans G1 G2))
  clear C1 B1 G1
  generalize demF c l = o at *
  have HO := Lib.hid O2
  clear O2
  go_loopw [17] (fun s17 wr => ∃ k : Nat, k ≤ l.length ∧ s17 = .int .i64 k ∧ wr = w2) (fun s17 _ => l.length - (intOf s17).toNat)
  case atStart => exact ⟨0, by omega, rfl, rfl⟩
  case round =>
    obtain ⟨k, hk, rfl, rfl⟩ := hrel
    have b2 := B2.cell
    simp only [Cfg.arr, HL.out] at b2
    by_cases hlt : k < l.length
    · obtain ⟨gx, ox, cx, hv, hgx, hcx⟩ := (RdL.same Hm.out K2).at_ clsF_len hlt
      have hv' := HL.out.symm.trans hv
      cases hv'
      have c1 := hcx 1 _ rfl
      have hf := Hf.out k hlt
      obtain ⟨s1, s2, s3, s4⟩ := Hs.out k _ (List.getElem?_eq_getElem hlt)
      obtain ⟨d1, d2⟩ := HD.out k
      have oc := HO.out.cell (k := k) (by omega)
      rw [List.getD_eq_getElem?_getD] at oc
      clear hcx hv
      generalize l[k] = p at *
      obtain ⟨ps, pc⟩ := p
      dsimp only at *
      rw [← hf] at oc
      have d : decide (pc < pc) = false := decide_eq_false (by omega)
      clear hf d1 d2
      go_wp2_with fail
      exact ⟨⟨k + 1, by omega, by go_num, trivial⟩, by simp [intOf]; omega⟩
    · go_wp2_with fail
      go_ret
      exact retInt rfl K2
end Go.Proofs.YtkdbapbmbhmaiaaGreat
