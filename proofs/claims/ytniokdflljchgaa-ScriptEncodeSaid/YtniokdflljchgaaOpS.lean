/- A whole operation of a script: made, written, read, at once. -/
import Derived.Test.YtniokdflljchgaaScrP
import Derived.Test.YtniokdflljchgaaBlk
namespace Go.Proofs.Ytniokdflljchgaa
open Go.RowKit

theorem size_op : (Try.prog.info? 30).map (·.size) = some 6 := by kernel_rfl
abbrev op0 : Array Value := opA 0 (.slice none 0 0) 0 0 ⟨#[]⟩ (.slice none 0 0)
theorem run_alloc_op (w : World) : (Instr.alloc 30 true (.tuple #[])).run Try.prog w = .ok (.pointer (some ⟨w.heap.size, 0, none⟩)) (w.alloc (.cells op0 30)) := by kernel_rfl
theorem alloc_op {ops : Array Oper} {rest : List Oper} {o : Oper} {a : Act} {w : World} {Q : Exit → Act → World → Prop} (hgd : o.guard = none) (ho : o.op = .alloc 30)
    (h : ∀ w', Blk w' w.heap.size op0 → w.grownBy w' none → w.heap.size < w'.heap.size → wpList Try.prog ops Q rest (a.put o.dst (.pointer (some ⟨w.heap.size, 0, none⟩))) w') : wpList Try.prog ops Q (o :: rest) a w :=
  wpList_plain hgd fun _ hK => by
    unfold Oper.wp execOp
    simp only [ho, run_alloc_op, Sem.run_bind, Sem.run_pure, Result.andThen_ok]
    exact hK _ _ (h _ (Blk.new w _ _) (World.grownBy_alloc w _ _) (by simp))
theorem store_op {ops : Array Oper} {rest : List Oper} {o : Oper} {a : Act} {w : World} {Q : Exit → Act → World → Prop} (hgd : o.guard = none) (x y : Operand) (ho : o.op = .store 30 x y)
    (b : Nat) (hx : a.eval x = .pointer (some ⟨b, 0, none⟩)) {kind time shard : Int} {key : ByteArray} {vd vp : Value} (hy : a.eval y = opV kind vd time shard key vp) (h1 : vd.oneCell' = true) (h2 : vp.oneCell' = true) (c0 : Array Value) (hs : c0.size = 6) (hb : Blk w b c0)
    (h : ∀ w', Blk w' b (opA kind vd time shard key vp) → w.grownBy w' (some b) → wpList Try.prog ops Q rest (a.put o.dst undef) w') : wpList Try.prog ops Q (o :: rest) a w := by
  obtain ⟨t, hbl⟩ := hb.blk
  have hst := run_storeCells_at Try.prog b 0 t (opA kind vd time shard key vp).toList 0 c0 w hbl (by simp [hs]) (by intro v hv; simp at hv; rcases hv with rfl | rfl | rfl | rfl | rfl | rfl <;> first | rfl | assumption)
  have hz : (sizeOf 30).run Try.prog w = .ok 6 w := by
    have := size_op
    cases hq : Try.prog.info? 30 with
    | none => rw [hq] at this; simp at this
    | some i => rw [hq] at this; simp [sizeOf, typeInfo, hq]; simpa using this
  refine wpList_plain hgd fun _ hK => ?_
  unfold Oper.wp execOp
  simp only [ho, hx, hy, Instr.storeAt, Instr.sureAddr, storeVar, Sem.run_bind, Sem.run_pure, Result.andThen_ok, hz]
  simp only [Value.cells, List.size_toArray, List.length_cons, List.length_nil, Nat.reduceAdd, ne_eq, not_true_eq_false, if_false]
  rw [hst]
  refine hK _ _ (h _ ⟨t, ?_⟩ ⟨rfl, rfl, rfl, by simp, fun k _ hk => setRow_other w b k _ (fun e => hk (by simp [e]))⟩)
  rw [setRow_heap w b c0 _ t _ hbl]
  obtain ⟨l, rfl⟩ : ∃ l : List Value, c0 = l.toArray := ⟨c0.toList, by simp⟩
  match l, hs with
  | [_, _, _, _, _, _], _ => rfl
theorem load_op {ops : Array Oper} {rest : List Oper} {o : Oper} {a : Act} {w : World} {Q : Exit → Act → World → Prop} (hgd : o.guard = none) (x : Operand) (ho : o.op = .load 30 x)
    (b : Nat) (hx : a.eval x = .pointer (some ⟨b, 0, none⟩)) {kind time shard : Int} {key : ByteArray} {vd vp : Value} (hb : Blk w b (opA kind vd time shard key vp)) (h : wpList Try.prog ops Q rest (a.put o.dst (opV kind vd time shard key vp)) w) : wpList Try.prog ops Q (o :: rest) a w := by
  obtain ⟨t, hbl⟩ := hb.blk
  exact wpList_load_row hgd _ x ho b hx t _ _ _ hbl Try.underlying30 rfl size_op h
theorem run_loadVar_op {P : Program} (w : World) (g off : Nat) (ty : TypeId) (cs : Array Value) (d : TypeDesc) (hc : ∀ j v, cs[j]? = some v → w.cell? ⟨g, off + j, none⟩ = some v)
    (hu : P.underlying ty = some d) (hd : (match d with | .struct _ | .array _ _ => true | _ => false) = true) (hi : (P.info? ty).map (·.size) = some cs.size) :
    (loadVar ty ⟨g, off, none⟩).run P w = .ok (.agg cs) w := by
  have hl : (loadCells ⟨g, off, none⟩ cs.toList.length).run P w = .ok cs.toList.toArray w :=
    run_loadCells_list (P := P) w ⟨g, off, none⟩ cs.toList (fun j v hv => by
      have hadd : (⟨g, off, none⟩ : Addr).add j = ⟨g, off + j, none⟩ := by unfold Addr.add; split <;> simp_all
      rw [hadd]
      exact hc j v (by simpa using hv))
  cases hq : P.info? ty with
  | none => simp [hq] at hi
  | some i =>
    have hs : i.size = cs.size := by simpa [hq] using hi
    have hagg : (isAgg ty).run P w = .ok true w := by
      unfold isAgg
      rw [Sem.run_bind, run_underlying hu w]
      cases d <;> simp_all
    simp only [Array.length_toList, Array.toArray_toList] at hl
    simp [loadVar, Sem.run_bind, hagg, sizeOf, typeInfo, hq, hs, hl]
theorem load_op_at {ops : Array Oper} {rest : List Oper} {o : Oper} {a : Act} {w : World} {Q : Exit → Act → World → Prop} (hgd : o.guard = none) (x : Operand) (ho : o.op = .load 30 x)
    (b off : Nat) (hx : a.eval x = .pointer (some ⟨b, off, none⟩)) {r : OpR} (hc : ∀ j v, (opF r)[j]? = some v → w.cell? ⟨b, off + j, none⟩ = some v) (h : wpList Try.prog ops Q rest (a.put o.dst (opV r.kind r.vd r.time r.shard r.key r.vp)) w) : wpList Try.prog ops Q (o :: rest) a w :=
  wpList_plain hgd fun _ hK => by
    unfold Oper.wp execOp
    simp only [ho, hx, Instr.loadAt, Instr.sureAddr, Sem.run_bind, Sem.run_pure, Result.andThen_ok, run_loadVar_op w b off _ (opA r.kind r.vd r.time r.shard r.key r.vp) _ (fun j v hv => hc j v (by simpa [opF, opA] using hv)) Try.underlying30 rfl size_op]
    exact hK _ _ h
end Go.Proofs.Ytniokdflljchgaa
