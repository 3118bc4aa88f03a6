/- Configurations, as the deck makes them, and what the references say of them. -/
import Derived.Test.YtniokdflljchgaaCls
import Derived.Test.YtniokdflljchgaaTail
import Derived.Deep.RegionHeld3
namespace Go.Proofs.Ytniokdflljchgaa
open Go.RowKit

structure Cfg where
  (Length Lateness Windows Shards Spread Queue Mode Slots Exact Promote Depth Width Top Key : Int)
  (Classes Table : Value)
  (Seed : Int)

abbrev Cfg.val (c : Cfg) : Value := .agg #[.int .i64 c.Length, .int .i64 c.Lateness, .int .i64 c.Windows, .int .i64 c.Shards, .int .i64 c.Spread, .int .i64 c.Queue, .int .i64 c.Mode, .int .i64 c.Slots, .int .i64 c.Exact, .int .u64 c.Promote, .int .i64 c.Depth, .int .i64 c.Width, .int .i64 c.Top, .int .i64 c.Key, c.Classes, c.Table, .int .u64 c.Seed]

abbrev Cfg.arr (c : Cfg) : Array Value := #[.int .i64 c.Length, .int .i64 c.Lateness, .int .i64 c.Windows, .int .i64 c.Shards, .int .i64 c.Spread, .int .i64 c.Queue, .int .i64 c.Mode, .int .i64 c.Slots, .int .i64 c.Exact, .int .u64 c.Promote, .int .i64 c.Depth, .int .i64 c.Width, .int .i64 c.Top, .int .i64 c.Key, c.Classes, c.Table, .int .u64 c.Seed]

theorem size_cfg : (Try.prog.info? 70).map (·.size) = some 17 := by kernel_rfl

/-- Block b holds a configuration. -/
structure BoxAt (w : World) (b : Nat) (c : Cfg) : Prop where
  block : ∃ t f, w.heap[b]? = some (.cells c.arr t f) ∧ f = (0, 0)
theorem BoxAt.lt {w : World} {b : Nat} {c : Cfg} (h : BoxAt w b c) : b < w.heap.size := by
  obtain ⟨_, _, h, _⟩ := h.block; exact (Array.getElem?_eq_some_iff.1 h).1
theorem BoxAt.cell {w : World} {b : Nat} {c : Cfg} (h : BoxAt w b c) (i : Nat) : w.cell? ⟨b, i, none⟩ = c.arr[i]? := by
  obtain ⟨t, f, h, _⟩ := h.block; simp [World.cell?, h]
theorem BoxAt.kept {w w' : World} {b : Nat} {c : Cfg} {r : Option Nat} (h : BoxAt w b c) (hg : w.grownBy w' r) (hr : r ≠ some b) : BoxAt w' b c := by
  obtain ⟨t, f, hb, hf⟩ := h.block
  exact ⟨t, f, (hg.block b h.lt (fun e => hr e.symm)).trans hb, hf⟩
theorem BoxAt.same {w w' : World} {b : Nat} {c : Cfg} (h : BoxAt w b c) (hg : w.grownBy w' none) : BoxAt w' b c := h.kept hg (by simp)

/-- The configuration is read out of its block. -/
theorem load_cfg {ops : Array Oper} {rest : List Oper} {o : Oper} {a : Act} {w : World} {Q : Exit → Act → World → Prop} (hgd : o.guard = none) (x : Operand) (ho : o.op = .load 70 x)
    (b : Nat) (hx : a.eval x = .pointer (some ⟨b, 0, none⟩)) (c : Cfg) (hb : BoxAt w b c) (h : wpList Try.prog ops Q rest (a.put o.dst c.val) w) : wpList Try.prog ops Q (o :: rest) a w := by
  obtain ⟨t, f, hbl, _⟩ := hb.block
  exact wpList_load_row hgd _ x ho b hx t _ f _ hbl Try.underlying70 rfl size_cfg h
theorem load_cfg_if {ops : Array Oper} {rest : List Oper} {o : Oper} {a : Act} {w : World} {Q : Exit → Act → World → Prop} (hw : Region.wanted o (yielded ops a.tmps) = true) (x : Operand) (ho : o.op = .load 70 x)
    (b : Nat) (hx : a.eval x = .pointer (some ⟨b, 0, none⟩)) (c : Cfg) (hb : BoxAt w b c) (h : wpList Try.prog ops Q rest (a.put o.dst c.val) w) : wpList Try.prog ops Q (o :: rest) a w := by
  obtain ⟨t, f, hbl, _⟩ := hb.block
  exact BigFrame.wpList_want hw fun K hK => wp_load_row _ x ho b hx t _ f _ hbl Try.underlying70 rfl size_cfg (hK _ _ h)

/-! A configuration that is read, as a rule of the walk's own (for regions that draw their order, too). -/
def readCfg (w : World) (b : Nat) : Value := match w.heap[b]? with | some (.cells cs _ _) => .agg cs | _ => undef
def isCfg (w : World) (b : Nat) : Bool := match w.heap[b]? with | some (.cells cs _ _) => cs.size == 17 | _ => false
def loadCfgS (v : Value) : Sem Next := do pure (.value (← Instr.loadAt 70 v))
theorem exec_load_cfg (ρ : Operand → Value) (dst : Option Tmp) (x : Operand) (ty : TypeId) (pos : String) (after : Array Edge) (guard : Option (Nat × Bool)) :
    execOp ρ ⟨dst, .load 70 x, ty, pos, after, guard⟩ = loadCfgS (ρ x) := rfl
theorem run_loadCfgS (w : World) (b : Nat) (h : isCfg w b = true) : (loadCfgS (.pointer (some ⟨b, 0, none⟩))).run Try.prog w = .ok (.value (readCfg w b)) w := by
  unfold isCfg at h
  cases hb : w.heap[b]? with
  | none => rw [hb] at h; cases h
  | some o =>
    cases o with
    | cells cs t f =>
      rw [hb] at h
      have hs : cs.size = 17 := by simpa using h
      have := run_loadVar_row (P := Try.prog) w b t 70 cs f _ hb Try.underlying70 rfl (by rw [size_cfg, hs])
      simp only [loadCfgS, Instr.loadAt, Instr.sureAddr, Sem.run_bind, Sem.run_pure, Result.andThen_ok, this, readCfg, hb]
    | _ => rw [hb] at h; cases h
theorem BoxAt.is {w : World} {b : Nat} {c : Cfg} (h : BoxAt w b c) : isCfg w b = true := by
  obtain ⟨t, f, h, _⟩ := h.block; simp [isCfg, h]
theorem BoxAt.reads {w : World} {b : Nat} {c : Cfg} (h : BoxAt w b c) : readCfg w b = c.val := by
  obtain ⟨t, f, h, _⟩ := h.block; simp [readCfg, h]

@[go_sem] theorem isCfg_drew (w : World) (b : Nat) : isCfg w.drew b = isCfg w b := rfl
@[go_sem] theorem readCfg_drew (w : World) (b : Nat) : readCfg w.drew b = readCfg w b := rfl
@[go_sem] theorem isCfg_drewN (w : World) (n b : Nat) : isCfg (w.drewN n) b = isCfg w b := rfl
@[go_sem] theorem readCfg_drewN (w : World) (n b : Nat) : readCfg (w.drewN n) b = readCfg w b := rfl

open Go.Sort in
/-- What is known of the block in every world that has grown out of this one. -/
theorem BoxAt.re {w : World} {b : Nat} {c : Cfg} (h : BoxAt w b c) : (∀ d os, isCfg (grow (redrawn w d) os) b = true) ∧ (∀ d os, readCfg (grow (redrawn w d) os) b = c.val) ∧ (∀ d os i, (grow (redrawn w d) os).cell? ⟨b, i, none⟩ = c.arr[i]?) :=
  ⟨fun d os => (h.same (grown_re w d os)).is, fun d os => (h.same (grown_re w d os)).reads, fun d os => (h.same (grown_re w d os)).cell⟩

theorem run_box_cfg (c : Cfg) (w : World) : (Instr.box 70 c.val).run Try.prog w = .ok (.pointer (some ⟨w.heap.size, 0, none⟩)) (w.alloc (.cells c.arr 70)) := by kernel_rfl

/-- A configuration is laid into a block of its own: what is known then. -/
theorem box_cfg {ops : Array Oper} {rest : List Oper} {o : Oper} {a : Act} {w : World} {Q : Exit → Act → World → Prop} (hgd : o.guard = none) (x : Operand) (ho : o.op = .box 70 x)
    (c : Cfg) (hx : a.eval x = c.val) (h : ∀ w', BoxAt w' w.heap.size c → w.grownBy w' none → w.heap.size < w'.heap.size → wpList Try.prog ops Q rest (a.put o.dst (.pointer (some ⟨w.heap.size, 0, none⟩))) w') : wpList Try.prog ops Q (o :: rest) a w :=
  wpList_plain hgd fun _ hK => by
    unfold Oper.wp execOp
    simp only [ho, hx, run_box_cfg, Sem.run_bind, Sem.run_pure, Result.andThen_ok]
    exact hK _ _ (h _ ⟨_, _, heap_alloc_new w _, rfl⟩ (World.grownBy_alloc w _ _) (by simp))

theorem BoxAt.free {w : World} {b : Nat} {c : Cfg} (h : BoxAt w b c) (i : Nat) : w.frozen? ⟨b, i, none⟩ = false := by
  obtain ⟨t, f, h, rfl⟩ := h.block
  exact frozen_of_row w b i _ t h
/-- A field is written. -/
theorem BoxAt.setF {w : World} {b : Nat} {c c' : Cfg} (h : BoxAt w b c) (o : Nat) (v : Value) (hc : c.arr.setIfInBounds o v = c'.arr) : BoxAt (w.setCell ⟨b, o, none⟩ v) b c' := by
  obtain ⟨t, f, h, rfl⟩ := h.block
  exact ⟨t, _, by rw [heap_set v h, hc], rfl⟩

def Cfg.zero : Cfg := ⟨0, 0, 0, 0, 0, 0, 0, 0, 0, 0, 0, 0, 0, 0, .slice none 0 0, .slice none 0 0, 0⟩
theorem run_alloc_cfg (w : World) : (Instr.alloc 70 true (.tuple #[])).run Try.prog w = .ok (.pointer (some ⟨w.heap.size, 0, none⟩)) (w.alloc (.cells Cfg.zero.arr 70)) := by kernel_rfl

/-- A variable of the type comes to be. -/
theorem alloc_cfg {ops : Array Oper} {rest : List Oper} {o : Oper} {a : Act} {w : World} {Q : Exit → Act → World → Prop} (hgd : o.guard = none) (ho : o.op = .alloc 70)
    (h : ∀ w', BoxAt w' w.heap.size Cfg.zero → w.grownBy w' none → w.heap.size < w'.heap.size → wpList Try.prog ops Q rest (a.put o.dst (.pointer (some ⟨w.heap.size, 0, none⟩))) w') : wpList Try.prog ops Q (o :: rest) a w :=
  wpList_plain hgd fun _ hK => by
    unfold Oper.wp execOp
    simp only [ho, run_alloc_cfg, Sem.run_bind, Sem.run_pure, Result.andThen_ok]
    exact hK _ _ (h _ ⟨_, _, heap_alloc_new w _, rfl⟩ (World.grownBy_alloc w _ _) (by simp))

/-- A whole configuration is written. -/
theorem store_cfg {ops : Array Oper} {rest : List Oper} {o : Oper} {a : Act} {w : World} {Q : Exit → Act → World → Prop} (hgd : o.guard = none) (x y : Operand) (ho : o.op = .store 70 x y)
    (b : Nat) (hx : a.eval x = .pointer (some ⟨b, 0, none⟩)) (c : Cfg) (hy : a.eval y = c.val) (h1 : c.Classes.oneCell' = true) (h2 : c.Table.oneCell' = true) (c0 : Cfg) (hb : BoxAt w b c0)
    (h : ∀ w', BoxAt w' b c → w.grownBy w' (some b) → wpList Try.prog ops Q rest (a.put o.dst undef) w') : wpList Try.prog ops Q (o :: rest) a w := by
  obtain ⟨t, f, hbl, rfl⟩ := hb.block
  have hst := run_storeCells_at Try.prog b 0 t c.arr.toList 0 c0.arr w hbl (by simp) (by intro v hv; simp at hv; rcases hv with rfl | rfl | rfl | rfl | rfl | rfl | rfl | rfl | rfl | rfl | rfl | rfl | rfl | rfl | rfl | rfl | rfl <;> first | rfl | assumption)
  have hz : (sizeOf 70).run Try.prog w = .ok 17 w := by
    have := size_cfg
    cases hq : Try.prog.info? 70 with
    | none => rw [hq] at this; simp at this
    | some i => rw [hq] at this; simp [sizeOf, typeInfo, hq]; simpa using this
  refine wpList_plain hgd fun _ hK => ?_
  unfold Oper.wp execOp
  simp only [ho, hx, hy, Instr.storeAt, Instr.sureAddr, storeVar, Sem.run_bind, Sem.run_pure, Result.andThen_ok, hz]
  simp only [Value.cells, List.size_toArray, List.length_cons, List.length_nil, Nat.reduceAdd, ne_eq, not_true_eq_false, if_false]
  rw [hst]
  refine hK _ _ (h _ ⟨t, (0, 0), ?_, rfl⟩ ⟨rfl, rfl, rfl, by simp, fun k _ hk => setRow_other w b k _ (fun e => hk (by simp [e]))⟩)
  rw [setRow_heap w b c0.arr _ t _ hbl]
  simp

/-- A block as it was made is read as it was made. -/
theorem boxed {w w' : World} {cs : Array Value} {t : TypeId} {f : Nat × Nat} (h : (w.alloc (.cells cs t f)).grownBy w' none) (o : Nat) : w'.cell? ⟨w.heap.size, o, none⟩ = cs[o]? := by
  have := h.block w.heap.size (by simp) (by simp)
  rw [heap_alloc_new] at this
  simp [World.cell?, this]

/-- The numbers of a configuration that is valid. -/
structure CfgNums (c : Cfg) : Prop where
  length : 1 ≤ c.Length ∧ c.Length ≤ 1048576
  lateness : 0 ≤ c.Lateness ∧ c.Lateness ≤ 1048576
  windows : 1 ≤ c.Windows ∧ c.Windows ≤ 8
  shards : 1 ≤ c.Shards ∧ c.Shards ≤ 8
  spread : 1 ≤ c.Spread ∧ c.Spread ≤ c.Shards
  queue : 1 ≤ c.Queue ∧ c.Queue ≤ 64
  mode : c.Mode = 1 ∨ c.Mode = 2
  slots : 1 ≤ c.Slots ∧ c.Slots ≤ 64
  exact : 0 ≤ c.Exact ∧ c.Exact ≤ 32
  promote : 0 ≤ c.Promote ∧ c.Promote < 18446744073709551616
  depth : 1 ≤ c.Depth ∧ c.Depth ≤ 4
  width : 1 ≤ c.Width ∧ c.Width ≤ 256
  top : 1 ≤ c.Top ∧ c.Top ≤ 64
  key : 1 ≤ c.Key ∧ c.Key ≤ 255
  seed : 0 ≤ c.Seed ∧ c.Seed < 18446744073709551616

/-- The memory of a configuration: its size classes and its words. -/
structure CfgMem (c : Cfg) (l : List (Int × Int)) (t : List Int) (w : World) : Prop where
  classes : RdL clsF 2 w c.Classes l
  table : RdL wordF 1 w c.Table t
  tlen : t.length = 16
  twords : WordsOk t
theorem CfgMem.same {c : Cfg} {l : List (Int × Int)} {t : List Int} {w w' : World} (h : CfgMem c l t w) (hg : w.grownBy w' none) : CfgMem c l t w' :=
  ⟨h.classes.same hg, h.table.same hg, h.tlen, h.twords⟩

/-- The size classes suit the numbers. -/
structure CfgCls (c : Cfg) (l : List (Int × Int)) : Prop where
  ok : ClsOk l
  last : ∀ p, l[l.length - 1]? = some p → 32 ≤ p.1 ∧ 8 * c.Width ≤ p.1 ∧ c.Key ≤ p.1

set_option maxHeartbeats 400000 in
theorem rclock_c (c : Cfg) (w : World) (hn : CfgNums c) :
    Calls Try.prog 95 #[c.val] w fun e w' => e = .returned (.int .i64 0) ∧ w.grownBy w' none := by
  obtain ⟨h1, h2⟩ := hn.length
  obtain ⟨h3, h4⟩ := hn.lateness
  obtain ⟨h5, h6⟩ := hn.windows
  go_enter Try.func95, Try.ntmps95
  go_wp2
  go_ret
  exact ⟨rfl, World.grownBy_alloc w _ _⟩

set_option maxHeartbeats 400000 in
theorem routes_c (c : Cfg) (l : List (Int × Int)) (t : List Int) (w : World) (hn : CfgNums c) (hm : CfgMem c l t w) :
    Calls Try.prog 96 #[c.val] w fun e w' => e = .returned (.int .i64 0) ∧ w.grownBy w' none := by
  obtain ⟨h1, h2⟩ := hn.shards
  obtain ⟨h3, h4⟩ := hn.spread
  go_enter Try.func96, Try.ntmps96
  go_wp2_with (go_at_call 113; refine (table_c _ t _ (hm.table.same (World.grownBy_alloc w _ _)) hm.tlen).mono ?_; rintro e w' ⟨rfl, rfl⟩)
  go_ret
  exact ⟨rfl, World.grownBy_alloc w _ _⟩
end Go.Proofs.Ytniokdflljchgaa
