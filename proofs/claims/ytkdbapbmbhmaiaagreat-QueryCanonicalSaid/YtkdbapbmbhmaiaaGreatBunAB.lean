/- Several texts in one file; each begins with a comment that says what is proved in it. -/
import Derived.Test.YtkdbapbmbhmaiaaGreatBunAA
import Derived.StillTailTactics
import Derived.Deep.CutBlock
import Derived.Deep.RegionLaw

/- What the references say of a valid configuration: Config, Tracked. -/
namespace Go.Proofs.YtkdbapbmbhmaiaaGreat
open Go.RowKit

@[go_sem] theorem run_max_int4 {P : Program} (w : World) (ts : Array TypeId) (t : TypeId) (k k' k'' k3 : IntKind) (x y z u : Int) : (Builtin.max_ ts t #[.int k x, .int k' y, .int k'' z, .int k3 u]).run P w = .ok (.int k (max (max (max x y) z) u)) w := by
  have e : ∀ a b : Int, (if b > a then b else a) = max a b := fun a b => by
    rw [Int.max_def]; split <;> split <;> omega
  simp [Builtin.max_, Builtin.max2, e]

set_option maxHeartbeats 1000000 in
set_option maxRecDepth 100000 in
theorem rconfig_c (c : Cfg) (l : List (Int × Int)) (t : List Int) (w : World) (hn : CfgNums c) (hm : CfgMem c l t w) (hc : CfgCls c l) :
    Calls Tryz.prog 37 #[c.val] w fun e w' => e = .returned (.int .i64 0) ∧ w.grownBy w' none := by
  obtain ⟨a1, a2⟩ := hn.queue
  obtain ⟨a3, a4⟩ := hn.slots
  obtain ⟨a5, a6⟩ := hn.exact
  obtain ⟨a7, a8⟩ := hn.depth
  obtain ⟨a9, a10⟩ := hn.width
  obtain ⟨a11, a12⟩ := hn.top
  obtain ⟨a13, a14⟩ := hn.key
  have b1 : decide (c.Queue < 1) = false := decide_eq_false (by omega)
  have b2 : decide (64 < c.Queue) = false := decide_eq_false (by omega)
  have b3 : decide (c.Slots < 1) = false := decide_eq_false (by omega)
  have b4 : decide (64 < c.Slots) = false := decide_eq_false (by omega)
  have b5 : decide (c.Exact < 0) = false := decide_eq_false (by omega)
  have b6 : decide (32 < c.Exact) = false := decide_eq_false (by omega)
  have b7 : decide (c.Depth < 1) = false := decide_eq_false (by omega)
  have b8 : decide (4 < c.Depth) = false := decide_eq_false (by omega)
  have b9 : decide (c.Width < 1) = false := decide_eq_false (by omega)
  have b10 : decide (256 < c.Width) = false := decide_eq_false (by omega)
  have b11 : decide (c.Top < 1) = false := decide_eq_false (by omega)
  have b12 : decide (64 < c.Top) = false := decide_eq_false (by omega)
  have b13 : decide (c.Key < 1) = false := decide_eq_false (by omega)
  have b14 : decide (255 < c.Key) = false := decide_eq_false (by omega)
  have hp := hc.ok.pos
  obtain ⟨g, off, cap, hv, hgl, hcl⟩ := hm.classes.cell clsF_len hp
  obtain ⟨p, hlast⟩ : ∃ p, l[l.length - 1]? = some p := ⟨l[l.length - 1], List.getElem?_eq_getElem (by omega)⟩
  have c0 : w.cell? ⟨g, off + (l.length - 1) * 2, none⟩ = some (.int .i64 p.1) := hcl _ p hlast 0 _ rfl
  obtain ⟨q1, q2, q3⟩ := hc.last p hlast
  have e1 : ((l.length : Int) - 1).toNat = l.length - 1 := by omega
  have e2 : (1 : Int) ≤ l.length := by omega
  have e3 : (0 : Int) ≤ (l.length : Int) - 1 := by omega
  have e4 : 1 ≤ l.length := hp
  have e5 : l.length ≤ 8 := hc.ok.len
  have b15 : decide (p.1 < max (max (max (8 * c.Width) 32) 24) c.Key) = false := decide_eq_false (by omega)
  have Hn := Lib.hid hn
  have Hm := Lib.hid hm
  have Hc := Lib.hid hc
  have Hv := Lib.hid hv
  have Hmode := Lib.hid hn.mode
  have hpos := Lib.hid hp
  clear hn hm hc hcl hlast hv a1 a2 a3 a4 a5 a6 a7 a8 a11 a12
  have am : ∃ m1 m2, (c.Mode != 1) = m1 ∧ (c.Mode != 2) = m2 ∧ (m1 && m2) = false := by
    refine ⟨_, _, rfl, rfl, ?_⟩
    rcases Hmode.out with h | h <;> simp [h]
  obtain ⟨m1, m2, am1, am2, am3⟩ := am
  cases m1 <;> cases m2
  case true.true => simp at am3
  all_goals
    clear am3
    go_enter Tryz.func37, Tryz.ntmps37
    go_upto_region 1 with (refine box_cfg rfl _ rfl c rfl ?_; intro w1 B1 G1 z1)
    simp only [List.append_eq, List.cons_append, List.nil_append]
    go_wp2_with (first | (refine box_cfg rfl _ rfl c rfl ?_; intro w1 B1 G1 z1) | (refine load_cfg rfl _ rfl _ rfl c (by assumption) ?_) | (refine load_cfg_if rfl _ rfl _ rfl c (by assumption) ?_) | (go_at_call 54; refine (rclock_c c _ Hn.out).mono ?_; rintro e w2 ⟨rfl, G2⟩; have B2 := B1.same G2; have K2 := grownBy_trans G1 G2; clear B1 G1 G2) | (go_at_call 55; refine (routes_c c l t _ Hn.out (Hm.out.same K2)).mono ?_; rintro e w3 ⟨rfl, G3⟩; have B3 := B2.same G3; have K3 := grownBy_trans K2 G3; have hb3 := B3.cell; clear B2 G3 K2) | (go_at_call 56; refine (classes_c _ l _ (Hm.out.same K3).classes Hc.out.ok).mono ?_; rintro e w4 ⟨rfl, G4⟩; have hb4 := (B3.same G4).cell; have K4 := Lib.hid (grownBy_trans K3 G4); simp only [Cfg.arr, Hv.out] at hb4; have hc4 := ((grownBy_cells K4.out).1 _ (off + (l.length - 1) * 2) hgl (by simp)).trans c0; clear hb3 B3 G4 K3))
    go_ret
    exact ⟨rfl, K4.out⟩

set_option maxHeartbeats 1000000 in
theorem tracked_c (c : Cfg) (l : List (Int × Int)) (t : List Int) (w : World) (hn : CfgNums c) (hm : CfgMem c l t w) (hc : CfgCls c l) :
    Calls Tryz.prog 39 #[c.val] w fun e w' => e = .returned (.int .i64 (c.Shards * c.Windows * (c.Slots + c.Exact))) ∧ w.grownBy w' none := by
  obtain ⟨a1, a2⟩ := hn.shards
  obtain ⟨a3, a4⟩ := hn.windows
  obtain ⟨a5, a6⟩ := hn.slots
  obtain ⟨a7, a8⟩ := hn.exact
  have m1 : c.Shards * c.Windows ≤ 64 := by
    have := Int.mul_le_mul a2 a4 (by omega) (by omega); simpa using this
  have m0 : 0 ≤ c.Shards * c.Windows := Int.mul_nonneg (by omega) (by omega)
  have m2 : c.Shards * c.Windows * (c.Slots + c.Exact) ≤ 6144 := by
    have := Int.mul_le_mul m1 (show c.Slots + c.Exact ≤ 96 by omega) (by omega) (by omega); simpa using this
  have m3 : 0 ≤ c.Shards * c.Windows * (c.Slots + c.Exact) := Int.mul_nonneg m0 (by omega)
  have Hn := Lib.hid hn
  have Hm := Lib.hid hm
  have Hc := Lib.hid hc
  clear hn hm hc
  go_enter Tryz.func39, Tryz.ntmps39
  go_wp2_with (first | (refine box_cfg rfl _ rfl c rfl ?_; intro w1 B1 G1 z1) | (refine load_cfg rfl _ rfl _ rfl c (by assumption) ?_) | (go_at_call 37; refine (rconfig_c c l t _ Hn.out (Hm.out.same G1) Hc.out).mono ?_; rintro e w2 ⟨rfl, G2⟩; have hb2 := (BoxAt.same (by assumption) G2).cell))
  go_ret
  exact ⟨rfl, grownBy_trans G1 G2⟩
end Go.Proofs.YtkdbapbmbhmaiaaGreat

/- A slice of ints that the call itself has made: a block of its own. -/
namespace Go.Proofs.YtkdbapbmbhmaiaaGreat
open Go.RowKit

def intCells (l : List Int) : Array Value := (l.map (fun x => Value.int .i64 x)).toArray

theorem info_int : (Tryz.prog.info? 3).map (fun i => (i.zero, i.size, i.bytes)) = some (some (.int .i64 0), 1, 8) := by kernel_rfl

theorem made_ints (n : Nat) : madeCells #[Value.int .i64 0] n = intCells (List.replicate n 0) := by
  unfold madeCells intCells
  apply Array.ext
  · simp
  · intro i h1 h2
    simp [Nat.mod_one]

theorem make_ints (n : Nat) (hn : n ≤ 1000000) (w : World) :
    (Instr.makeSlice 65 (.int .i64 n) (.int .i64 n)).run Tryz.prog w = .ok (.slice (some ⟨w.heap.size, 0, none⟩) n n) (w.alloc (.cells (intCells (List.replicate n 0)) 3)) := by
  obtain ⟨i0, hi, hz0, hz1, hz2⟩ := info_parts info_int
  have := run_make (P := Tryz.prog) w 65 3 i0 (.int .i64 0) Tryz.underlying65 hi hz0 .i64 .i64 n n (by omega) (by omega) (by rw [hz2]; omega) (by omega)
  rw [this, hz1]
  simp only [Int.toNat_natCast, Nat.mul_one, Value.cells, made_ints]

def OutAt (w : World) (B : Nat) (out : List Int) : Prop := w.heap[B]? = some (.cells (intCells out) 3)

theorem OutAt.new (w : World) (n : Nat) : OutAt (w.alloc (.cells (intCells (List.replicate n 0)) 3)) w.heap.size (List.replicate n 0) := heap_alloc_new w _
theorem OutAt.lt {w : World} {B : Nat} {out : List Int} (h : OutAt w B out) : B < w.heap.size := (Array.getElem?_eq_some_iff.1 h).1
theorem OutAt.kept {w w' : World} {B : Nat} {out : List Int} {r : Option Nat} (h : OutAt w B out) (hg : w.grownBy w' r) (hr : r ≠ some B) : OutAt w' B out :=
  (hg.block B h.lt (fun e => hr e.symm)).trans h
theorem OutAt.cell {w : World} {B : Nat} {out : List Int} (h : OutAt w B out) {k : Nat} (hk : k < out.length) : w.cell? ⟨B, k, none⟩ = some (.int .i64 (out.getD k 0)) := by
  unfold OutAt at h
  simp [World.cell?, h, intCells, List.getElem?_eq_getElem hk, List.getD_eq_getElem?_getD]
theorem OutAt.free {w : World} {B : Nat} {out : List Int} (h : OutAt w B out) (k : Nat) : w.frozen? ⟨B, k, none⟩ = false := by
  unfold OutAt at h
  simp [World.frozen?, h]
theorem OutAt.set {w : World} {B : Nat} {out : List Int} (h : OutAt w B out) (k : Nat) (x : Int) : OutAt (w.setCell ⟨B, k, none⟩ (.int .i64 x)) B (out.set k x) := by
  unfold OutAt
  rw [heap_set _ h]
  simp [intCells, List.map_set]
theorem OutAt.drewN {w : World} {B : Nat} {out : List Int} (h : OutAt w B out) (n : Nat) : OutAt (w.drewN n) B out := h
theorem OutAt.rd {w : World} {B : Nat} {out : List Int} (h : OutAt w B out) (hl : out.length ≤ 9223372036854775807) : RdL intF 1 w (.slice (some ⟨B, 0, none⟩) out.length out.length) out := by
  refine ⟨by rw [length_cellsOf _ 1 intF_len], hl, .inr ⟨B, 0, out.length, rfl, h.lt, fun j u hu => ?_⟩⟩
  have e : cellsOf intF out = out.map (fun x => Value.int .i64 x) := cells_int out
  rw [e] at hu
  unfold OutAt at h
  simp only [World.cell?, h, intCells, Nat.zero_add]
  simpa using hu
end Go.Proofs.YtkdbapbmbhmaiaaGreat

/- The demand of a configuration, as it is specified: what it leaves, its numbers not said. -/
namespace Go.Proofs.YtkdbapbmbhmaiaaGreat
open Go.RowKit

/-- What Demand leaves (its numbers are not said here). -/
def DemandPost (n : Nat) (w : World) (e : Ending) (w' : World) : Prop :=
  ∃ B out, e = .returned (.tuple #[.slice (some ⟨B, 0, none⟩) n n, .int .i64 0]) ∧ w.heap.size ≤ B ∧ OutAt w' B out ∧ out.length = n ∧ w.grownBy w' none

structure DemSt (c : Cfg) (n : Nat) (w : World) (B : Nat) (wx : World) : Prop where
  box : BoxAt wx w.heap.size c
  out : ∃ out, OutAt wx B out ∧ out.length = n
  grown : w.grownBy wx none
  lt : w.heap.size < B
theorem DemSt.set {c : Cfg} {n : Nat} {w : World} {B : Nat} {wx : World} (h : DemSt c n w B wx) (k : Nat) (x : Int) : DemSt c n w B (wx.setCell ⟨B, k, none⟩ (.int .i64 x)) := by
  obtain ⟨out, ho, hl⟩ := h.out
  refine ⟨h.box.kept (grownBy_set (grownBy_refl wx _) k _) (by have := h.lt; simp; omega), ⟨_, ho.set k x, by simpa using hl⟩, grownBy_setNew h.grown (Nat.le_of_lt h.lt) _, h.lt⟩
theorem DemSt.drew {c : Cfg} {n : Nat} {w : World} {B : Nat} {wx : World} (h : DemSt c n w B wx) : DemSt c n w B wx.drew := ⟨⟨h.box.block⟩, h.out, grownBy_drew h.grown, h.lt⟩
theorem DemSt.same {c : Cfg} {n : Nat} {w : World} {B : Nat} {wx wy : World} (h : DemSt c n w B wx) (hg : wx.grownBy wy none) : DemSt c n w B wy := by
  obtain ⟨out, ho, hl⟩ := h.out
  exact ⟨h.box.same hg, ⟨out, ho.kept hg (by simp), hl⟩, grownBy_trans h.grown hg, h.lt⟩

theorem DemSt.cell {c : Cfg} {n : Nat} {w : World} {B : Nat} {wx : World} (h : DemSt c n w B wx) {k : Nat} (hk : k < n) : ∃ x, wx.cell? ⟨B, k, none⟩ = some (.int .i64 x) := by
  obtain ⟨out, ho, hl⟩ := h.out
  exact ⟨_, ho.cell (by omega)⟩
theorem DemSt.free {c : Cfg} {n : Nat} {w : World} {B : Nat} {wx : World} (h : DemSt c n w B wx) (k : Nat) : wx.frozen? ⟨B, k, none⟩ = false := by
  obtain ⟨out, ho, hl⟩ := h.out
  exact ho.free k
theorem DemSt.bLt {c : Cfg} {n : Nat} {w : World} {B : Nat} {wx : World} (h : DemSt c n w B wx) : B < wx.heap.size := by
  obtain ⟨out, ho, hl⟩ := h.out
  exact ho.lt
theorem keepS {c : Cfg} {n : Nat} {w : World} {B k : Nat} {x : Value} {w1 w2 : World} (hg : w1.grownBy w2 none) (h2 : DemSt c n w B w1) (h1 : w1.cell? ⟨B, k, none⟩ = some x) :
    w2.cell? ⟨B, k, none⟩ = some x ∧ w2.frozen? ⟨B, k, none⟩ = false ∧ isCfg w2 w.heap.size = true ∧ readCfg w2 w.heap.size = c.val ∧ DemSt c n w B w2 :=
  ⟨((grownBy_cells hg).1 B k h2.bLt (by simp)).trans h1, (h2.same hg).free k, (h2.same hg).box.is, (h2.same hg).box.reads, h2.same hg⟩

theorem keepH {c : Cfg} {n : Nat} {w : World} {B k : Nat} {x : Value} {w1 w2 : World} (hg : w1.grownBy w2 none)
    (h : w1.cell? ⟨B, k, none⟩ = some x ∧ w1.frozen? ⟨B, k, none⟩ = false ∧ isCfg w1 w.heap.size = true ∧ readCfg w1 w.heap.size = c.val ∧ DemSt c n w B w1) :
    w2.cell? ⟨B, k, none⟩ = some x ∧ w2.frozen? ⟨B, k, none⟩ = false ∧ isCfg w2 w.heap.size = true ∧ readCfg w2 w.heap.size = c.val ∧ DemSt c n w B w2 :=
  keepS hg h.2.2.2.2 h.1
theorem grownH {c : Cfg} {n : Nat} {w : World} {B : Nat} {w1 : World} {p q r s : Prop} (h : p ∧ q ∧ r ∧ s ∧ DemSt c n w B w1) : w.grownBy w1 none := h.2.2.2.2.grown

attribute [local go_sem ↓] exec_load_cfg
attribute [local go_sem] run_loadCfgS

set_option maxHeartbeats 1000000 in
set_option maxRecDepth 100000 in
theorem demand_c (c : Cfg) (l : List (Int × Int)) (t : List Int) (w : World) (hn : CfgNums c) (hm : CfgMem c l t w) (hc : CfgCls c l) :
    Calls Tryz.prog 20 #[c.val] w (DemandPost l.length w) := by
  obtain ⟨a11, a12⟩ := hn.width
  have hp : 0 < l.length := hc.ok.pos
  have hp8 : l.length ≤ 8 := hc.ok.len
  obtain ⟨g, off, cap, hv, hgl, hcl⟩ := hm.classes.cell clsF_len hp
  have k1 := fitI_lt (8 * c.Width) hp
  have k2 := fitI_lt 32 hp
  have k3 := fitI_lt 24 hp
  have Hn := Lib.hid hn
  have Hm := Lib.hid hm
  have Hc := Lib.hid hc
  have Hv := Lib.hid hv
  have HR : Hid (∀ w', w.grownBy w' none → RdL clsF 2 w' (.slice (some ⟨g, off, none⟩) l.length cap) l) := Lib.hid fun w' hg => by rw [← hv]; exact (hm.same hg).classes
  have hmk := make_ints l.length (by omega)
  clear hn hm hc hcl hv
  go_enter Tryz.func20, Tryz.ntmps20
  go_upto_region 6 with (first | (refine box_cfg rfl _ rfl c rfl ?_; intro w1 B1 G1 z1) | (refine load_cfg rfl _ rfl _ rfl c (by assumption) ?_) | (go_at_call 37; refine (rconfig_c c l t _ Hn.out (Hm.out.same G1) Hc.out).mono ?_; rintro e w2 ⟨rfl, G2⟩; have B2 := B1.same G2; have K2 := grownBy_trans G1 G2; have hb2 := B2.cell; simp only [Cfg.arr, Hv.out] at hb2; have z2 := Nat.lt_of_lt_of_le z1 G2.size; clear G1 G2 B1 z1) | (go_at_call 38; refine (fit_c _ l _ _ (HR.out _ (grownBy_trans K2 (World.grownBy_alloc w2 _ _)))).mono ?_; rintro e w3 ⟨rfl, G3⟩; have B3 := (B2.same (World.grownBy_alloc w2 _ _)).same G3; have O3 := Lib.hid ((OutAt.new w2 l.length).kept G3 (by simp)); have K3 := grownBy_trans (grownBy_trans K2 (World.grownBy_alloc w2 _ _)) G3; have hb3 := B3.cell; simp only [Cfg.arr, Hv.out] at hb3; clear hb2 G3 B2))
  obtain ⟨B, hB⟩ : ∃ B, B = w2.heap.size := ⟨_, rfl⟩
  have S3 : DemSt c l.length w B w3 := ⟨B3, ⟨_, by rw [hB]; exact O3.out, by simp⟩, K3, by rw [hB]; exact z2⟩
  have oc := (O3.out.cell (k := fitI l (8 * c.Width)) (by simpa using k1))
  have of := O3.out.free (fitI l (8 * c.Width))
  have ok : (0 : Int) ≤ (fitI l (8 * c.Width) : Nat) := by omega
  have ok' : ((fitI l (8 * c.Width) : Nat) : Int) < l.length := by omega
  rw [← hB] at oc of
  rw [← hB]
  clear hmk B3 O3 K3 hB
  go_cut [5] (fun s5 wx => s5 = .slice (some ⟨B, 0, none⟩) l.length l.length ∧ DemSt c l.length w B wx)
  case first =>
    go_still_tail 14, (by kernel_rfl)
    go_wp2_with fail
    go_meet
    exact ⟨rfl, S3.drew.set _ _⟩
  case rest =>
    obtain ⟨rfl, S4⟩ := hcut
    clear hb3
    have hb4 := S4.box.cell
    simp only [Cfg.arr, Hv.out] at hb4
    go_upto_region 8 with (go_at_call 38; refine (fit_c _ l _ _ (HR.out _ S4.grown)).mono ?_; rintro e w5 ⟨rfl, G5⟩; have S5 := S4.same G5; clear G5 hb4)
    go_cut [5] (fun s5 wx => s5 = .slice (some ⟨B, 0, none⟩) l.length l.length ∧ DemSt c l.length w B wx)
    case first =>
      obtain ⟨x5, hx5⟩ := S5.cell k2
      have hk2 : (0 : Int) ≤ (fitI l 32 : Nat) := by omega
      have hk2' : ((fitI l 32 : Nat) : Int) < l.length := by omega
      obtain ⟨r1, r2, r3⟩ := S5.box.re
      have r4 := cell_regrown hx5
      have r5 := call_re (w := w5) fun w' hg => tracked_c c l t w' Hn.out (Hm.out.same (grownBy_trans S5.grown hg)) Hc.out
      refine Tail.wp_region_tail_grown 8 (by kernel_rfl) (by kernel_rfl) ?_
      simp only [List.take, List.drop]
      repeat (go_big_quiet_step (exact r5 _ _))
      refine wpQuiet_nil ?_
      rintro _ ⟨⟨d5, os5⟩, rfl⟩
      have S5' := S5.same (grown_re w5 d5 os5)
      have hx5' := S5'.cell k2
      have hf5 := S5'.free (fitI l 32)
      clear r1 r2 r3 r4 r5
      generalize Go.Sort.grow (redrawn w5 d5) os5 = w6 at *
      obtain ⟨x6, hx6⟩ := hx5'
      go_wp2_with fail
      go_meet
      exact ⟨rfl, DemSt.set (by assumption) _ _⟩
    case rest =>
      obtain ⟨rfl, S6⟩ := hcut
      have hb6 := S6.box.cell
      simp only [Cfg.arr, Hv.out] at hb6
      go_upto_region 10 with (go_at_call 38; refine (fit_c _ l _ _ (HR.out _ S6.grown)).mono ?_; rintro e w7 ⟨rfl, G7⟩; have S7 := S6.same G7; clear G7 hb6)
      go_cut [5] (fun s5 wx => s5 = .slice (some ⟨B, 0, none⟩) l.length l.length ∧ DemSt c l.length w B wx)
      case first =>
        obtain ⟨x7, hx7⟩ := S7.cell k3
        have hk3 : (0 : Int) ≤ (fitI l 24 : Nat) := by omega
        have hk3' : ((fitI l 24 : Nat) : Int) < l.length := by omega
        have hf7 := S7.free (fitI l 24)
        have hb7 := S7.box.cell
        go_still_tail 11, (by kernel_rfl)
        go_wp2_with fail
        go_meet
        exact ⟨rfl, S7.drew.set _ _⟩
      case rest =>
        obtain ⟨rfl, S8⟩ := hcut
        obtain ⟨y1, y2⟩ := Hn.out.key
        go_wp2_with fail
        go_loopw [12, 13] (fun s12 s13 wr => ∃ (k : Nat) (la : Int), s13 = .int .i64 k ∧ s12 = .int .i64 la ∧ (k : Int) ≤ c.Key + 1 ∧ DemSt c l.length w B wr) (fun _ s13 _ => (c.Key + 1 - intOf s13).toNat)
        case atStart => exact ⟨1, -1, rfl, rfl, by omega, S8⟩
        case round =>
          obtain ⟨k, la, rfl, rfl, hk, S9⟩ := hrel
          have hb9 := S9.box.cell
          simp only [Cfg.arr, Hv.out] at hb9
          have kk := fitI_lt (l := l) (k : Int) hp
          by_cases hlt : (k : Int) ≤ c.Key
          · cases hq : ((fitI l (k : Int) : Int) != la)
            · go_wp2_with (go_at_call 38; refine (fit_c _ l _ _ (HR.out _ S9.grown)).mono ?_; rintro e w10 ⟨rfl, G10⟩)
              exact ⟨⟨k + 1, la, by go_num, rfl, by omega, S9.same G10⟩, by simp [intOf]; omega⟩
            · go_wp2_with (go_at_call 38; refine (fit_c _ l _ _ (HR.out _ S9.grown)).mono ?_; rintro e w10 ⟨rfl, G10⟩; have S10 := S9.same G10; clear G10 hb9)
              obtain ⟨x10, hx10⟩ := S10.cell kk
              have hk4 : (0 : Int) ≤ (fitI l (k : Int) : Nat) := by omega
              have hk4' : ((fitI l (k : Int) : Nat) : Int) < l.length := by omega
              obtain ⟨r1, r2, r3⟩ := S10.box.re
              have r4 := cell_regrown hx10
              have r5 := call_re (w := w10) fun w' hg => tracked_c c l t w' Hn.out (Hm.out.same (grownBy_trans S10.grown hg)) Hc.out
              refine Tail.wp_region_tail_grown 14 (by kernel_rfl) (by kernel_rfl) ?_
              simp only [List.take, List.drop]
              repeat (go_big_quiet_step (exact r5 _ _))
              refine wpQuiet_nil ?_
              rintro _ ⟨⟨d5, os5⟩, rfl⟩
              have S10' := S10.same (grown_re w10 d5 os5)
              have hx10' := S10'.cell kk
              have hf10 := S10'.free (fitI l (k : Int))
              clear r1 r2 r3 r4 r5 hx10
              generalize Go.Sort.grow (redrawn w10 d5) os5 = w11 at *
              obtain ⟨x11, hx11⟩ := hx10'
              go_wp2_with fail
              refine ⟨⟨k + 1, _, by go_num, rfl, by omega, S10'.set _ _⟩, ?_⟩
              simp [intOf]; omega
          · go_wp2_with fail
            go_ret2
            obtain ⟨out, ho, hl⟩ := S9.out
            exact ⟨B, out, rfl, Nat.le_of_lt S9.lt, ho, hl, S9.grown⟩
end Go.Proofs.YtkdbapbmbhmaiaaGreat

/- The configurations that the deck makes. -/
namespace Go.Proofs.YtkdbapbmbhmaiaaGreat
open Go.RowKit

set_option maxHeartbeats 400000 in
theorem new_c (sv : Value) (n : Nat) (xs : List Int) (w : World) (h : Rd w 1 sv n (xs.map (fun x => Value.int .i64 x))) :
    Calls Tryz.prog 6 #[sv] w fun e w' => e = .returned (.pointer (some ⟨w.heap.size, 0, none⟩)) ∧ Deck w'.heap.size w' w.heap.size ∧ w.grownBy w' none := by
  obtain ⟨a, cap, rfl⟩ := h.shape
  have H := Lib.hid h
  clear h
  go_enter Tryz.func6, Tryz.ntmps6
  go_wp2
  go_ret
  have G : w.grownBy (w.alloc (.cells #[.slice a n cap, .int .i64 (0 : Nat)] 67)) none := World.grownBy_alloc w _ _
  have R := H.out
  have hlt : 0 < n → ∀ a' n' c', Value.slice a n cap = .slice (some a') n' c' → a'.block < w.heap.size := fun h0 => R.blockLt h0
  exact ⟨rfl, ⟨_, xs, 0, n, heap_alloc_new w _, Nat.zero_le _, R.same G, fun h0 a' n' c' hv => by have := hlt h0 a' n' c' hv; omega, by simp, fun h0 a' n' c' hv => by have := hlt h0 a' n' c' hv; simp; omega⟩, G⟩

/-- What Config leaves. -/
def ConfigPost (B b : Nat) (w : World) (e : Ending) (w' : World) : Prop :=
  ∃ c l t, e = .returned c.val ∧ CfgNums c ∧ CfgMem c l t w' ∧ Deck B w' b ∧ w.grownBy w' (some b)

/-- The same, and that the slices are the call's own. -/
def ConfigPost2 (B b : Nat) (w : World) (e : Ending) (w' : World) : Prop :=
  ∃ c l t, e = .returned c.val ∧ CfgNums c ∧ CfgMem c l t w' ∧ Deck B w' b ∧ w.grownBy w' (some b) ∧ (∀ a n m, c.Table = .slice (some a) n m → w.heap.size ≤ a.block) ∧ (∀ a n m, c.Classes = .slice (some a) n m → w.heap.size ≤ a.block)

/-- The numbers that the deck chooses at first. -/
structure Nums0 (c : Cfg) : Prop where
  length : 1 ≤ c.Length ∧ c.Length ≤ 20
  lateness : 0 ≤ c.Lateness ∧ c.Lateness < 15
  windows : 1 ≤ c.Windows ∧ c.Windows ≤ 4
  shards : 1 ≤ c.Shards ∧ c.Shards ≤ 4
  queue : 1 ≤ c.Queue ∧ c.Queue ≤ 64
  mode : c.Mode = 1 ∨ c.Mode = 2
  slots : 1 ≤ c.Slots ∧ c.Slots ≤ 4
  exact : 0 ≤ c.Exact ∧ c.Exact ≤ 3
  promote : 0 ≤ c.Promote ∧ c.Promote < 40
  depth : 1 ≤ c.Depth ∧ c.Depth ≤ 3
  width : 1 ≤ c.Width ∧ c.Width ≤ 9
  top : 1 ≤ c.Top ∧ c.Top ≤ 6
  key : 5 ≤ c.Key ∧ c.Key ≤ 255
  seed : 0 ≤ c.Seed ∧ c.Seed < 18446744073709551616

/-- The same, and the numbers as they were chosen. -/
def ConfigPost3 (B b : Nat) (w : World) (e : Ending) (w' : World) : Prop :=
  ∃ c l t, e = .returned c.val ∧ CfgNums c ∧ CfgMem c l t w' ∧ Deck B w' b ∧ w.grownBy w' (some b) ∧ (∀ a n m, c.Table = .slice (some a) n m → w.heap.size ≤ a.block) ∧ (∀ a n m, c.Classes = .slice (some a) n m → w.heap.size ≤ a.block) ∧ Nums0 c
/-- The state while Config fills the variable in block g: the table lies between the blocks r and g. -/
structure MakeSt (B b r g : Nat) (w : World) (c : Cfg) (t : List Int) (wx : World) : Prop where
  nums : Nums0 c
  deck : Deck B wx b
  box : BoxAt wx g c
  res : BoxAt wx r Cfg.zero
  table : RdL wordF 1 wx c.Table t
  tlen : t.length = 16
  twords : WordsOk t
  tblock : ∀ a n k, c.Table = .slice (some a) n k → r < a.block ∧ a.block < g
  lt : r < g
  old : B ≤ r
  low : w.heap.size = r
  grown : w.grownBy wx (some b)

theorem MakeSt.next {B b r g : Nat} {w : World} {c : Cfg} {t : List Int} {wx wy : World} (S : MakeSt B b r g w c t wx) (hd : Deck B wy b) (hg : wx.grownBy wy (some b)) : MakeSt B b r g w c t wy := by
  have hb := hd.below
  have h1 := S.old
  have h2 := S.lt
  refine ⟨S.nums, hd, S.box.kept hg (by simp; omega), S.res.kept hg (by simp; omega), S.table.kept hg ?_, S.tlen, S.twords, S.tblock, S.lt, S.old, S.low, grownBy_trans S.grown hg⟩
  intro b' hb' a n k hv
  cases hb'
  have := S.tblock a n k hv
  omega
theorem MakeSt.row {B b r g : Nat} {w : World} {c c' : Cfg} {t : List Int} {wx wy : World} (S : MakeSt B b r g w c t wx) (hbox : BoxAt wy g c') (hn : Nums0 c') (ht : c'.Table = c.Table) (hg : wx.grownBy wy (some g)) : MakeSt B b r g w c' t wy := by
  have h1 := S.old
  have h2 := S.lt
  have h3 := S.low
  have h4 := S.grown.size
  refine ⟨hn, S.deck.kept hg (by intro x hx; cases hx; omega), hbox, S.res.kept hg (by simp; omega), ?_, S.tlen, S.twords, ?_, S.lt, S.old, S.low, ?_⟩
  · rw [ht]
    refine S.table.kept hg ?_
    intro b' hb' a n k hv
    cases hb'
    have := S.tblock a n k hv
    omega
  · rw [ht]; exact S.tblock
  · exact ⟨hg.os.trans S.grown.os, hg.tape.trans S.grown.tape, hg.output.trans S.grown.output, Nat.le_trans S.grown.size hg.size, fun i hi hnn => (hg.block i (Nat.lt_of_lt_of_le hi S.grown.size) (by simp; omega)).trans (S.grown.block i hi hnn)⟩
theorem MakeSt.set {B b r g : Nat} {w : World} {c c' : Cfg} {t : List Int} {wx : World} (S : MakeSt B b r g w c t wx) (o : Nat) (v : Value) (hc : c.arr.setIfInBounds o v = c'.arr) (hn : Nums0 c') (ht : c'.Table = c.Table) :
    MakeSt B b r g w c' t (wx.setCell ⟨g, o, none⟩ v) :=
  S.row (S.box.setF o v hc) hn ht (grownBy_set (grownBy_refl wx _) o v)
theorem MakeSt.same {B b r g : Nat} {w : World} {c : Cfg} {t : List Int} {wx wy : World} (S : MakeSt B b r g w c t wx) (hg : wx.grownBy wy none) : MakeSt B b r g w c t wy :=
  S.next (S.deck.kept hg (by simp)) (grownBy_some hg _)

def clsArr (l : List (Int × Int)) : Array Value := (cellsOf clsF l).toArray
/-- Block k holds size classes. -/
def ClsAt (w : World) (k : Nat) (l : List (Int × Int)) : Prop := w.heap[k]? = some (.cells (clsArr l) 72)
theorem cells_set (l : List (Int × Int)) (i : Nat) (hi : i < l.length) (v : Int) : (cellsOf clsF l).set (i * 2 + 1) (.int .i64 v) = cellsOf clsF (l.set i ((l.getD i (0, 0)).1, v)) := by
  induction l generalizing i with
  | nil => simp at hi
  | cons p l ih =>
    cases i with
    | zero => simp [cellsOf, clsF]
    | succ i =>
      have := ih i (by simpa using hi)
      simp only [cellsOf, List.flatMap_cons, List.set_cons_succ, List.getD_cons_succ, clsF] at *
      rw [← this, show (i + 1) * 2 + 1 = (i * 2 + 1) + 1 + 1 by omega]
      simp
theorem ClsAt.set {w : World} {k : Nat} {l : List (Int × Int)} (h : ClsAt w k l) {i : Nat} (hi : i < l.length) (v : Int) :
    ClsAt (w.setCell ⟨k, i * 2 + 1, none⟩ (.int .i64 v)) k (l.set i ((l.getD i (0, 0)).1, v)) := by
  unfold ClsAt
  rw [heap_set _ h]
  simp [clsArr, cells_set l i hi v]
theorem ClsAt.lt {w : World} {k : Nat} {l : List (Int × Int)} (h : ClsAt w k l) : k < w.heap.size := (Array.getElem?_eq_some_iff.1 h).1
theorem ClsAt.kept {w w' : World} {k : Nat} {l : List (Int × Int)} {r : Option Nat} (h : ClsAt w k l) (hg : w.grownBy w' r) (hr : r ≠ some k) : ClsAt w' k l :=
  (hg.block k h.lt (fun e => hr e.symm)).trans h
theorem ClsAt.rd {w : World} {k : Nat} {l : List (Int × Int)} (h : ClsAt w k l) (hl : l.length ≤ 9223372036854775807) : RdL clsF 2 w (.slice (some ⟨k, 0, none⟩) l.length l.length) l := by
  refine ⟨length_cellsOf _ 2 clsF_len l, hl, .inr ⟨k, 0, _, rfl, h.lt, fun j u hu => ?_⟩⟩
  unfold ClsAt at h
  simp only [World.cell?, h, clsArr, Nat.zero_add]
  simpa using hu
theorem ClsAt.cell {w : World} {k : Nat} {l : List (Int × Int)} (h : ClsAt w k l) {i : Nat} (hi : i < l.length) : ∃ x, w.cell? ⟨k, i * 2 + 1, none⟩ = some (.int .i64 x) := by
  have hg := get_cellsOf clsF 2 clsF_len l i 1 (by omega) l[i] (List.getElem?_eq_getElem hi)
  unfold ClsAt at h
  refine ⟨l[i].2, ?_⟩
  simp only [World.cell?, h, clsArr]
  simpa [clsF] using hg
theorem ClsAt.free {w : World} {k : Nat} {l : List (Int × Int)} (h : ClsAt w k l) (i : Nat) : w.frozen? ⟨k, i, none⟩ = false := by
  unfold ClsAt at h; simp [World.frozen?, h]

def fiveL : List (Int × Int) := [(8, 0), (24, 0), (32, 0), (80, 0), (256, 0)]
def oneL : List (Int × Int) := [(256, 0)]
theorem five_ok : ClsOk fiveL := by
  refine ⟨by decide, by decide, fun i p hp => ?_, fun i p q hp hq => ?_⟩
  · have := List.mem_of_getElem? hp
    simp [fiveL] at this
    rcases this with rfl | rfl | rfl | rfl | rfl <;> simp
  · have hi : i < 4 := by have := (List.getElem?_eq_some_iff.1 hq).1; simp [fiveL] at this; omega
    have : i = 0 ∨ i = 1 ∨ i = 2 ∨ i = 3 := by omega
    rcases this with rfl | rfl | rfl | rfl <;> simp [fiveL] at hp hq <;> subst hp <;> subst hq <;> simp
theorem one_ok : ClsOk oneL := by
  refine ⟨by decide, by decide, fun i p hp => ?_, fun i p q hp hq => ?_⟩
  · have := List.mem_of_getElem? hp
    simp [oneL] at this
    subst this; simp
  · have hi := (List.getElem?_eq_some_iff.1 hq).1; simp [oneL] at hi

/-- The state once the classes are there. -/
structure ClsSt (B b r g : Nat) (w : World) (c : Cfg) (t : List Int) (k : Nat) (l : List (Int × Int)) (wx : World) : Prop where
  st : MakeSt B b r g w c t wx
  spread : 1 ≤ c.Spread ∧ c.Spread ≤ c.Shards
  cls : ClsAt wx k l
  val : c.Classes = .slice (some ⟨k, 0, none⟩) l.length l.length
  lt : g < k
  len : 0 < l.length ∧ l.length ≤ 8

theorem clsSt_new {B b r g : Nat} {w : World} {c : Cfg} {t : List Int} {wx : World} (S : MakeSt B b r g w c t wx) (l : List (Int × Int)) (hl : 0 < l.length ∧ l.length ≤ 8) (h : 1 ≤ c.Spread ∧ c.Spread ≤ c.Shards) :
    ClsSt B b r g w ⟨c.Length, c.Lateness, c.Windows, c.Shards, c.Spread, c.Queue, c.Mode, c.Slots, c.Exact, c.Promote, c.Depth, c.Width, c.Top, c.Key, .slice (some ⟨wx.heap.size, 0, none⟩) l.length l.length, c.Table, c.Seed⟩ t wx.heap.size l
      ((wx.setCell ⟨g, 14, none⟩ (.slice (some ⟨wx.heap.size, 0, none⟩) l.length l.length)).alloc (.cells (clsArr l) 72)) := by
  have h1 := S.set (c' := ⟨c.Length, c.Lateness, c.Windows, c.Shards, c.Spread, c.Queue, c.Mode, c.Slots, c.Exact, c.Promote, c.Depth, c.Width, c.Top, c.Key, .slice (some ⟨wx.heap.size, 0, none⟩) l.length l.length, c.Table, c.Seed⟩) 14 (.slice (some ⟨wx.heap.size, 0, none⟩) l.length l.length) rfl
    ⟨S.nums.1, S.nums.2, S.nums.3, S.nums.4, S.nums.5, S.nums.6, S.nums.7, S.nums.8, S.nums.9, S.nums.10, S.nums.11, S.nums.12, S.nums.13, S.nums.14⟩ rfl
  refine ⟨h1.same (World.grownBy_alloc _ _ _), h, ?_, rfl, S.box.lt, hl⟩
  have := heap_alloc_new (wx.setCell ⟨g, 14, none⟩ (.slice (some ⟨wx.heap.size, 0, none⟩) l.length l.length)) (.cells (clsArr l) 72)
  unfold ClsAt
  rw [← this]
  simp [World.setCell]
theorem ClsSt.next {B b r g : Nat} {w : World} {c : Cfg} {t : List Int} {k : Nat} {l : List (Int × Int)} {wx wy : World} (S : ClsSt B b r g w c t k l wx) (hd : Deck B wy b) (hg : wx.grownBy wy (some b)) : ClsSt B b r g w c t k l wy := by
  have h1 := hd.below
  have h2 := S.st.old
  have h3 := S.st.lt
  have h4 := S.lt
  exact ⟨S.st.next hd hg, S.spread, S.cls.kept hg (by simp; omega), S.val, S.lt, S.len⟩
theorem ClsSt.same {B b r g : Nat} {w : World} {c : Cfg} {t : List Int} {k : Nat} {l : List (Int × Int)} {wx wy : World} (S : ClsSt B b r g w c t k l wx) (hg : wx.grownBy wy none) : ClsSt B b r g w c t k l wy :=
  S.next (S.st.deck.kept hg (by simp)) (grownBy_some hg _)
theorem ClsSt.set {B b r g : Nat} {w : World} {c : Cfg} {t : List Int} {k : Nat} {l : List (Int × Int)} {wx : World} (S : ClsSt B b r g w c t k l wx) {i : Nat} (hi : i < l.length) (v : Int) :
    ∃ l', l'.length = l.length ∧ ClsSt B b r g w c t k l' (wx.setCell ⟨k, i * 2 + 1, none⟩ (.int .i64 v)) := by
  have h1 := S.st.deck.below
  have h2 := S.st.old
  have h3 := S.st.lt
  have h4 := S.lt
  have hg : wx.grownBy (wx.setCell ⟨k, i * 2 + 1, none⟩ (.int .i64 v)) (some k) := grownBy_set (grownBy_refl wx _) _ _
  have h5 := S.st.grown.size
  have h6 := S.st.low
  refine ⟨_, ?_, ⟨⟨S.st.nums, S.st.deck.kept hg (by intro x hx; cases hx; omega), S.st.box.kept hg (by simp; omega), S.st.res.kept hg (by simp; omega), S.st.table.kept hg ?_, S.st.tlen, S.st.twords, S.st.tblock, S.st.lt, S.st.old, S.st.low, ?_⟩, S.spread, S.cls.set hi v, ?_, S.lt, ?_⟩⟩
  · simp
  · intro x hx a n m hv
    cases hx
    have := S.st.tblock a n m hv
    omega
  · exact ⟨S.st.grown.os, S.st.grown.tape, S.st.grown.output, by have := S.st.grown.size; simpa [World.setCell] using this, fun i hi hnn => (hg.block i (Nat.lt_of_lt_of_le hi h5) (by simp; omega)).trans (S.st.grown.block i hi hnn)⟩
  · rw [S.val]; simp
  · simpa using S.len
theorem ClsSt.nums {B b r g : Nat} {w : World} {c : Cfg} {t : List Int} {k : Nat} {l : List (Int × Int)} {wx : World} (S : ClsSt B b r g w c t k l wx) : CfgNums c := by
  have h := S.st.nums
  have h2 := S.spread
  have := h.length; have := h.lateness; have := h.windows; have := h.shards; have := h.queue; have := h.slots; have := h.exact; have := h.promote; have := h.depth; have := h.width; have := h.top; have := h.key
  exact ⟨by omega, by omega, by omega, by omega, h2, by omega, h.mode, by omega, by omega, by omega, by omega, by omega, by omega, by omega, h.seed⟩
theorem ClsSt.mem {B b r g : Nat} {w : World} {c : Cfg} {t : List Int} {k : Nat} {l : List (Int × Int)} {wx : World} (S : ClsSt B b r g w c t k l wx) : CfgMem c l t wx :=
  ⟨by rw [S.val]; exact S.cls.rd (by have := S.len; omega), S.st.table, S.st.tlen, S.st.twords⟩

set_option maxHeartbeats 1000000 in
set_option maxRecDepth 100000 in
theorem config3_c {B : Nat} (b : Nat) (w : World) (hd : Deck B w b) (hB : B ≤ w.heap.size) :
    Calls Tryz.prog 7 #[.pointer (some ⟨b, 0, none⟩)] w (ConfigPost3 B b w) := by
  have hbB := hd.below
  go_enter Tryz.func7, Tryz.ntmps7
  go_upto_region 1 with (refine alloc_cfg rfl rfl ?_; intro w1 BR GG z1)
  replace hd := hd.kept GG (by simp)
  replace GG := grownBy_some GG (some b)
  have hB1 : B ≤ w1.heap.size := by omega
  simp only [Act.put, List.setIfInBounds_toArray, List.set_cons_zero, List.set_cons_succ]
  go_cut [3] (fun s3 wx => ∃ g c t, s3 = .pointer (some ⟨g, 0, none⟩) ∧ MakeSt B b w.heap.size g w c t wx)
  case first =>
    go_wp2_with (first | (refine alloc_cfg rfl rfl ?_; intro w4 BG G4 z4; replace BR := BR.same G4; have ht7 := ht6.same G4; have hd4 := Deck.kept (by assumption) G4 (by simp); replace GG := grownBy_trans GG (grownBy_some G4 (some b)); clear G4) | (refine store_cfg rfl _ _ rfl _ rfl ⟨_, _, _, _, _, _, _, _, _, _, _, _, _, _, _, _, _⟩ rfl rfl rfl Cfg.zero (by assumption) ?_; intro w5 BC G5) | (go_at_call 17; refine (next_c b _ _ (by assumption) (by omega) (by omega)).mono ?_; rintro e w2 ⟨r, rfl, hr0, hr1, hd2, G2⟩; replace BR := BR.kept G2 (by simp; omega); replace GG := grownBy_trans GG G2; replace hB1 := Nat.le_trans hB1 G2.size; replace z1 := Nat.lt_of_lt_of_le z1 G2.size; clear G2) | (go_at_call 18; refine (dtable_c b _ (by assumption) hB1).mono ?_; rintro e w2 ⟨tv, tl, rfl, ht1, ht2, ht3, ht4, ht5, hd2, G2⟩; obtain ⟨ta, tc, rfl⟩ := ht1.shape; replace BR := BR.kept G2 (by simp; omega); replace GG := grownBy_trans GG G2; have ht5' := Lib.hid (fun a n c h => Nat.lt_of_lt_of_le z1 (ht5 a n c h)); replace hB1 := Nat.le_trans hB1 G2.size; replace z1 := Nat.lt_of_lt_of_le z1 G2.size; clear G2 ht5) | (go_at_call 19; refine (word_c b _ (by assumption)).mono ?_; rintro e w3 ⟨r, rfl, hr0, hr1, hd3, G3⟩; replace BR := BR.kept G3 (by simp; omega); replace GG := grownBy_trans GG G3; have ht6 := ht1.kept G3 (by intro b' hb'; cases hb'; exact ht4); replace hB1 := Nat.le_trans hB1 G3.size; replace z1 := Nat.lt_of_lt_of_le z1 G3.size; clear G3))
    go_meet
    have hne : w3.heap.size ≠ w.heap.size := by omega
    have hbg : B ≤ w3.heap.size := hB1
    have hin : NotIn (.slice ta tl.length tc) w3.heap.size := fun a n k hv => Nat.ne_of_lt (ht6.blockLt (by omega) a n k hv)
    have ht8 : RdL wordF 1 w5 (.slice ta 16 tc) tl := by
      have hh : RdL wordF 1 w5 (.slice ta tl.length tc) tl := ht7.kept G5 (by intro c hc; cases hc; exact hin)
      rw [ht2] at hh; exact hh
    refine ⟨_, _, tl, rfl, ⟨⟨?_, ?_, ?_, ?_, ?_, ?_, ?_, ?_, ?_, ?_, ?_, ?_, ?_, ?_⟩, hd4.kept G5 (by intro c hc; cases hc; exact hbg), BC, BR.kept G5 (by simpa using hne), ht8, ht2, ht3, ?_, z1, hB, rfl, ?_⟩⟩
    case refine_15 => intro a n k hv; cases hv; exact ⟨ht5'.out _ _ _ rfl, ht6.blockLt (by omega) _ _ _ rfl⟩
    case refine_16 =>
      refine ⟨G5.os.trans GG.os, G5.tape.trans GG.tape, G5.output.trans GG.output, Nat.le_trans GG.size G5.size, fun i hi hn => (G5.block i (Nat.lt_of_lt_of_le hi GG.size) ?_).trans (GG.block i hi hn)⟩
      simp; omega
    all_goals (simp only; omega)
  case rest =>
    obtain ⟨g, c, t, rfl, S1⟩ := hcut
    have hn1 := S1.nums.shards
    have hlt1 := S1.lt
    have hold1 := S1.old
    have c1 := S1.box.cell
    obtain ⟨m1, m2⟩ := hn1
    have D1 := S1.deck
    go_upto_region 2 with fail
    go_cut [3] (fun s3 wx => ∃ c', s3 = .pointer (some ⟨g, 0, none⟩) ∧ MakeSt B b w.heap.size g w c' t wx ∧ 1 ≤ c'.Spread ∧ c'.Spread ≤ c'.Shards)
    case first =>
      go_wp2_with ((go_at_call 17; refine (next_c b _ _ (by assumption) (by omega) (by omega)).mono ?_; rintro e w2 ⟨r, rfl, hr0, hr1, hd2, G2⟩); have S2 := S1.next hd2 G2; have c2 := S2.box.cell; have f2 := S2.box.free; clear c1 G2)
      go_meet
      exact ⟨⟨c.Length, c.Lateness, c.Windows, c.Shards, 1 + r, c.Queue, c.Mode, c.Slots, c.Exact, c.Promote, c.Depth, c.Width, c.Top, c.Key, c.Classes, c.Table, c.Seed⟩, rfl, S2.set 4 _ rfl ⟨S2.nums.1, S2.nums.2, S2.nums.3, S2.nums.4, S2.nums.5, S2.nums.6, S2.nums.7, S2.nums.8, S2.nums.9, S2.nums.10, S2.nums.11, S2.nums.12, S2.nums.13, S2.nums.14⟩ rfl, by simp only; omega, by simp only; omega⟩
    case rest =>
    obtain ⟨c3, rfl, S3, h3a, h3b⟩ := hcut
    clear c1 D1 S1 m1 m2
    have D3 := S3.deck
    go_upto_if 54 with ((go_at_call 17; refine (next_c b _ _ (by assumption) (by omega) (by omega)).mono ?_; rintro e w2 ⟨r, rfl, hr0, hr1, hd2, G2⟩); have S4 := S3.next hd2 G2; have c4 := S4.box.cell; have f4 := S4.box.free; clear D3 G2)
    go_cut [3] (fun s3 wx => ∃ c', s3 = .pointer (some ⟨g, 0, none⟩) ∧ MakeSt B b w.heap.size g w c' t wx ∧ 1 ≤ c'.Spread ∧ c'.Spread ≤ c'.Shards)
    case first =>
      go_wp2_with fail
      · go_meet
        exact ⟨⟨c3.Length, c3.Lateness, c3.Windows, c3.Shards, c3.Spread, 64, c3.Mode, c3.Slots, c3.Exact, c3.Promote, c3.Depth, c3.Width, c3.Top, c3.Key, c3.Classes, c3.Table, c3.Seed⟩, rfl, S4.set 5 _ rfl ⟨S4.nums.1, S4.nums.2, S4.nums.3, S4.nums.4, by simp, S4.nums.6, S4.nums.7, S4.nums.8, S4.nums.9, S4.nums.10, S4.nums.11, S4.nums.12, S4.nums.13, S4.nums.14⟩ rfl, h3a, h3b⟩
      · go_meet
        exact ⟨c3, rfl, S4, h3a, h3b⟩
    case rest =>
    obtain ⟨c5, rfl, S5, h5a, h5b⟩ := hcut
    clear c4 f4 S4 S3 h3a h3b hd2
    have D5 := S5.deck
    go_upto_if 58 with ((go_at_call 17; refine (next_c b _ _ (by assumption) (by omega) (by omega)).mono ?_; rintro e w2 ⟨r, rfl, hr0, hr1, hd2, G2⟩); have S6 := S5.next hd2 G2; clear D5 G2)
    go_cut [3] (fun s3 wx => ∃ c', s3 = .pointer (some ⟨g, 0, none⟩) ∧ MakeSt B b w.heap.size g w c' t wx ∧ 1 ≤ c'.Spread ∧ c'.Spread ≤ c'.Shards)
    case first =>
      go_wp2_with ((go_at_call 17; refine (next_c b _ _ (by assumption) (by omega) (by omega)).mono ?_; rintro e w2 ⟨r, rfl, hr0, hr1, hd2, G2⟩); have S7 := S6.next hd2 G2; have c7 := S7.box.cell; have f7 := S7.box.free; clear G2)
      · go_meet
        exact ⟨⟨c5.Length, c5.Lateness, c5.Windows, c5.Shards, c5.Spread, c5.Queue, c5.Mode, c5.Slots, c5.Exact, c5.Promote, c5.Depth, c5.Width, c5.Top, 5 + r, c5.Classes, c5.Table, c5.Seed⟩, rfl, S7.set 13 _ rfl ⟨S7.nums.1, S7.nums.2, S7.nums.3, S7.nums.4, S7.nums.5, S7.nums.6, S7.nums.7, S7.nums.8, S7.nums.9, S7.nums.10, S7.nums.11, S7.nums.12, by simp only; omega, S7.nums.14⟩ rfl, h5a, h5b⟩
      · go_meet
        exact ⟨c5, rfl, S6, h5a, h5b⟩
    case rest =>
    obtain ⟨c8, rfl, S8, h8a, h8b⟩ := hcut
    clear S6 S5 h5a h5b hd2
    have c8c := S8.box.cell
    have f8 := S8.box.free
    have l8 := S8.box.lt
    go_upto_region 7 with fail
    go_cut [3] (fun s3 wx => ∃ c' k l, s3 = .pointer (some ⟨g, 0, none⟩) ∧ ClsSt B b w.heap.size g w c' t k l wx ∧ (l = fiveL ∨ l = oneL))
    case first =>
      go_wp2_with fail
      go_meet
      exact ⟨_, _, fiveL, rfl, clsSt_new S8 fiveL (by decide) ⟨h8a, h8b⟩, .inl rfl⟩
    case rest =>
    obtain ⟨c9, k9, l9, rfl, S9, hl9⟩ := hcut
    clear c8c f8 l8 S8 h8a h8b
    have D9 := S9.st.deck
    go_upto_if 72 with ((go_at_call 17; refine (next_c b _ _ (by assumption) (by omega) (by omega)).mono ?_; rintro e w2 ⟨r, rfl, hr0, hr1, hd2, G2⟩); have S10 := S9.next hd2 G2; clear D9 G2)
    go_cut [3] (fun s3 wx => ∃ c' k l, s3 = .pointer (some ⟨g, 0, none⟩) ∧ ClsSt B b w.heap.size g w c' t k l wx ∧ (l = fiveL ∨ l = oneL))
    case first =>
      have c10 := S10.st.box.cell
      have f10 := S10.st.box.free
      have l10 := S10.st.box.lt
      go_wp2_with fail
      · go_meet
        exact ⟨_, _, oneL, rfl, clsSt_new S10.st oneL (by decide) S10.spread, .inr rfl⟩
      · go_meet
        exact ⟨_, _, _, rfl, S10, hl9⟩
    case rest =>
    obtain ⟨c, k, l, rfl, S11, hl⟩ := hcut
    clear S10 S9 hl9 hd2
    have hcls : CfgCls c l := by
      have hw := S11.st.nums.width
      have hk := S11.st.nums.key
      rcases hl with rfl | rfl
      · exact ⟨five_ok, fun p hp => by simp [fiveL] at hp; subst hp; simp only; omega⟩
      · exact ⟨one_ok, fun p hp => by simp [oneL] at hp; subst hp; simp only; omega⟩
    have B11 := S11.st.box
    have Hcls := Lib.hid hcls
    clear hcls hl
    go_wp2_with (first | (refine load_cfg rfl _ rfl _ rfl c (by assumption) ?_) | (go_at_call 20; refine (demand_c c l t _ S11.nums S11.mem Hcls.out).mono ?_; rintro e w12 ⟨D, out, rfl, hD, hO, hol, G12⟩; have S12 := S11.same G12; clear B11 G12))
    have hl8 : l.length ≤ 8 := S11.len.2
    have hkD : k < D := Nat.lt_of_lt_of_le S11.cls.lt hD
    go_loopw [83] (fun s83 wr => ∃ (j : Nat) (l' : List (Int × Int)), s83 = .int .i64 j ∧ j ≤ l.length ∧ l'.length = l.length ∧ ClsSt B b w.heap.size g w c t k l' wr ∧ OutAt wr D out) (fun s83 _ => l.length - (intOf s83).toNat)
    case atStart => exact ⟨0, l, rfl, Nat.zero_le _, rfl, S12, hO⟩
    case round =>
      obtain ⟨j, l', rfl, hj, hl', S13, hO13⟩ := hrel
      by_cases hlt : j < l.length
      · have hv := S13.val
        obtain ⟨r1, r2, r3⟩ := S13.st.box.re
        simp only [Cfg.arr, hv, hl'] at r3
        have r4 := cell_regrown (hO13.cell (k := j) (by omega))
        have hjo : (0 : Int) ≤ (j : Nat) := by omega
        have hjo' : ((j : Nat) : Int) < l.length := by omega
        have Hl := Lib.hid hl'
        have Hol := Lib.hid hol
        clear hv hl' hol
        go_wp2_with fail
        refine Tail.wp_region_tail_grown 9 (by kernel_rfl) (by kernel_rfl) ?_
        simp only [List.take, List.drop]
        repeat (go_big_quiet_step (fail))
        refine wpQuiet_nil ?_
        rintro _ ⟨⟨d5, os5⟩, rfl⟩
        have S14 := S13.same (grown_re wr d5 os5)
        have hO14 := hO13.kept (grown_re wr d5 os5) (by simp)
        have hx14 := S14.cls.cell (i := j) (by rw [Hl.out]; exact hlt)
        have hf14 := S14.cls.free (j * 2 + 1)
        clear r1 r2 r3 r4
        generalize Go.Sort.grow (redrawn wr d5) os5 = w14 at *
        obtain ⟨x14, hx14⟩ := hx14
        go_wp2_with fail
        obtain ⟨l'', hl'', S15⟩ := S14.set (i := j) (by rw [Hl.out]; exact hlt) (out.getD j 0)
        refine ⟨⟨j + 1, l'', by go_num, by omega, hl''.trans Hl.out, S15, hO14.kept (grownBy_set (grownBy_refl _ _) _ _) (by simp; omega)⟩, ?_⟩
        simp [intOf]; omega
      · have B13 := S13.st.box
        have ho1 : c.Classes.oneCell' = true := by rw [S13.val]; rfl
        have ho2 : c.Table.oneCell' = true := by obtain ⟨a, cap, hv⟩ := S13.st.table.shape; rw [hv]; rfl
        go_wp2_with (first | (refine load_cfg rfl _ rfl _ rfl c (by assumption) ?_) | (refine store_cfg rfl _ _ rfl _ rfl c rfl ho1 ho2 Cfg.zero S13.st.res ?_; intro w20 B20 G20))
        obtain ⟨tt, ff, hh, hff⟩ := B20.block
        refine bodyPost_ret (v := c.val) (results_cell_row rfl _ _ w.heap.size _ _ _ _ rfl hh Tryz.underlying31 rfl size_cfg) rfl ?_
        have hm := S13.mem
        have hr1 := S13.st.lt
        have hr2 := S13.lt
        have hold := S13.st.old
        refine ⟨c, l', t, rfl, S13.nums, ⟨hm.classes.kept G20 ?_, hm.table.kept G20 ?_, hm.tlen, hm.twords⟩, S13.st.deck.kept G20 (by intro x hx; cases hx; exact hold), ?_, ?_, ?_, S13.st.nums⟩
        · intro x hx a n m hv; cases hx; rw [S13.val] at hv; cases hv; simp; omega
        · intro x hx a n m hv; cases hx; have := S13.st.tblock a n m hv; omega
        · have G13 := S13.st.grown
          exact ⟨G20.os.trans G13.os, G20.tape.trans G13.tape, G20.output.trans G13.output, Nat.le_trans G13.size G20.size, fun i hi hn => (G20.block i (Nat.lt_of_lt_of_le hi G13.size) (by simp; omega)).trans (G13.block i hi hn)⟩
        · intro a n m hv; have := S13.st.tblock a n m hv; omega
        · intro a n m hv; rw [S13.val] at hv; cases hv; simp; omega
theorem config2_c {B : Nat} (b : Nat) (w : World) (hd : Deck B w b) (hB : B ≤ w.heap.size) :
    Calls Tryz.prog 7 #[.pointer (some ⟨b, 0, none⟩)] w (ConfigPost2 B b w) :=
  (config3_c b w hd hB).mono fun _ _ ⟨c, l, t, h1, h2, h3, h4, h5, h6, h7, _⟩ => ⟨c, l, t, h1, h2, h3, h4, h5, h6, h7⟩
theorem config_c {B : Nat} (b : Nat) (w : World) (hd : Deck B w b) (hB : B ≤ w.heap.size) :
    Calls Tryz.prog 7 #[.pointer (some ⟨b, 0, none⟩)] w (ConfigPost B b w) :=
  (config2_c b w hd hB).mono fun _ _ ⟨c, l, t, h1, h2, h3, h4, h5, _⟩ => ⟨c, l, t, h1, h2, h3, h4, h5⟩
end Go.Proofs.YtkdbapbmbhmaiaaGreat

/- The demand of a configuration, as it is specified, with its numbers. -/
namespace Go.Proofs.YtkdbapbmbhmaiaaGreat
open Go.RowKit

def addAt (o : List Int) (k : Nat) (x : Int) : List Int := o.set k (o[k]?.getD 0 + x)
theorem addAt_len (o : List Int) (k : Nat) (x : Int) : (addAt o k x).length = o.length := by simp [addAt]
def trkN (c : Cfg) : Int := c.Shards * c.Windows * (c.Slots + c.Exact)
def queN (c : Cfg) : Int := c.Shards * c.Queue
def rowN (c : Cfg) : Int := c.Shards * c.Windows * c.Depth
def demB1 (c : Cfg) (l : List (Int × Int)) : List Int := addAt (List.replicate l.length 0) (fitI l (8 * c.Width)) (rowN c)
def demB2 (c : Cfg) (l : List (Int × Int)) : List Int := addAt (demB1 c l) (fitI l 32) (trkN c)
def demB (c : Cfg) (l : List (Int × Int)) : List Int := addAt (demB2 c l) (fitI l 24) (queN c)
/-- The class that the last length of a key needed, and the slots, behind the lengths up to n. -/
def keyF (l : List (Int × Int)) (X : Int) (d : List Int) : Nat → Int × List Int
  | 0 => (-1, d)
  | n + 1 => if ((fitI l ((n + 1 : Nat) : Int) : Nat) : Int) ≠ (keyF l X d n).1 then (((fitI l ((n + 1 : Nat) : Int) : Nat) : Int), addAt (keyF l X d n).2 (fitI l ((n + 1 : Nat) : Int)) X) else keyF l X d n
def demF (c : Cfg) (l : List (Int × Int)) : List Int := (keyF l (trkN c + queN c) (demB c l) c.Key.toNat).2
def BdL (o : List Int) (M : Int) : Prop := ∀ k : Nat, 0 ≤ o[k]?.getD 0 ∧ o[k]?.getD 0 ≤ M
theorem BdL.add {o : List Int} {M x X : Int} (h : BdL o M) (hx : 0 ≤ x ∧ x ≤ X) (k : Nat) : BdL (addAt o k x) (M + X) := by
  intro j
  have h1 := h j
  have h2 := h k
  unfold addAt
  simp only [List.getElem?_set] at *
  by_cases e : k = j
  · subst e
    rw [if_pos rfl]
    by_cases hl : k < o.length
    · rw [if_pos hl]; simp only [Option.getD_some]; omega
    · rw [if_neg hl]; simp only [Option.getD_none]; omega
  · rw [if_neg e]; omega
theorem BdL.zero (n : Nat) : BdL (List.replicate n 0) 0 := by
  intro k
  rw [List.getElem?_replicate]
  split <;> simp
theorem keyF_len (l : List (Int × Int)) (X : Int) (d : List Int) : ∀ n, (keyF l X d n).2.length = d.length
  | 0 => rfl
  | n + 1 => by
    unfold keyF; split
    · simp only; rw [addAt_len, keyF_len l X d n]
    · exact keyF_len l X d n
theorem BdL.mono {o : List Int} {M M' : Int} (h : BdL o M) (hm : M ≤ M') : BdL o M' := fun k => ⟨(h k).1, Int.le_trans (h k).2 hm⟩
theorem keyF_bd {l : List (Int × Int)} {X M : Int} {d : List Int} (h : BdL d M) (hX : 0 ≤ X ∧ X ≤ 7000) : ∀ n : Nat, BdL (keyF l X d n).2 (M + 7000 * n)
  | 0 => h.mono (by simp)
  | n + 1 => by
    have ih := keyF_bd (l := l) h hX n
    unfold keyF; split
    · exact (ih.add (x := X) (X := 7000) hX (fitI l ((n + 1 : Nat) : Int))).mono (by omega)
    · exact ih.mono (by omega)
theorem rowN_bd {c : Cfg} (h : CfgNums c) : 0 ≤ rowN c ∧ rowN c ≤ 256 := by
  have a1 := h.shards; have a2 := h.windows; have a3 := h.depth
  have m1 : c.Shards * c.Windows ≤ 64 := by have := Int.mul_le_mul a1.2 a2.2 (by omega) (by omega); simpa using this
  have m0 : 0 ≤ c.Shards * c.Windows := Int.mul_nonneg (by omega) (by omega)
  have m2 : c.Shards * c.Windows * c.Depth ≤ 256 := by have := Int.mul_le_mul m1 a3.2 (by omega) (by omega); simpa using this
  exact ⟨Int.mul_nonneg m0 (by omega), m2⟩
theorem trkN_bd {c : Cfg} (h : CfgNums c) : 0 ≤ trkN c ∧ trkN c ≤ 6144 := by
  have a1 := h.shards; have a2 := h.windows; have a3 := h.slots; have a4 := h.exact
  have m1 : c.Shards * c.Windows ≤ 64 := by have := Int.mul_le_mul a1.2 a2.2 (by omega) (by omega); simpa using this
  have m0 : 0 ≤ c.Shards * c.Windows := Int.mul_nonneg (by omega) (by omega)
  have m2 : c.Shards * c.Windows * (c.Slots + c.Exact) ≤ 6144 := by have := Int.mul_le_mul m1 (show c.Slots + c.Exact ≤ 96 by omega) (by omega) (by omega); simpa using this
  exact ⟨Int.mul_nonneg m0 (by omega), m2⟩
theorem queN_bd {c : Cfg} (h : CfgNums c) : 0 ≤ queN c ∧ queN c ≤ 512 := by
  have a1 := h.shards; have a2 := h.queue
  have m1 : c.Shards * c.Queue ≤ 512 := by have := Int.mul_le_mul a1.2 a2.2 (by omega) (by omega); simpa using this
  exact ⟨Int.mul_nonneg (by omega) (by omega), m1⟩
theorem demB1_bd {c : Cfg} {l : List (Int × Int)} (h : CfgNums c) : BdL (demB1 c l) 256 := by
  exact ((BdL.zero l.length).add (rowN_bd h) (fitI l (8 * c.Width))).mono (by omega)
theorem demB2_bd {c : Cfg} {l : List (Int × Int)} (h : CfgNums c) : BdL (demB2 c l) 6400 := (demB1_bd h).add (trkN_bd h) _
theorem demB_bd {c : Cfg} {l : List (Int × Int)} (h : CfgNums c) : BdL (demB c l) 6912 := (demB2_bd h).add (queN_bd h) _
theorem demB_len (c : Cfg) (l : List (Int × Int)) : (demB c l).length = l.length := by simp [demB, demB2, demB1, addAt_len]
theorem demF_len (c : Cfg) (l : List (Int × Int)) : (demF c l).length = l.length := by unfold demF; rw [keyF_len, demB_len]
theorem key_bd {c : Cfg} {l : List (Int × Int)} (h : CfgNums c) {n : Nat} (hn : n ≤ 256) : BdL (keyF l (trkN c + queN c) (demB c l) n).2 2000000 := by
  have h1 := trkN_bd h
  have h2 := queN_bd h
  have := keyF_bd (l := l) (X := trkN c + queN c) (demB_bd (l := l) h) (by omega) n
  intro k
  have := this k
  omega
theorem demF_bd {c : Cfg} {l : List (Int × Int)} (h : CfgNums c) : BdL (demF c l) 2000000 := key_bd h (by have := h.key; omega)

/-- What Demand leaves. -/
def DemandN (o : List Int) (w : World) (e : Ending) (w' : World) : Prop :=
  ∃ B, e = .returned (.tuple #[.slice (some ⟨B, 0, none⟩) o.length o.length, .int .i64 0]) ∧ w.heap.size ≤ B ∧ OutAt w' B o ∧ w.grownBy w' none

structure DemSu (c : Cfg) (n : Nat) (w : World) (B : Nat) (out : List Int) (wx : World) : Prop where
  box : BoxAt wx w.heap.size c
  len : out.length = n
  out : OutAt wx B out
  grown : w.grownBy wx none
  lt : w.heap.size < B
section
variable {c : Cfg} {n : Nat} {w : World} {B : Nat} {out : List Int} {wx wy : World}
theorem DemSu.set (h : DemSu c n w B out wx) (k : Nat) (x : Int) : DemSu c n w B (out.set k x) (wx.setCell ⟨B, k, none⟩ (.int .i64 x)) :=
  ⟨h.box.kept (grownBy_set (grownBy_refl wx _) k _) (by have := h.lt; simp; omega), by simpa using h.len, h.out.set k x, grownBy_setNew h.grown (Nat.le_of_lt h.lt) _, h.lt⟩
theorem DemSu.add (h : DemSu c n w B out wx) (k : Nat) (x : Int) : DemSu c n w B (addAt out k x) (wx.setCell ⟨B, k, none⟩ (.int .i64 (out[k]?.getD 0 + x))) := h.set k _
theorem DemSu.same (h : DemSu c n w B out wx) (hg : wx.grownBy wy none) : DemSu c n w B out wy :=
  ⟨h.box.same hg, h.len, h.out.kept hg (by simp), grownBy_trans h.grown hg, h.lt⟩
theorem DemSu.drew (h : DemSu c n w B out wx) : DemSu c n w B out wx.drew := h.same (grownBy_drew (grownBy_refl _ _))
theorem DemSu.cell (h : DemSu c n w B out wx) {k : Nat} (hk : k < n) : wx.cell? ⟨B, k, none⟩ = some (.int .i64 (out[k]?.getD 0)) := by
  rw [← List.getD_eq_getElem?_getD]; exact h.out.cell (by rw [h.len]; exact hk)
theorem DemSu.free (h : DemSu c n w B out wx) (k : Nat) : wx.frozen? ⟨B, k, none⟩ = false := h.out.free k
end
attribute [local go_sem ↓] exec_load_cfg
attribute [local go_sem] run_loadCfgS

set_option maxHeartbeats 1000000 in
set_option maxRecDepth 100000 in
theorem demandN_c (c : Cfg) (l : List (Int × Int)) (t : List Int) (w : World) (hn : CfgNums c) (hm : CfgMem c l t w) (hc : CfgCls c l) :
    Calls Tryz.prog 20 #[c.val] w (DemandN (demF c l) w) := by
  obtain ⟨a11, a12⟩ := hn.width
  have hp : 0 < l.length := hc.ok.pos
  have hp8 : l.length ≤ 8 := hc.ok.len
  obtain ⟨g, off, cap, hv, hgl, hcl⟩ := hm.classes.cell clsF_len hp
  have k1 := fitI_lt (8 * c.Width) hp
  have k2 := fitI_lt 32 hp
  have k3 := fitI_lt 24 hp
  have Hn := Lib.hid hn
  have Hm := Lib.hid hm
  have Hc := Lib.hid hc
  have Hv := Lib.hid hv
  have HR : Hid (∀ w', w.grownBy w' none → RdL clsF 2 w' (.slice (some ⟨g, off, none⟩) l.length cap) l) := Lib.hid fun w' hg => by rw [← hv]; exact (hm.same hg).classes
  have hmk := make_ints l.length (by omega)
  clear hn hm hc hcl hv
  go_enter Tryz.func20, Tryz.ntmps20
  go_upto_region 6 with (first | (refine box_cfg rfl _ rfl c rfl ?_; intro w1 B1 G1 z1) | (refine load_cfg rfl _ rfl _ rfl c (by assumption) ?_) | (go_at_call 37; refine (rconfig_c c l t _ Hn.out (Hm.out.same G1) Hc.out).mono ?_; rintro e w2 ⟨rfl, G2⟩; have B2 := B1.same G2; have K2 := grownBy_trans G1 G2; have hb2 := B2.cell; simp only [Cfg.arr, Hv.out] at hb2; have z2 := Nat.lt_of_lt_of_le z1 G2.size; clear G1 G2 B1 z1) | (go_at_call 38; refine (fit_c _ l _ _ (HR.out _ (grownBy_trans K2 (World.grownBy_alloc w2 _ _)))).mono ?_; rintro e w3 ⟨rfl, G3⟩; have B3 := (B2.same (World.grownBy_alloc w2 _ _)).same G3; have O3 := Lib.hid ((OutAt.new w2 l.length).kept G3 (by simp)); have K3 := grownBy_trans (grownBy_trans K2 (World.grownBy_alloc w2 _ _)) G3; have hb3 := B3.cell; simp only [Cfg.arr, Hv.out] at hb3; clear hb2 G3 B2))
  obtain ⟨B, hB⟩ : ∃ B, B = w2.heap.size := ⟨_, rfl⟩
  have S3 : DemSu c l.length w B (List.replicate l.length 0) w3 := ⟨B3, by simp, by rw [hB]; exact O3.out, K3, by rw [hB]; exact z2⟩
  have Hd1 := Lib.hid (show demB1 c l = addAt (List.replicate l.length 0) (fitI l (8 * c.Width)) (rowN c) from rfl)
  have hb0 := BdL.zero l.length (fitI l (8 * c.Width))
  have oc := (S3.cell k1)
  have oc' := (O3.out.cell (k := fitI l (8 * c.Width)) (by simpa using k1))
  have of := O3.out.free (fitI l (8 * c.Width))
  have ok : (0 : Int) ≤ (fitI l (8 * c.Width) : Nat) := by omega
  have ok' : ((fitI l (8 * c.Width) : Nat) : Int) < l.length := by omega
  clear oc'
  rw [← hB] at of
  rw [← hB]
  clear hmk B3 O3 K3 hB
  generalize List.replicate l.length (0 : Int) = o0 at *
  have R1 := rowN_bd Hn.out
  have R2 := trkN_bd Hn.out
  have R3 := queN_bd Hn.out
  unfold rowN at R1
  unfold trkN at R2
  unfold queN at R3
  have R4 : 0 ≤ c.Shards * c.Windows ∧ c.Shards * c.Windows ≤ 64 := ⟨Int.mul_nonneg (by have := Hn.out.shards; omega) (by have := Hn.out.windows; omega), by have := Int.mul_le_mul Hn.out.shards.2 Hn.out.windows.2 (by have := Hn.out.windows; omega) (by omega); simpa using this⟩
  obtain ⟨R1a, R1b⟩ := R1
  obtain ⟨R2a, R2b⟩ := R2
  obtain ⟨R3a, R3b⟩ := R3
  obtain ⟨R4a, R4b⟩ := R4
  obtain ⟨hb0a, hb0b⟩ := hb0
  obtain ⟨hsl1, hsl2⟩ := Hn.out.slots
  obtain ⟨hex1, hex2⟩ := Hn.out.exact
  go_cut [5] (fun s5 wx => s5 = .slice (some ⟨B, 0, none⟩) l.length l.length ∧ DemSu c l.length w B (demB1 c l) wx)
  case first =>
    go_still_tail 14, (by kernel_rfl)
    go_wp2_with fail
    go_meet
    exact ⟨rfl, by rw [Hd1.out]; exact S3.drew.add _ (rowN c)⟩
  case rest =>
    obtain ⟨rfl, S4⟩ := hcut
    clear hb3
    have hb4 := S4.box.cell
    simp only [Cfg.arr, Hv.out] at hb4
    go_upto_region 8 with (go_at_call 38; refine (fit_c _ l _ _ (HR.out _ S4.grown)).mono ?_; rintro e w5 ⟨rfl, G5⟩; have S5 := S4.same G5; clear G5 hb4)
    go_cut [5] (fun s5 wx => s5 = .slice (some ⟨B, 0, none⟩) l.length l.length ∧ DemSu c l.length w B (demB2 c l) wx)
    case first =>
      have Hd2 := Lib.hid (show demB2 c l = addAt (demB1 c l) (fitI l 32) (trkN c) from rfl)
      obtain ⟨bx0, bx1⟩ := demB1_bd (l := l) Hn.out (fitI l 32)
      generalize demB1 c l = o1 at *
      have hx5 := S5.cell k2
      have hk2 : (0 : Int) ≤ (fitI l 32 : Nat) := by omega
      have hk2' : ((fitI l 32 : Nat) : Int) < l.length := by omega
      obtain ⟨r1, r2, r3⟩ := S5.box.re
      have r4 := cell_regrown hx5
      have r5 := call_re (w := w5) fun w' hg => tracked_c c l t w' Hn.out (Hm.out.same (grownBy_trans S5.grown hg)) Hc.out
      refine Tail.wp_region_tail_grown 8 (by kernel_rfl) (by kernel_rfl) ?_
      simp only [List.take, List.drop]
      repeat (go_big_quiet_step (exact r5 _ _))
      refine wpQuiet_nil ?_
      rintro _ ⟨⟨d5, os5⟩, rfl⟩
      have S5' := S5.same (grown_re w5 d5 os5)
      have hx5' := S5'.cell k2
      have hf5 := S5'.free (fitI l 32)
      clear r1 r2 r3 r4 r5
      generalize Go.Sort.grow (redrawn w5 d5) os5 = w6 at *
      go_wp2_with fail
      go_meet
      exact ⟨rfl, by rw [Hd2.out]; exact S5'.add _ (trkN c)⟩
    case rest =>
      obtain ⟨rfl, S6⟩ := hcut
      have hb6 := S6.box.cell
      simp only [Cfg.arr, Hv.out] at hb6
      go_upto_region 10 with (go_at_call 38; refine (fit_c _ l _ _ (HR.out _ S6.grown)).mono ?_; rintro e w7 ⟨rfl, G7⟩; have S7 := S6.same G7; clear G7 hb6)
      go_cut [5] (fun s5 wx => s5 = .slice (some ⟨B, 0, none⟩) l.length l.length ∧ DemSu c l.length w B (demB c l) wx)
      case first =>
        have Hd3 := Lib.hid (show demB c l = addAt (demB2 c l) (fitI l 24) (queN c) from rfl)
        obtain ⟨bx0, bx1⟩ := demB2_bd (l := l) Hn.out (fitI l 24)
        generalize demB2 c l = o2 at *
        have hx7 := S7.cell k3
        have hk3 : (0 : Int) ≤ (fitI l 24 : Nat) := by omega
        have hk3' : ((fitI l 24 : Nat) : Int) < l.length := by omega
        have hf7 := S7.free (fitI l 24)
        have hb7 := S7.box.cell
        go_still_tail 11, (by kernel_rfl)
        go_wp2_with fail
        go_meet
        exact ⟨rfl, by rw [Hd3.out]; exact S7.drew.add _ (queN c)⟩
      case rest =>
        obtain ⟨rfl, S8⟩ := hcut
        obtain ⟨y1, y2⟩ := Hn.out.key
        have HF0 := Lib.hid (show keyF l (trkN c + queN c) (demB c l) 0 = (-1, demB c l) from rfl)
        have HFs := Lib.hid (p := ∀ n : Nat, keyF l (trkN c + queN c) (demB c l) (n + 1) = if ((fitI l ((n + 1 : Nat) : Int) : Nat) : Int) ≠ (keyF l (trkN c + queN c) (demB c l) n).1 then (((fitI l ((n + 1 : Nat) : Int) : Nat) : Int), addAt (keyF l (trkN c + queN c) (demB c l) n).2 (fitI l ((n + 1 : Nat) : Int)) (trkN c + queN c)) else keyF l (trkN c + queN c) (demB c l) n) (fun n => rfl)
        have HFe := Lib.hid (show demF c l = (keyF l (trkN c + queN c) (demB c l) c.Key.toNat).2 from rfl)
        have HFb := Lib.hid fun (n : Nat) (hn : n ≤ 256) => key_bd (l := l) Hn.out hn
        have HFl := Lib.hid (demF_len c l)
        generalize keyF l (trkN c + queN c) (demB c l) = F at *
        go_wp2_with fail
        go_loopw [12, 13] (fun s12 s13 wr => ∃ (k n : Nat) (la : Int) (o : List Int), k = n + 1 ∧ s13 = .int .i64 k ∧ s12 = .int .i64 la ∧ F n = (la, o) ∧ (k : Int) ≤ c.Key + 1 ∧ DemSu c l.length w B o wr) (fun _ s13 _ => (c.Key + 1 - intOf s13).toNat)
        case atStart => exact ⟨1, 0, -1, _, rfl, rfl, rfl, HF0.out, by omega, S8⟩
        case round =>
          obtain ⟨k, n, la, o9, hkn, rfl, rfl, hFn, hk, S9⟩ := hrel
          have hb9 := S9.box.cell
          simp only [Cfg.arr, Hv.out] at hb9
          have hbd := HFb.out n (by omega)
          have hFs := HFs.out n
          rw [hFn] at hbd hFs
          rw [← hkn] at hFs
          have HFn := Lib.hid hFs
          have HKn := Lib.hid hkn
          have HF2 := Lib.hid hFn
          clear hFs hkn hFn
          have kk := fitI_lt (l := l) (k : Int) hp
          by_cases hlt : (k : Int) ≤ c.Key
          · cases hq : ((fitI l (k : Int) : Int) != la)
            · have HQ := Lib.hid (show F k = (la, o9) from HFn.out.trans (if_neg (by simpa using hq)))
              go_wp2_with (go_at_call 38; refine (fit_c _ l _ _ (HR.out _ S9.grown)).mono ?_; rintro e w10 ⟨rfl, G10⟩)
              exact ⟨⟨k + 1, k, la, o9, rfl, by go_num, rfl, HQ.out, by omega, S9.same G10⟩, by simp [intOf]; omega⟩
            · have HQ := Lib.hid (show F k = (((fitI l (k : Int) : Nat) : Int), addAt o9 (fitI l (k : Int)) (trkN c + queN c)) from HFn.out.trans (if_pos (by simpa using hq)))
              go_wp2_with (go_at_call 38; refine (fit_c _ l _ _ (HR.out _ S9.grown)).mono ?_; rintro e w10 ⟨rfl, G10⟩; have S10 := S9.same G10; clear G10 hb9)
              have hx10 := S10.cell kk
              obtain ⟨bx0, bx1⟩ := hbd (fitI l (k : Int))
              have hk4 : (0 : Int) ≤ (fitI l (k : Int) : Nat) := by omega
              have hk4' : ((fitI l (k : Int) : Nat) : Int) < l.length := by omega
              obtain ⟨r1, r2, r3⟩ := S10.box.re
              have r4 := cell_regrown hx10
              have r5 := call_re (w := w10) fun w' hg => tracked_c c l t w' Hn.out (Hm.out.same (grownBy_trans S10.grown hg)) Hc.out
              refine Tail.wp_region_tail_grown 14 (by kernel_rfl) (by kernel_rfl) ?_
              simp only [List.take, List.drop]
              repeat (go_big_quiet_step (exact r5 _ _))
              refine wpQuiet_nil ?_
              rintro _ ⟨⟨d5, os5⟩, rfl⟩
              have S10' := S10.same (grown_re w10 d5 os5)
              have hx10' := S10'.cell kk
              have hf10 := S10'.free (fitI l (k : Int))
              clear r1 r2 r3 r4 r5 hx10
              generalize Go.Sort.grow (redrawn w10 d5) os5 = w11 at *
              go_wp2_with fail
              refine ⟨⟨k + 1, k, _, _, rfl, by go_num, rfl, HQ.out, by omega, S10'.add _ (trkN c + queN c)⟩, ?_⟩
              simp [intOf]; omega
          · have HQ := Lib.hid (show demF c l = o9 by rw [HFe.out, show c.Key.toNat = n by have := HKn.out; omega, HF2.out])
            go_wp2_with fail
            go_ret2
            have hl9 := HFl.out
            rw [HQ.out] at hl9 ⊢
            exact ⟨B, by rw [hl9]; rfl, Nat.le_of_lt S9.lt, S9.out, S9.grown⟩
end Go.Proofs.YtkdbapbmbhmaiaaGreat

/- The demand of a configuration: plain. -/
namespace Go.Proofs.YtkdbapbmbhmaiaaGreat
open Go.RowKit

/-- X is added for each of the first m classes. -/
def keysAdd (d : List Int) (X : Int) : Nat → List Int
  | 0 => d
  | m + 1 => addAt (keysAdd d X m) m X
theorem keysAdd_len (d : List Int) (X : Int) : ∀ m, (keysAdd d X m).length = d.length
  | 0 => rfl
  | m + 1 => by unfold keysAdd; rw [addAt_len, keysAdd_len d X m]
theorem addAt_get (o : List Int) (k : Nat) (x : Int) (j : Nat) : (addAt o k x)[j]?.getD 0 = if k = j ∧ j < o.length then o[j]?.getD 0 + x else o[j]?.getD 0 := by
  unfold addAt
  rw [List.getElem?_set]
  by_cases e : k = j
  · subst e
    rw [if_pos rfl]
    by_cases hl : k < o.length
    · rw [if_pos hl, if_pos ⟨rfl, hl⟩]; rfl
    · rw [if_neg hl, if_neg (fun h => hl h.2), List.getElem?_eq_none (by omega)]
  · rw [if_neg e, if_neg (fun h => e h.1)]
theorem keysAdd_get (d : List Int) (X : Int) : ∀ (m j : Nat), (keysAdd d X m)[j]?.getD 0 = if j < m ∧ j < d.length then d[j]?.getD 0 + X else d[j]?.getD 0
  | 0, j => by simp [keysAdd]
  | m + 1, j => by
    unfold keysAdd
    rw [addAt_get, keysAdd_len, keysAdd_get d X m j]
    by_cases h1 : m = j
    · subst h1
      by_cases h2 : m < d.length
      · rw [if_pos ⟨rfl, h2⟩, if_neg (by omega), if_pos ⟨by omega, h2⟩]
      · rw [if_neg (fun h => h2 h.2), if_neg (by omega), if_neg (fun h => h2 h.2)]
    · rw [if_neg (fun h => h1 h.1)]
      by_cases h2 : j < m ∧ j < d.length
      · rw [if_pos h2, if_pos ⟨by omega, h2.2⟩]
      · rw [if_neg h2, if_neg (fun h => h2 ⟨by omega, h.2⟩)]
theorem fitI_of {l : List (Int × Int)} {size : Int} {k : Nat} {p : Int × Int} (hs : 1 ≤ size) (h : ∀ (j : Nat) (p : Int × Int), j < k → l[j]? = some p → p.1 < size) (hk : l[k]? = some p) (hp : size ≤ p.1) : fitI l size = k := by
  unfold fitI; rw [fit_some hs h hk hp]; rfl
/-- What is fit, where a class is. -/
theorem fit_is {l : List (Int × Int)} {n : Int} (hn : 1 ≤ n) {q : Int × Int} {m : Nat} (hq : l[m]? = some q) (hl : n ≤ q.1) :
    ∃ p, l[fitI l n]? = some p ∧ n ≤ p.1 ∧ ∀ (j : Nat) (p : Int × Int), j < fitI l n → l[j]? = some p → p.1 < n := by
  unfold fitI fit
  rw [if_pos hn]
  cases hf : l.findIdx? (fun p => decide (n ≤ p.1)) with
  | none =>
    rw [List.findIdx?_eq_none_iff] at hf
    have := hf q (List.mem_of_getElem? hq)
    simp at this; omega
  | some k =>
    rw [List.findIdx?_eq_some_iff_getElem] at hf
    obtain ⟨h1, h2, h3⟩ := hf
    refine ⟨l[k], by simp [List.getElem?_eq_getElem h1], by simpa using h2, fun j p hj hp => ?_⟩
    simp only [Option.getD_some] at hj
    obtain ⟨h4, rfl⟩ := List.getElem?_eq_some_iff.1 hp
    have := h3 j hj
    simpa using this
theorem asc_lt {l : List (Int × Int)} (h : ClsOk l) : ∀ {d i : Nat} {p q : Int × Int}, l[i]? = some p → l[i + d + 1]? = some q → p.1 < q.1
  | 0, i, p, q, hp, hq => h.asc i p q hp hq
  | d + 1, i, p, q, hp, hq => by
    have hlt := (List.getElem?_eq_some_iff.1 hq).1
    have h1 := h.asc (i + d + 1) _ q (List.getElem?_eq_getElem (by omega)) hq
    have h2 := asc_lt h (d := d) hp (List.getElem?_eq_getElem (by omega))
    omega
theorem fit_step {l : List (Int × Int)} (h : ClsOk l) {n : Int} (hn : 1 ≤ n) {q : Int × Int} {m : Nat} (hq : l[m]? = some q) (hl : n + 1 ≤ q.1) : fitI l (n + 1) = fitI l n ∨ fitI l (n + 1) = fitI l n + 1 := by
  obtain ⟨p, hp, h1, h2⟩ := fit_is hn hq (by omega)
  by_cases hb : n + 1 ≤ p.1
  · exact .inl (fitI_of (by omega) (fun j p hj hp => by have := h2 j p hj hp; omega) hp hb)
  · right
    have hmk : fitI l n < m := by
      rcases Nat.lt_trichotomy (fitI l n) m with h3 | h3 | h3
      · exact h3
      · rw [h3, hq] at hp; cases hp; omega
      · have := h2 m q h3 hq; omega
    have hml := (List.getElem?_eq_some_iff.1 hq).1
    have hp2 : l[fitI l n + 1]? = some l[fitI l n + 1] := List.getElem?_eq_getElem (by omega)
    have h4 := h.asc _ _ _ hp hp2
    refine fitI_of (by omega) (fun j p' hj hp' => ?_) hp2 (by omega)
    rcases Nat.lt_or_ge j (fitI l n) with h5 | h5
    · have := h2 j p' h5 hp'; omega
    · obtain rfl : j = fitI l n := by omega
      rw [hp'] at hp; cases hp; omega
theorem fit_one {l : List (Int × Int)} (h : ClsOk l) : fitI l 1 = 0 := by
  have hp : l[0]? = some (l[0]'h.pos) := List.getElem?_eq_getElem h.pos
  exact fitI_of (by omega) (fun j p hj _ => absurd hj (by omega)) hp (h.size 0 _ hp).1
/-- The keys' slots: one for each class up to that of the longest key. -/
theorem keyF_is {l : List (Int × Int)} (h : ClsOk l) (X : Int) (d : List Int) {q : Int × Int} {m : Nat} (hq : l[m]? = some q) : ∀ n : Nat, ((n + 1 : Nat) : Int) ≤ q.1 → keyF l X d (n + 1) = ((fitI l ((n + 1 : Nat) : Int) : Int), keysAdd d X (fitI l ((n + 1 : Nat) : Int) + 1))
  | 0, _ => by
    have h1 : fitI l ((0 + 1 : Nat) : Int) = 0 := fit_one h
    unfold keyF
    rw [h1]
    simp [keyF, keysAdd]
  | n + 1, hn => by
    have ih := keyF_is h X d hq n (by omega)
    unfold keyF
    rw [ih]
    have hs := fit_step h (n := ((n + 1 : Nat) : Int)) (by omega) hq (by omega)
    rw [show ((n + 1 : Nat) : Int) + 1 = ((n + 1 + 1 : Nat) : Int) by omega] at hs
    rcases hs with e | e
    · rw [e, if_neg (by simp)]
    · rw [e, if_pos (by simp only; omega)]
      rfl
theorem demF_is {c : Cfg} {l : List (Int × Int)} (hn : CfgNums c) (hc : CfgCls c l) : demF c l = keysAdd (demB c l) (trkN c + queN c) (fitI l c.Key + 1) := by
  have hk := hn.key
  have hp := hc.ok.pos
  have hq : l[l.length - 1]? = some (l[l.length - 1]'(by omega)) := List.getElem?_eq_getElem (by omega)
  obtain ⟨k, hkk⟩ : ∃ k : Nat, c.Key.toNat = k + 1 := ⟨c.Key.toNat - 1, by omega⟩
  have hk2 : ((k + 1 : Nat) : Int) = c.Key := by omega
  unfold demF
  rw [hkk, keyF_is hc.ok _ _ hq k (by rw [hk2]; exact (hc.last _ hq).2.2), hk2]
theorem demF_le {c : Cfg} {l : List (Int × Int)} (hn : CfgNums c) (hc : CfgCls c l) (i : Nat) : 0 ≤ (demF c l)[i]?.getD 0 ∧ (demF c l)[i]?.getD 0 ≤ 13568 := by
  have h1 := trkN_bd hn
  have h2 := queN_bd hn
  have h3 := demB_bd (l := l) hn i
  rw [demF_is hn hc, keysAdd_get]
  split <;> omega
/-- Only the sizes count. -/
theorem fitI_sizes {l l' : List (Int × Int)} (h : l.map (·.1) = l'.map (·.1)) (n : Int) : fitI l n = fitI l' n := by
  have key : ∀ l : List (Int × Int), fit l n = if 1 ≤ n then (l.map (·.1)).findIdx? (fun s => decide (n ≤ s)) else none := by
    intro l
    unfold fit
    split
    · rw [List.findIdx?_map]; rfl
    · rfl
  unfold fitI
  rw [key, key, h]
theorem demB_sizes {c : Cfg} {l l' : List (Int × Int)} (h : l.map (·.1) = l'.map (·.1)) : demB c l = demB c l' := by
  have hl : l.length = l'.length := by have := congrArg List.length h; simpa using this
  unfold demB demB2 demB1
  rw [fitI_sizes h, fitI_sizes h, fitI_sizes h, hl]
theorem keyF_sizes {l l' : List (Int × Int)} (h : l.map (·.1) = l'.map (·.1)) (X : Int) (d : List Int) : ∀ n, keyF l X d n = keyF l' X d n
  | 0 => rfl
  | n + 1 => by unfold keyF; rw [keyF_sizes h X d n, fitI_sizes h]
theorem demF_sizes {c : Cfg} {l l' : List (Int × Int)} (h : l.map (·.1) = l'.map (·.1)) : demF c l = demF c l' := by
  unfold demF; rw [demB_sizes h, keyF_sizes h]
end Go.Proofs.YtkdbapbmbhmaiaaGreat
