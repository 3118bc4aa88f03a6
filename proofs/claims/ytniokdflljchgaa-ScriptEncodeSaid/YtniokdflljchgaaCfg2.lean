/- What the references say of a valid configuration: Config, Tracked. -/
import Derived.Test.YtniokdflljchgaaCfg
namespace Go.Proofs.Ytniokdflljchgaa
open Go.RowKit

@[go_sem] theorem run_max_int4 {P : Program} (w : World) (ts : Array TypeId) (t : TypeId) (k k' k'' k3 : IntKind) (x y z u : Int) : (Builtin.max_ ts t #[.int k x, .int k' y, .int k'' z, .int k3 u]).run P w = .ok (.int k (max (max (max x y) z) u)) w := by
  have e : ∀ a b : Int, (if b > a then b else a) = max a b := fun a b => by
    rw [Int.max_def]; split <;> split <;> omega
  simp [Builtin.max_, Builtin.max2, e]

set_option maxHeartbeats 1000000 in
set_option maxRecDepth 100000 in
theorem rconfig_c (c : Cfg) (l : List (Int × Int)) (t : List Int) (w : World) (hn : CfgNums c) (hm : CfgMem c l t w) (hc : CfgCls c l) :
    Calls Try.prog 85 #[c.val] w fun e w' => e = .returned (.int .i64 0) ∧ w.grownBy w' none := by
  obtain ⟨a1, a2⟩ := hn.queue
  obtain ⟨a3, a4⟩ := hn.slots
  obtain ⟨a5, a6⟩ := hn.exact
  obtain ⟨a7, a8⟩ := hn.depth
  obtain ⟨a9, a10⟩ := hn.width
  obtain ⟨a11, a12⟩ := hn.top
  obtain ⟨a13, a14⟩ := hn.key
  have b1 : decide (c.Queue < 1) = false := decide_eq_false (by omega)
  have b2 : decide (64 < c.Queue) = false := decide_eq_false (by omega)
  have b3 : decide (c.Slots < 1) = false := decide_eq_false (by omega)
  have b4 : decide (64 < c.Slots) = false := decide_eq_false (by omega)
  have b5 : decide (c.Exact < 0) = false := decide_eq_false (by omega)
  have b6 : decide (32 < c.Exact) = false := decide_eq_false (by omega)
  have b7 : decide (c.Depth < 1) = false := decide_eq_false (by omega)
  have b8 : decide (4 < c.Depth) = false := decide_eq_false (by omega)
  have b9 : decide (c.Width < 1) = false := decide_eq_false (by omega)
  have b10 : decide (256 < c.Width) = false := decide_eq_false (by omega)
  have b11 : decide (c.Top < 1) = false := decide_eq_false (by omega)
  have b12 : decide (64 < c.Top) = false := decide_eq_false (by omega)
  have b13 : decide (c.Key < 1) = false := decide_eq_false (by omega)
  have b14 : decide (255 < c.Key) = false := decide_eq_false (by omega)
  have hp := hc.ok.pos
  obtain ⟨g, off, cap, hv, hgl, hcl⟩ := hm.classes.cell clsF_len hp
  obtain ⟨p, hlast⟩ : ∃ p, l[l.length - 1]? = some p := ⟨l[l.length - 1], List.getElem?_eq_getElem (by omega)⟩
  have c0 : w.cell? ⟨g, off + (l.length - 1) * 2, none⟩ = some (.int .i64 p.1) := hcl _ p hlast 0 _ rfl
  obtain ⟨q1, q2, q3⟩ := hc.last p hlast
  have e1 : ((l.length : Int) - 1).toNat = l.length - 1 := by omega
  have e2 : (1 : Int) ≤ l.length := by omega
  have e3 : (0 : Int) ≤ (l.length : Int) - 1 := by omega
  have e4 : 1 ≤ l.length := hp
  have e5 : l.length ≤ 8 := hc.ok.len
  have b15 : decide (p.1 < max (max (max (8 * c.Width) 32) 24) c.Key) = false := decide_eq_false (by omega)
  have Hn := Lib.hid hn
  have Hm := Lib.hid hm
  have Hc := Lib.hid hc
  have Hv := Lib.hid hv
  have Hmode := Lib.hid hn.mode
  have hpos := Lib.hid hp
  clear hn hm hc hcl hlast hv a1 a2 a3 a4 a5 a6 a7 a8 a11 a12
  have am : ∃ m1 m2, (c.Mode != 1) = m1 ∧ (c.Mode != 2) = m2 ∧ (m1 && m2) = false := by
    refine ⟨_, _, rfl, rfl, ?_⟩
    rcases Hmode.out with h | h <;> simp [h]
  obtain ⟨m1, m2, am1, am2, am3⟩ := am
  cases m1 <;> cases m2
  case true.true => simp at am3
  all_goals
    clear am3
    go_enter Try.func85, Try.ntmps85
    go_upto_region 1 with (refine box_cfg rfl _ rfl c rfl ?_; intro w1 B1 G1 z1)
    simp only [List.append_eq, List.cons_append, List.nil_append]
    go_wp2_with (first | (refine box_cfg rfl _ rfl c rfl ?_; intro w1 B1 G1 z1) | (refine load_cfg rfl _ rfl _ rfl c (by assumption) ?_) | (refine load_cfg_if rfl _ rfl _ rfl c (by assumption) ?_) | (go_at_call 95; refine (rclock_c c _ Hn.out).mono ?_; rintro e w2 ⟨rfl, G2⟩; have B2 := B1.same G2; have K2 := grownBy_trans G1 G2; clear B1 G1 G2) | (go_at_call 96; refine (routes_c c l t _ Hn.out (Hm.out.same K2)).mono ?_; rintro e w3 ⟨rfl, G3⟩; have B3 := B2.same G3; have K3 := grownBy_trans K2 G3; have hb3 := B3.cell; clear B2 G3 K2) | (go_at_call 97; refine (classes_c _ l _ (Hm.out.same K3).classes Hc.out.ok).mono ?_; rintro e w4 ⟨rfl, G4⟩; have hb4 := (B3.same G4).cell; have K4 := Lib.hid (grownBy_trans K3 G4); simp only [Cfg.arr, Hv.out] at hb4; have hc4 := ((grownBy_cells K4.out).1 _ (off + (l.length - 1) * 2) hgl (by simp)).trans c0; clear hb3 B3 G4 K3))
    go_ret
    exact ⟨rfl, K4.out⟩

set_option maxHeartbeats 1000000 in
theorem tracked_c (c : Cfg) (l : List (Int × Int)) (t : List Int) (w : World) (hn : CfgNums c) (hm : CfgMem c l t w) (hc : CfgCls c l) :
    Calls Try.prog 87 #[c.val] w fun e w' => e = .returned (.int .i64 (c.Shards * c.Windows * (c.Slots + c.Exact))) ∧ w.grownBy w' none := by
  obtain ⟨a1, a2⟩ := hn.shards
  obtain ⟨a3, a4⟩ := hn.windows
  obtain ⟨a5, a6⟩ := hn.slots
  obtain ⟨a7, a8⟩ := hn.exact
  have m1 : c.Shards * c.Windows ≤ 64 := by
    have := Int.mul_le_mul a2 a4 (by omega) (by omega); simpa using this
  have m0 : 0 ≤ c.Shards * c.Windows := Int.mul_nonneg (by omega) (by omega)
  have m2 : c.Shards * c.Windows * (c.Slots + c.Exact) ≤ 6144 := by
    have := Int.mul_le_mul m1 (show c.Slots + c.Exact ≤ 96 by omega) (by omega) (by omega); simpa using this
  have m3 : 0 ≤ c.Shards * c.Windows * (c.Slots + c.Exact) := Int.mul_nonneg m0 (by omega)
  have Hn := Lib.hid hn
  have Hm := Lib.hid hm
  have Hc := Lib.hid hc
  clear hn hm hc
  go_enter Try.func87, Try.ntmps87
  go_wp2_with (first | (refine box_cfg rfl _ rfl c rfl ?_; intro w1 B1 G1 z1) | (refine load_cfg rfl _ rfl _ rfl c (by assumption) ?_) | (go_at_call 85; refine (rconfig_c c l t _ Hn.out (Hm.out.same G1) Hc.out).mono ?_; rintro e w2 ⟨rfl, G2⟩; have hb2 := (BoxAt.same (by assumption) G2).cell))
  go_ret
  exact ⟨rfl, grownBy_trans G1 G2⟩
end Go.Proofs.Ytniokdflljchgaa
