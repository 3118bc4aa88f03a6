/- The demand of a configuration, as it is specified: what it leaves, its numbers not said. -/
import Derived.Test.YtniokdflljchgaaCfg2
import Derived.Test.YtniokdflljchgaaOut
import Derived.StillTailTactics
import Derived.Deep.CutBlock
import Derived.Deep.RegionLaw
namespace Go.Proofs.Ytniokdflljchgaa
open Go.RowKit

/-- What Demand leaves (its numbers are not said here). -/
def DemandPost (n : Nat) (w : World) (e : Ending) (w' : World) : Prop :=
  ∃ B out, e = .returned (.tuple #[.slice (some ⟨B, 0, none⟩) n n, .int .i64 0]) ∧ w.heap.size ≤ B ∧ OutAt w' B out ∧ out.length = n ∧ w.grownBy w' none

structure DemSt (c : Cfg) (n : Nat) (w : World) (B : Nat) (wx : World) : Prop where
  box : BoxAt wx w.heap.size c
  out : ∃ out, OutAt wx B out ∧ out.length = n
  grown : w.grownBy wx none
  lt : w.heap.size < B
theorem DemSt.set {c : Cfg} {n : Nat} {w : World} {B : Nat} {wx : World} (h : DemSt c n w B wx) (k : Nat) (x : Int) : DemSt c n w B (wx.setCell ⟨B, k, none⟩ (.int .i64 x)) := by
  obtain ⟨out, ho, hl⟩ := h.out
  refine ⟨h.box.kept (grownBy_set (grownBy_refl wx _) k _) (by have := h.lt; simp; omega), ⟨_, ho.set k x, by simpa using hl⟩, grownBy_setNew h.grown (Nat.le_of_lt h.lt) _, h.lt⟩
theorem DemSt.drew {c : Cfg} {n : Nat} {w : World} {B : Nat} {wx : World} (h : DemSt c n w B wx) : DemSt c n w B wx.drew := ⟨⟨h.box.block⟩, h.out, grownBy_drew h.grown, h.lt⟩
theorem DemSt.same {c : Cfg} {n : Nat} {w : World} {B : Nat} {wx wy : World} (h : DemSt c n w B wx) (hg : wx.grownBy wy none) : DemSt c n w B wy := by
  obtain ⟨out, ho, hl⟩ := h.out
  exact ⟨h.box.same hg, ⟨out, ho.kept hg (by simp), hl⟩, grownBy_trans h.grown hg, h.lt⟩

theorem DemSt.cell {c : Cfg} {n : Nat} {w : World} {B : Nat} {wx : World} (h : DemSt c n w B wx) {k : Nat} (hk : k < n) : ∃ x, wx.cell? ⟨B, k, none⟩ = some (.int .i64 x) := by
  obtain ⟨out, ho, hl⟩ := h.out
  exact ⟨_, ho.cell (by omega)⟩
theorem DemSt.free {c : Cfg} {n : Nat} {w : World} {B : Nat} {wx : World} (h : DemSt c n w B wx) (k : Nat) : wx.frozen? ⟨B, k, none⟩ = false := by
  obtain ⟨out, ho, hl⟩ := h.out
  exact ho.free k
theorem DemSt.bLt {c : Cfg} {n : Nat} {w : World} {B : Nat} {wx : World} (h : DemSt c n w B wx) : B < wx.heap.size := by
  obtain ⟨out, ho, hl⟩ := h.out
  exact ho.lt
theorem keepS {c : Cfg} {n : Nat} {w : World} {B k : Nat} {x : Value} {w1 w2 : World} (hg : w1.grownBy w2 none) (h2 : DemSt c n w B w1) (h1 : w1.cell? ⟨B, k, none⟩ = some x) :
    w2.cell? ⟨B, k, none⟩ = some x ∧ w2.frozen? ⟨B, k, none⟩ = false ∧ isCfg w2 w.heap.size = true ∧ readCfg w2 w.heap.size = c.val ∧ DemSt c n w B w2 :=
  ⟨((grownBy_cells hg).1 B k h2.bLt (by simp)).trans h1, (h2.same hg).free k, (h2.same hg).box.is, (h2.same hg).box.reads, h2.same hg⟩

theorem keepH {c : Cfg} {n : Nat} {w : World} {B k : Nat} {x : Value} {w1 w2 : World} (hg : w1.grownBy w2 none)
    (h : w1.cell? ⟨B, k, none⟩ = some x ∧ w1.frozen? ⟨B, k, none⟩ = false ∧ isCfg w1 w.heap.size = true ∧ readCfg w1 w.heap.size = c.val ∧ DemSt c n w B w1) :
    w2.cell? ⟨B, k, none⟩ = some x ∧ w2.frozen? ⟨B, k, none⟩ = false ∧ isCfg w2 w.heap.size = true ∧ readCfg w2 w.heap.size = c.val ∧ DemSt c n w B w2 :=
  keepS hg h.2.2.2.2 h.1
theorem grownH {c : Cfg} {n : Nat} {w : World} {B : Nat} {w1 : World} {p q r s : Prop} (h : p ∧ q ∧ r ∧ s ∧ DemSt c n w B w1) : w.grownBy w1 none := h.2.2.2.2.grown

attribute [local go_sem ↓] exec_load_cfg
attribute [local go_sem] run_loadCfgS

set_option maxHeartbeats 1000000 in
set_option maxRecDepth 100000 in
theorem demand_c (c : Cfg) (l : List (Int × Int)) (t : List Int) (w : World) (hn : CfgNums c) (hm : CfgMem c l t w) (hc : CfgCls c l) :
    Calls Try.prog 67 #[c.val] w (DemandPost l.length w) := by
  obtain ⟨a11, a12⟩ := hn.width
  have hp : 0 < l.length := hc.ok.pos
  have hp8 : l.length ≤ 8 := hc.ok.len
  obtain ⟨g, off, cap, hv, hgl, hcl⟩ := hm.classes.cell clsF_len hp
  have k1 := fitI_lt (8 * c.Width) hp
  have k2 := fitI_lt 32 hp
  have k3 := fitI_lt 24 hp
  have Hn := Lib.hid hn
  have Hm := Lib.hid hm
  have Hc := Lib.hid hc
  have Hv := Lib.hid hv
  have HR : Hid (∀ w', w.grownBy w' none → RdL clsF 2 w' (.slice (some ⟨g, off, none⟩) l.length cap) l) := Lib.hid fun w' hg => by rw [← hv]; exact (hm.same hg).classes
  have hmk := make_ints l.length (by omega)
  clear hn hm hc hcl hv
  go_enter Try.func67, Try.ntmps67
  go_upto_region 6 with (first | (refine box_cfg rfl _ rfl c rfl ?_; intro w1 B1 G1 z1) | (refine load_cfg rfl _ rfl _ rfl c (by assumption) ?_) | (go_at_call 85; refine (rconfig_c c l t _ Hn.out (Hm.out.same G1) Hc.out).mono ?_; rintro e w2 ⟨rfl, G2⟩; have B2 := B1.same G2; have K2 := grownBy_trans G1 G2; have hb2 := B2.cell; simp only [Cfg.arr, Hv.out] at hb2; have z2 := Nat.lt_of_lt_of_le z1 G2.size; clear G1 G2 B1 z1) | (go_at_call 86; refine (fit_c _ l _ _ (HR.out _ (grownBy_trans K2 (World.grownBy_alloc w2 _ _)))).mono ?_; rintro e w3 ⟨rfl, G3⟩; have B3 := (B2.same (World.grownBy_alloc w2 _ _)).same G3; have O3 := Lib.hid ((OutAt.new w2 l.length).kept G3 (by simp)); have K3 := grownBy_trans (grownBy_trans K2 (World.grownBy_alloc w2 _ _)) G3; have hb3 := B3.cell; simp only [Cfg.arr, Hv.out] at hb3; clear hb2 G3 B2))
  obtain ⟨B, hB⟩ : ∃ B, B = w2.heap.size := ⟨_, rfl⟩
  have S3 : DemSt c l.length w B w3 := ⟨B3, ⟨_, by rw [hB]; exact O3.out, by simp⟩, K3, by rw [hB]; exact z2⟩
  have oc := (O3.out.cell (k := fitI l (8 * c.Width)) (by simpa using k1))
  have of := O3.out.free (fitI l (8 * c.Width))
  have ok : (0 : Int) ≤ (fitI l (8 * c.Width) : Nat) := by omega
  have ok' : ((fitI l (8 * c.Width) : Nat) : Int) < l.length := by omega
  rw [← hB] at oc of
  rw [← hB]
  clear hmk B3 O3 K3 hB
  go_cut [5] (fun s5 wx => s5 = .slice (some ⟨B, 0, none⟩) l.length l.length ∧ DemSt c l.length w B wx)
  case first =>
    go_still_tail 14, (by kernel_rfl)
    go_wp2_with fail
    go_meet
    exact ⟨rfl, S3.drew.set _ _⟩
  case rest =>
    obtain ⟨rfl, S4⟩ := hcut
    clear hb3
    have hb4 := S4.box.cell
    simp only [Cfg.arr, Hv.out] at hb4
    go_upto_region 8 with (go_at_call 86; refine (fit_c _ l _ _ (HR.out _ S4.grown)).mono ?_; rintro e w5 ⟨rfl, G5⟩; have S5 := S4.same G5; clear G5 hb4)
    go_cut [5] (fun s5 wx => s5 = .slice (some ⟨B, 0, none⟩) l.length l.length ∧ DemSt c l.length w B wx)
    case first =>
      obtain ⟨x5, hx5⟩ := S5.cell k2
      have hk2 : (0 : Int) ≤ (fitI l 32 : Nat) := by omega
      have hk2' : ((fitI l 32 : Nat) : Int) < l.length := by omega
      obtain ⟨r1, r2, r3⟩ := S5.box.re
      have r4 := cell_regrown hx5
      have r5 := call_re (w := w5) fun w' hg => tracked_c c l t w' Hn.out (Hm.out.same (grownBy_trans S5.grown hg)) Hc.out
      refine Tail.wp_region_tail_grown 8 (by kernel_rfl) (by kernel_rfl) ?_
      simp only [List.take, List.drop]
      repeat (go_big_quiet_step (exact r5 _ _))
      refine wpQuiet_nil ?_
      rintro _ ⟨⟨d5, os5⟩, rfl⟩
      have S5' := S5.same (grown_re w5 d5 os5)
      have hx5' := S5'.cell k2
      have hf5 := S5'.free (fitI l 32)
      clear r1 r2 r3 r4 r5
      generalize Go.Sort.grow (redrawn w5 d5) os5 = w6 at *
      obtain ⟨x6, hx6⟩ := hx5'
      go_wp2_with fail
      go_meet
      exact ⟨rfl, DemSt.set (by assumption) _ _⟩
    case rest =>
      obtain ⟨rfl, S6⟩ := hcut
      have hb6 := S6.box.cell
      simp only [Cfg.arr, Hv.out] at hb6
      go_upto_region 10 with (go_at_call 86; refine (fit_c _ l _ _ (HR.out _ S6.grown)).mono ?_; rintro e w7 ⟨rfl, G7⟩; have S7 := S6.same G7; clear G7 hb6)
      go_cut [5] (fun s5 wx => s5 = .slice (some ⟨B, 0, none⟩) l.length l.length ∧ DemSt c l.length w B wx)
      case first =>
        obtain ⟨x7, hx7⟩ := S7.cell k3
        have hk3 : (0 : Int) ≤ (fitI l 24 : Nat) := by omega
        have hk3' : ((fitI l 24 : Nat) : Int) < l.length := by omega
        have hf7 := S7.free (fitI l 24)
        have hb7 := S7.box.cell
        go_still_tail 11, (by kernel_rfl)
        go_wp2_with fail
        go_meet
        exact ⟨rfl, S7.drew.set _ _⟩
      case rest =>
        obtain ⟨rfl, S8⟩ := hcut
        obtain ⟨y1, y2⟩ := Hn.out.key
        go_wp2_with fail
        go_loopw [12, 13] (fun s12 s13 wr => ∃ (k : Nat) (la : Int), s13 = .int .i64 k ∧ s12 = .int .i64 la ∧ (k : Int) ≤ c.Key + 1 ∧ DemSt c l.length w B wr) (fun _ s13 _ => (c.Key + 1 - intOf s13).toNat)
        case atStart => exact ⟨1, -1, rfl, rfl, by omega, S8⟩
        case round =>
          obtain ⟨k, la, rfl, rfl, hk, S9⟩ := hrel
          have hb9 := S9.box.cell
          simp only [Cfg.arr, Hv.out] at hb9
          have kk := fitI_lt (l := l) (k : Int) hp
          by_cases hlt : (k : Int) ≤ c.Key
          · cases hq : ((fitI l (k : Int) : Int) != la)
            · go_wp2_with (go_at_call 86; refine (fit_c _ l _ _ (HR.out _ S9.grown)).mono ?_; rintro e w10 ⟨rfl, G10⟩)
              exact ⟨⟨k + 1, la, by go_num, rfl, by omega, S9.same G10⟩, by simp [intOf]; omega⟩
            · go_wp2_with (go_at_call 86; refine (fit_c _ l _ _ (HR.out _ S9.grown)).mono ?_; rintro e w10 ⟨rfl, G10⟩; have S10 := S9.same G10; clear G10 hb9)
              obtain ⟨x10, hx10⟩ := S10.cell kk
              have hk4 : (0 : Int) ≤ (fitI l (k : Int) : Nat) := by omega
              have hk4' : ((fitI l (k : Int) : Nat) : Int) < l.length := by omega
              obtain ⟨r1, r2, r3⟩ := S10.box.re
              have r4 := cell_regrown hx10
              have r5 := call_re (w := w10) fun w' hg => tracked_c c l t w' Hn.out (Hm.out.same (grownBy_trans S10.grown hg)) Hc.out
              refine Tail.wp_region_tail_grown 14 (by kernel_rfl) (by kernel_rfl) ?_
              simp only [List.take, List.drop]
              repeat (go_big_quiet_step (exact r5 _ _))
              refine wpQuiet_nil ?_
              rintro _ ⟨⟨d5, os5⟩, rfl⟩
              have S10' := S10.same (grown_re w10 d5 os5)
              have hx10' := S10'.cell kk
              have hf10 := S10'.free (fitI l (k : Int))
              clear r1 r2 r3 r4 r5 hx10
              generalize Go.Sort.grow (redrawn w10 d5) os5 = w11 at *
              obtain ⟨x11, hx11⟩ := hx10'
              go_wp2_with fail
              refine ⟨⟨k + 1, _, by go_num, rfl, by omega, S10'.set _ _⟩, ?_⟩
              simp [intOf]; omega
          · go_wp2_with fail
            go_ret2
            obtain ⟨out, ho, hl⟩ := S9.out
            exact ⟨B, out, rfl, Nat.le_of_lt S9.lt, ho, hl, S9.grown⟩
end Go.Proofs.Ytniokdflljchgaa
