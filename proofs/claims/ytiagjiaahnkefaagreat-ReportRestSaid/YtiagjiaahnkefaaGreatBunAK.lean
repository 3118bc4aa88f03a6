/- Several texts in one file; each begins with a comment that says what is proved in it. -/
import Derived.Test.YtiagjiaahnkefaaGreatBunAJ
import Derived.Test.YtiagjiaahnkefaaGreatBunAG
import Derived.Test.YtiagjiaahnkefaaGreatBunAI
import Derived.Test.YtiagjiaahnkefaaGreatBunAC
import Derived.Test.YtiagjiaahnkefaaGreatBunAE
import Derived.Test.YtiagjiaahnkefaaGreatBunAA
import Derived.Test.YtiagjiaahnkefaaGreatBunAB
import Derived.Laws.StructEq
import Derived.Test.YtiagjiaahnkefaaGreatBunAF
import Derived.Test.YtiagjiaahnkefaaGreatBunAH
import Derived.Laws.Bits128

/- The deck's configuration, summaries and report. -/
namespace Go.Proofs.YtiagjiaahnkefaaGreat
open Go.RowKit Go.Sort
attribute [local go_sem ↓] exec_load_cfg
attribute [local go_sem] run_loadCfgS

structure FewG (B lo : Nat) (c : Cfg) (lc : List (Int × Int)) (t : List Int) (lv : Value) (l : List Summ) (w : World) : Prop where
  nums : CfgNums c
  mem : CfgMem c lc t w
  tb : ∀ (a : Addr) (n m : Nat), c.Table = .slice (some a) n m → B ≤ a.block
  cl : ∀ (a : Addr) (n m : Nat), c.Classes = .slice (some a) n m → B ≤ a.block
  sums : SumsG lo c w lv l
  len : (l.length : Int) = c.Shards
  le : B ≤ lo
theorem FewG.few {B lo : Nat} {c : Cfg} {lc : List (Int × Int)} {t : List Int} {lv : Value} {l : List Summ} {w : World} (h : FewG B lo c lc t lv l w) : Few c lc t lv l w := ⟨h.nums, h.mem, h.sums.rd, fun s hs => (h.sums.all s hs).2.2.1, h.len⟩
theorem FewG.kept {B lo : Nat} {c : Cfg} {lc : List (Int × Int)} {t : List Int} {lv : Value} {l : List Summ} {w w' : World} {b : Nat} (h : FewG B lo c lc t lv l w) (hg : w.grownBy w' (some b)) (hb : b < B) : FewG B lo c lc t lv l w' :=
  ⟨h.nums, h.mem.off hg (fun k e => by cases e; exact hb) h.tb h.cl, h.tb, h.cl, h.sums.kept hg (fun k e => by cases e; exact Nat.lt_of_lt_of_le hb h.le), h.len, h.le⟩
/-- What the deck deals for chapter 24. -/
def FewPost (w : World) (e : Ending) (w' : World) : Prop :=
  ∃ (c : Cfg) (lc : List (Int × Int)) (t : List Int) (lv : Value) (l : List Summ) (win : Int) (rej : List Int) (vl vr : Value),
    e = .returned (.tuple #[c.val, lv, repV win (totalF l) vl (bOver c t l) ((keysF l).length : Int) (bRest c t l) vr]) ∧
    Few c lc t lv l w' ∧ RdL lnF 3 w' vl (bLs c t l) ∧ RdL wordF 1 w' vr rej ∧ CapOk vl ∧ CapOk vr ∧ (0 ≤ win ∧ win < 1000) ∧ rej.length = 7 ∧ rej[0]? = some 0 ∧ (∀ n ∈ rej, 0 ≤ n ∧ n ≤ 8) ∧ w.grownBy w' none

theorem Blk.words7 {w : World} {g : Nat} {l : List Int} (h : Blk w g (wordCells l)) (hl : l.length = 7) : RdL wordF 1 w (.slice (some ⟨g, 0, none⟩) 7 7) l := by
  have := h.words (by omega)
  rwa [hl] at this
set_option maxHeartbeats 2000000 in
set_option maxRecDepth 100000 in
theorem few24_c (sv : Value) (xs : List Int) (n : Nat) (w : World) (hsv : Rd w 1 sv n (xs.map (fun x => Value.int .i64 x))) : Calls Tryz.prog 7 #[sv] w (FewPost w) := by
  have HS := Lib.hid hsv
  obtain ⟨sa, sc, rfl⟩ := hsv.shape
  clear hsv
  go_enter Tryz.func7, Tryz.ntmps7
  go_upto_region 1 with (refine alloc_cfg rfl rfl ?_; intro wa Ba Ga za)
  have Bb := Ba.same (World.grownBy_alloc wa (.cells #[.int .i64 0, .int .u64 0, .slice none 0 0, .int .u64 0, .int .i64 0, .int .u64 0, .slice none 0 0] 32) none)
  have Ab := Blk.new wa #[.int .i64 0, .int .u64 0, .slice none 0 0, .int .u64 0, .int .i64 0, .int .u64 0, .slice none 0 0] 32
  have Gb := grownBy_new_block Ga (.cells #[.int .i64 0, .int .u64 0, .slice none 0 0, .int .u64 0, .int .i64 0, .int .u64 0, .slice none 0 0] 32)
  generalize wa.alloc (.cells #[.int .i64 0, .int .u64 0, .slice none 0 0, .int .u64 0, .int .i64 0, .int .u64 0, .slice none 0 0] 32) = wb at *
  generalize wa.heap.size = br at *
  have HSb := Lib.hid (Rd.same HS.out Gb)
  have hbr := Ab.lt
  clear HS Ba Ga
  go_upto_region 4 with (first | (go_at_call 17; refine (new_c _ _ _ _ HSb.out).mono ?_; rintro e w1 ⟨rfl, D1, G1⟩) | (go_at_call 18; refine (config2_c _ _ D1 (Nat.le_refl _)).mono ?_; rintro e w2 ⟨c, lc, t, rfl, N2, M2, D2, G2, T2, C2⟩; have z12 := G2.size; replace G2 := grownBy_new G1 G2 (Nat.le_refl _); have oc1 := M2.one1; have oc2 := M2.one2) | (refine alloc_cfg rfl rfl ?_; intro w3 B3 G3 z3) | (refine store_cfg rfl _ _ rfl _ rfl c rfl oc1 oc2 Cfg.zero (by assumption) ?_; intro w4 B4 G4; have D4 := D2.kept (grownBy_new G3 G4 (Nat.le_refl _)) (by simp); have M4 := M2.same (grownBy_new G3 G4 (Nat.le_refl _)); have z14 := Nat.le_trans z12 (grownBy_new G3 G4 (Nat.le_refl _)).size; replace G4 := grownBy_new (grownBy_trans G2 G3) G4 G2.size) | (refine load_cfg rfl _ rfl _ rfl c (by assumption) ?_) | (go_at_call 19; refine (dsums_c _ c _ D4 z14 ⟨N2.shards.1, by have := N2.shards.2; omega⟩ ⟨by have := N2.depth.1; omega, by have := N2.depth.2; omega⟩ ⟨by have := N2.width.1; omega, by have := N2.width.2; omega⟩).mono ?_; rintro e w5 ⟨lv, l, rfl, S5, hl5, D5, G5⟩; have F5 : Few c lc t lv l w5 := ⟨N2, M4.off G5 (fun k e => by cases e; exact D1.below) T2 C2, S5.rd, fun s hs => (S5.all s hs).2.2.1, hl5⟩; have B5 := B4.kept G5 (by have := D1.below; simp; omega); have K5 := grownBy_new G4 G5 (Nat.le_refl _)))
  have HFG : FewG w1.heap.size w4.heap.size c lc t lv l w5 := ⟨N2, F5.mem, T2, C2, S5, hl5, z14⟩
  have hbB := D5.below
  have hcb : w2.heap.size ≠ wb.heap.size := by omega
  have hrb0 : w.heap.size < wb.heap.size := by omega
  have D6 := D5.kept (w' := w5.drew) (r := none) (by (repeat (first | exact grownBy_refl _ _ | assumption | refine grownBy_new_block ?_ _ | refine grownBy_drew ?_ | refine grownBy_drewN ?_ _ | refine grownBy_setNew ?_ (by first | (simp; done) | omega | (simp; omega)) _))) (by simp)
  have B6 := B5.same (w' := w5.drew) (by (repeat (first | exact grownBy_refl _ _ | assumption | refine grownBy_new_block ?_ _ | refine grownBy_drew ?_ | refine grownBy_drewN ?_ _ | refine grownBy_setNew ?_ (by first | (simp; done) | omega | (simp; omega)) _)))
  have FG6 := HFG.kept (b := wb.heap.size) (w' := w5.drew) (by (repeat (first | exact grownBy_refl _ _ | assumption | refine grownBy_new_block ?_ _ | refine grownBy_drew ?_ | refine grownBy_drewN ?_ _ | refine grownBy_setNew ?_ (by first | (simp; done) | omega | (simp; omega)) _))) hbB
  have Bb6 := Bb.same (grownBy_trans K5 (show World.grownBy w5 w5.drew none from (by (repeat (first | exact grownBy_refl _ _ | assumption | refine grownBy_new_block ?_ _ | refine grownBy_drew ?_ | refine grownBy_drewN ?_ _ | refine grownBy_setNew ?_ (by first | (simp; done) | omega | (simp; omega)) _)))))
  have Ab6 := Ab.same (grownBy_trans K5 (show World.grownBy w5 w5.drew none from (by (repeat (first | exact grownBy_refl _ _ | assumption | refine grownBy_new_block ?_ _ | refine grownBy_drew ?_ | refine grownBy_drewN ?_ _ | refine grownBy_setNew ?_ (by first | (simp; done) | omega | (simp; omega)) _)))))
  have K6 := grownBy_trans Gb (grownBy_trans K5 (show World.grownBy w5 w5.drew none from (by (repeat (first | exact grownBy_refl _ _ | assumption | refine grownBy_new_block ?_ _ | refine grownBy_drew ?_ | refine grownBy_drewN ?_ _ | refine grownBy_setNew ?_ (by first | (simp; done) | omega | (simp; omega)) _)))))
  have hz6 : wb.heap.size ≤ w5.drew.heap.size := K5.size
  have hB6 : w1.heap.size ≤ w5.drew.heap.size := by have := G5.size; show w1.heap.size ≤ w5.heap.size; omega
  clear S5 hl5 D5 G5 F5 B5 K5 B4 D4 M4 z14 G4 B3 G3 z3 M2 D2 T2 C2 z12 G2 D1 G1 N2 HSb HFG Bb Ab Gb
  generalize w2.heap.size = cb at *
  generalize w1.heap.size = B at *
  generalize w4.heap.size = lo at *
  generalize wb.heap.size = b at *
  obtain ⟨la, lcp, rfl⟩ := FG6.sums.own.shape
  (refine Rg.wp_region_rgZ 9 #[false, true] (Mv B b) (fun k _ w v w' => match k with | 4 => NextPost B b 1000 w (.returned v) w' | 7 => RejsPost B b w (.returned v) w' | 8 => (∃ (win : Int) (rej : List Int) (vl vr : Value), v = repV win (totalF l) vl (bOver c t l) ((keysF l).length : Int) (bRest c t l) vr ∧ RdL lnF 3 w' vl (bLs c t l) ∧ RdL wordF 1 w' vr rej ∧ CapOk vl ∧ CapOk vr ∧ From w.heap.size vl ∧ From w.heap.size vr ∧ (0 ≤ win ∧ win < 1000) ∧ rej.length = 7 ∧ rej[0]? = some 0 ∧ (∀ n ∈ rej, 0 ≤ n ∧ n ≤ 8)) ∧ World.grownBy w w' none | _ => False) (by kernel_rfl) (by kernel_rfl) (Mv.refl B b) (Mv.trans B b) (fun _ _ _ _ _ h => h) ?_; simp only [List.take, List.drop])
  generalize w5.drew = w6 at *
  (refine Rg.tree_op rfl rfl ?_; intro x0 mx0 dx0)
  clear dx0
  have BX := B6.kept mx0.1 (by simp; omega)
  go_wp2_with (refine load_cfg rfl _ rfl _ rfl c (by assumption) ?_)
  refine ⟨Mv.refl _ _ _, ?_⟩
  clear BX
  (refine Rg.tree_quiet 1 rfl (by first | exact Or.inl rfl | exact Or.inr rfl) ?_; simp only [List.take, List.drop, List.length_cons, List.length_nil, List.replicate, Nat.reduceAdd]; (try simp only [List.cons_append]); (try simp only [List.nil_append]); (repeat (go_big_quiet_step (fail))); refine wpQuiet_nil ?_)
  (refine Rg.tree_op rfl rfl ?_; intro x2 mx2 dx2)
  clear dx2
  have BX := B6.kept mx2.1 (by simp; omega)
  go_wp2_with (refine load_cfg rfl _ rfl _ rfl c (by assumption) ?_)
  refine ⟨Mv.refl _ _ _, ?_⟩
  clear BX
  (refine Rg.tree_quiet 1 rfl (by first | exact Or.inl rfl | exact Or.inr rfl) ?_; simp only [List.take, List.drop, List.length_cons, List.length_nil, List.replicate, Nat.reduceAdd]; (try simp only [List.cons_append]); (try simp only [List.nil_append]); (repeat (go_big_quiet_step (fail))); refine wpQuiet_nil ?_)
  (refine Rg.tree_call rfl rfl rfl ?_; intro x4 mx4 dx4; refine ⟨?_, ?_⟩; · (unfold Rg.callSpec; go_simp; (refine (next_c b 1000 _ (mx4.2 D6) (by omega) (by omega)).mono ?_; rintro e w' ⟨r, rfl, h⟩; exact ⟨_, rfl, r, rfl, h⟩)))
  clear dx4
  rintro v4 y4 ⟨win, hv4, hw0, hw1, hd4, G4⟩
  cases hv4
  refine ⟨Mv.next G4 hd4, ?_⟩
  simp only [Act.put, List.setIfInBounds_toArray, List.set_cons_zero, List.set_cons_succ]
  (refine Rg.tree_quiet 2 rfl (by first | exact Or.inl rfl | exact Or.inr rfl) ?_; simp only [List.take, List.drop, List.length_cons, List.length_nil, List.replicate, Nat.reduceAdd]; (try simp only [List.cons_append]); (try simp only [List.nil_append]); (repeat (go_big_quiet_step (fail))); refine wpQuiet_nil ?_)
  (refine Rg.tree_call rfl rfl rfl ?_; intro x7 mx7 dx7; refine ⟨?_, ?_⟩; · (unfold Rg.callSpec; go_simp; (refine (drejects_c b _ (mx7.2 D6) (Nat.le_trans hB6 mx7.1.size)).mono ?_; rintro e w' ⟨g, ws, rfl, h⟩; exact ⟨_, rfl, g, ws, rfl, h⟩)))
  clear dx7
  rintro v7 y7 ⟨g, rej, hv7, hg7, hr1, hr2, hr3, Br7, hd7, G7⟩
  cases hv7
  refine ⟨Mv.next G7 hd7, ?_⟩
  simp only [Act.put, List.setIfInBounds_toArray, List.set_cons_zero, List.set_cons_succ]
  have hgb : b < g := by have := mx7.1.size; omega
  have hgB : ¬ g = b := by omega
  (refine Rg.tree_call rfl rfl rfl ?_; intro x8 mx8 dx8; refine ⟨?_, ?_⟩; · (unfold Rg.callSpec; go_simp; (refine (rbuild_c c lc t _ l _ rej win x8 (FG6.kept mx8.1 hbB).few ((Br7.kept (dx8.out 7 (by omega) (by kernel_rfl)).1 (by simp; omega)).words7 hr1) (by omega)).mono ?_; rintro e w' ⟨vl, vr, rfl, h1, h2, h3, h4, h5, h6, h7⟩; exact ⟨_, rfl, ⟨win, rej, vl, vr, rfl, h1, h2, h3, h4, h5, h6, ⟨hw0, hw1⟩, hr1, hr2, hr3⟩, h7⟩)))
  clear dx8
  rintro v8 y8 ⟨⟨win2, rej2, vl, vr, rfl, R1, R2, hc1, hc2, hf1, hf2, hw2, hq1, hq2, hq3⟩, g8⟩
  refine ⟨Mv.of g8, ?_⟩
  simp only [Act.put, List.setIfInBounds_toArray, List.set_cons_zero, List.set_cons_succ]
  have hb8 : b ≤ x8.heap.size := by have := mx8.1.size; omega
  have hbx8 : b < x8.heap.size := (mx8.2 D6).lt
  obtain ⟨a1, k1, rfl⟩ := R1.shape
  obtain ⟨a2, k2, e2⟩ := R2.shape
  rw [hq1] at e2
  subst e2
  (refine Rg.tree_nil ?_; intro wz mwz dwz cwz)
  have RA := R1.keptFrom hf1 (dwz.out 8 (by omega)).1 hbx8
  have RB := R2.keptFrom hf2 (dwz.out 8 (by omega)).1 hbx8
  have FGz := FG6.kept mwz.1 hbB
  have Bz := Bb6.kept mwz.1 (by simp; omega)
  have Az := Ab6.kept mwz.1 (by simp; omega)
  have Kz := grownBy_new K6 mwz.1 (by omega)
  have hw8 : w.heap.size < x8.heap.size := by omega
  have hbr8 : br < x8.heap.size := by omega
  have hwB : w.heap.size < B := by omega
  have hbrB : br < B := by omega
  have hwbr : ¬ w.heap.size = br := by omega
  have hwbr2 : w.heap.size ≤ br := by omega
  clear mx0 mx2 mx4 hd4 G4 mx7 hg7 Br7 hd7 G7 mx8 g8 R1 R2 mwz dwz cwz FG6 Bb6 Ab6 K6 B6 D6 hr1 hr2 hr3
  go_wp2_with (refine store_cfg rfl _ _ rfl _ rfl c rfl oc1 oc2 Cfg.zero (by assumption) ?_; intro wc Bc Gc; have Ac := Az.kept Gc (by simp; omega); have ac := Ac.cell; have fc := Ac.free)
  clear ac fc
  have FGc := FGz.kept Gc hwB
  have RAc := RA.keptFrom hf1 Gc hw8
  have RBc := RB.keptFrom hf2 Gc hw8
  have Kc := grownBy_new Kz Gc (Nat.le_refl _)
  clear FGz RA RB Kz Gc Az Bz
  generalize hLen : (bLs c t l).length = n1 at *
  have HLn := Lib.hid hLen
  clear hLen
  generalize hov : bOver c t l = ov at *
  generalize hrs : bRest c t l = rst at *
  generalize htt : totalF l = tot at *
  generalize hkk : ((keysF l).length : Int) = kn at *
  have hgr : World.grownBy wc (((((((wc.setCell ⟨br, 0, none⟩ (.int .i64 win2)).setCell ⟨br, 1, none⟩ (.int .u64 tot)).setCell ⟨br, 2, none⟩ (.slice a1 n1 k1)).setCell ⟨br, 3, none⟩ (.int .u64 ov)).setCell ⟨br, 4, none⟩ (.int .i64 kn)).setCell ⟨br, 5, none⟩ (.int .u64 rst)).setCell ⟨br, 6, none⟩ (.slice a2 7 k2)) (some br) := grownBy_set (grownBy_set (grownBy_set (grownBy_set (grownBy_set (grownBy_set (grownBy_set (grownBy_refl _ _) _ _) _ _) _ _) _ _) _ _) _ _) _ _
  have hAr : Blk (((((((wc.setCell ⟨br, 0, none⟩ (.int .i64 win2)).setCell ⟨br, 1, none⟩ (.int .u64 tot)).setCell ⟨br, 2, none⟩ (.slice a1 n1 k1)).setCell ⟨br, 3, none⟩ (.int .u64 ov)).setCell ⟨br, 4, none⟩ (.int .i64 kn)).setCell ⟨br, 5, none⟩ (.int .u64 rst)).setCell ⟨br, 6, none⟩ (.slice a2 7 k2)) br #[.int .i64 win2, .int .u64 tot, .slice a1 n1 k1, .int .u64 ov, .int .i64 kn, .int .u64 rst, .slice a2 7 k2] := ((((((Ac.set_ 0 _ rfl).set_ 1 _ rfl).set_ 2 _ rfl).set_ 3 _ rfl).set_ 4 _ rfl).set_ 5 _ rfl).set_ 6 _ rfl
  generalize ((((((wc.setCell ⟨br, 0, none⟩ (.int .i64 win2)).setCell ⟨br, 1, none⟩ (.int .u64 tot)).setCell ⟨br, 2, none⟩ (.slice a1 n1 k1)).setCell ⟨br, 3, none⟩ (.int .u64 ov)).setCell ⟨br, 4, none⟩ (.int .i64 kn)).setCell ⟨br, 5, none⟩ (.int .u64 rst)).setCell ⟨br, 6, none⟩ (.slice a2 7 k2) = wd at *
  have FGd := (FGc.kept hgr hbrB).few
  have RAd := RAc.keptFrom hf1 hgr hbr8
  have RBd := RBc.keptFrom hf2 hgr hbr8
  have Kd := grownBy_new Kc hgr hwbr2
  have Bd := Bc.kept hgr (by simp; omega)
  obtain ⟨tb, fb, hbl, hba⟩ := Bd.block
  obtain ⟨td, hbd⟩ := hAr.blk
  have L1 := run_loadVar_row (P := Tryz.prog) wd w.heap.size tb 28 _ fb _ hbl Tryz.underlying28 rfl size_cfg
  have L2 := run_loadVar_row (P := Tryz.prog) wd br td 32 _ _ _ hbd Tryz.underlying32 rfl (by kernel_rfl)
  refine bodyPost_ret (v := .tuple #[c.val, .slice la l.length lcp, repV win2 tot (.slice a1 n1 k1) ov kn rst (.slice a2 7 k2)]) (by simp [results, Tryz.results7, asAddr, L1, L2, Cfg.val]) rfl ?_
  subst hov hrs htt hkk
  exact ⟨c, lc, t, _, l, win2, rej2, _, _, rfl, FGd, RAd, RBd, hc1, hc2, hw2, hq1, hq2, hq3, Kd⟩
end Go.Proofs.YtiagjiaahnkefaaGreat

/- A whole report: made, written, read, at once. -/
namespace Go.Proofs.YtiagjiaahnkefaaGreat
open Go.RowKit

theorem size_rep : (Tryz.prog.info? 32).map (·.size) = some 7 := by kernel_rfl
abbrev repA (win tot : Int) (vl : Value) (over trk rest : Int) (vr : Value) : Array Value := #[.int .i64 win, .int .u64 tot, vl, .int .u64 over, .int .i64 trk, .int .u64 rest, vr]
abbrev rep0 : Array Value := repA 0 0 (.slice none 0 0) 0 0 0 (.slice none 0 0)
theorem run_alloc_rep (w : World) : (Instr.alloc 32 true (.tuple #[])).run Tryz.prog w = .ok (.pointer (some ⟨w.heap.size, 0, none⟩)) (w.alloc (.cells rep0 32)) := by kernel_rfl
theorem alloc_rep {ops : Array Oper} {rest : List Oper} {o : Oper} {a : Act} {w : World} {Q : Exit → Act → World → Prop} (hgd : o.guard = none) (ho : o.op = .alloc 32)
    (h : ∀ w', Blk w' w.heap.size rep0 → w.grownBy w' none → w.heap.size < w'.heap.size → wpList Tryz.prog ops Q rest (a.put o.dst (.pointer (some ⟨w.heap.size, 0, none⟩))) w') : wpList Tryz.prog ops Q (o :: rest) a w :=
  wpList_plain hgd fun _ hK => by
    unfold Oper.wp execOp
    simp only [ho, run_alloc_rep, Sem.run_bind, Sem.run_pure, Result.andThen_ok]
    exact hK _ _ (h _ (Blk.new w _ _) (World.grownBy_alloc w _ _) (by simp))
theorem store_rep {ops : Array Oper} {rest : List Oper} {o : Oper} {a : Act} {w : World} {Q : Exit → Act → World → Prop} (hgd : o.guard = none) (x y : Operand) (ho : o.op = .store 32 x y)
    (b : Nat) (hx : a.eval x = .pointer (some ⟨b, 0, none⟩)) {win tot over trk rst : Int} {vl vr : Value} (hy : a.eval y = repV win tot vl over trk rst vr) (h1 : vl.oneCell' = true) (h2 : vr.oneCell' = true) (c0 : Array Value) (hs : c0.size = 7) (hb : Blk w b c0)
    (h : ∀ w', Blk w' b (repA win tot vl over trk rst vr) → w.grownBy w' (some b) → wpList Tryz.prog ops Q rest (a.put o.dst undef) w') : wpList Tryz.prog ops Q (o :: rest) a w := by
  obtain ⟨t, hbl⟩ := hb.blk
  have hst := run_storeCells_at Tryz.prog b 0 t (repA win tot vl over trk rst vr).toList 0 c0 w hbl (by simp [hs]) (by intro v hv; simp at hv; rcases hv with rfl | rfl | rfl | rfl | rfl | rfl | rfl <;> first | rfl | assumption)
  have hz : (sizeOf 32).run Tryz.prog w = .ok 7 w := by
    have := size_rep
    cases hq : Tryz.prog.info? 32 with
    | none => rw [hq] at this; simp at this
    | some i => rw [hq] at this; simp [sizeOf, typeInfo, hq]; simpa using this
  refine wpList_plain hgd fun _ hK => ?_
  unfold Oper.wp execOp
  simp only [ho, hx, hy, Instr.storeAt, Instr.sureAddr, storeVar, Sem.run_bind, Sem.run_pure, Result.andThen_ok, hz]
  simp only [Value.cells, List.size_toArray, List.length_cons, List.length_nil, Nat.reduceAdd, ne_eq, not_true_eq_false, if_false]
  rw [hst]
  refine hK _ _ (h _ ⟨t, ?_⟩ ⟨rfl, rfl, rfl, by simp, fun k _ hk => setRow_other w b k _ (fun e => hk (by simp [e]))⟩)
  rw [setRow_heap w b c0 _ t _ hbl]
  obtain ⟨l, rfl⟩ : ∃ l : List Value, c0 = l.toArray := ⟨c0.toList, by simp⟩
  match l, hs with
  | [_, _, _, _, _, _, _], _ => rfl
theorem load_rep {ops : Array Oper} {rest : List Oper} {o : Oper} {a : Act} {w : World} {Q : Exit → Act → World → Prop} (hgd : o.guard = none) (x : Operand) (ho : o.op = .load 32 x)
    (b : Nat) (hx : a.eval x = .pointer (some ⟨b, 0, none⟩)) {win tot over trk rst : Int} {vl vr : Value} (hb : Blk w b (repA win tot vl over trk rst vr)) (h : wpList Tryz.prog ops Q rest (a.put o.dst (repV win tot vl over trk rst vr)) w) : wpList Tryz.prog ops Q (o :: rest) a w := by
  obtain ⟨t, hbl⟩ := hb.blk
  exact wpList_load_row hgd _ x ho b hx t _ _ _ hbl Tryz.underlying32 rfl size_rep h
end Go.Proofs.YtiagjiaahnkefaaGreat

/- The report is built: the program. -/
namespace Go.Proofs.YtiagjiaahnkefaaGreat
open Go.RowKit Go.Sort
attribute [local go_sem ↓] exec_load_cfg
attribute [local go_sem] run_loadCfgS

set_option maxHeartbeats 2000000 in
set_option maxRecDepth 100000 in
theorem build_c (c : Cfg) (lc : List (Int × Int)) (t : List Int) (lv : Value) (l : List Summ) (pv : Value) (P : List Int) (rv : Value) (rej : List Int) (win : Int) (w : World) (hF : Few c lc t lv l w) (hp : RdL intF 1 w pv P) (hr : RdL wordF 1 w rv rej) (hrl : rej.length ≤ 1000000) :
    Calls Tryz.prog 9 #[c.val, .int .i64 win, lv, rv, pv] w (BuildPost c t l win rej w) := by
  have hHt := totalF_w hF
  have hlw := bLs_w hF
  have hk13 := keysF_few hF
  have hal := allF_len c t l
  have htop := hF.nums.top
  have HP := Lib.hid (p := ∀ (e : Ending) (w' : World), (∃ vl vr, e = .returned (repV win (totalF l) vl (bOver c t l) ((keysF l).length : Int) (bRest c t l) vr) ∧ RdL lnF 3 w' vl (bLs c t l) ∧ RdL wordF 1 w' vr rej ∧ CapOk vl ∧ CapOk vr ∧ From w.heap.size vl ∧ From w.heap.size vr ∧ w.grownBy w' none) → BuildPost c t l win rej w e w') (fun _ _ h => h)
  have Hc1 := Lib.hid fun w' (h : World.grownBy w w' none) => mall_c c t _ l _ P w' (hF.same h).rcfg (hF.same h).sums (hF.same h).ok (by have := keysL_few hF; omega) (key_few hF) (RdL.same hp h)
  have Hc2 := Lib.hid (p := ∀ w' v, RdL lnF 3 w' v (allF c t l) → Calls Tryz.prog 24 #[v, .int .i64 c.Top] w' (fun e w2 => ∃ v1 v2, e = .returned (.tuple #[v1, v2]) ∧ RdL lnF 3 w2 v1 (bLs c t l) ∧ RdL lnF 3 w2 v2 (bOm c t l) ∧ CapOk v1 ∧ From w'.heap.size v1 ∧ From w'.heap.size v2 ∧ w'.grownBy w2 none)) (fun w' v h => tsel_c v _ c.Top w' h (by omega) (by omega) (by omega))
  have Hc3 := Lib.hid fun w' (h : World.grownBy w w' none) => mtotal_c lv l w' (hF.same h).sums
  have Hc4 := Lib.hid (p := ∀ w' v, RdL lnF 3 w' v (bLs c t l) → Calls Tryz.prog 26 #[v] w' (fun e w2 => e = .returned (.tuple #[.int .u64 (satL (loSum (bLs c t l))), .bool (fitL (loSum (bLs c t l)))]) ∧ w'.grownBy w2 none)) (fun w' v h => lows_c v _ w' h hlw)
  have Hc5 := Lib.hid (p := ∀ w', ∃ q, Calls Tryz.prog 27 #[.int .u64 (totalF l), .int .u64 (satL (loSum (bLs c t l)))] w' (fun e w2 => e = .returned (.tuple #[.int .u64 (bOver c t l), .bool q]) ∧ w' = w2)) (fun w' => ⟨_, satSub_c _ _ w' hHt (satL_w (loSum_pos fun x hx => (hlw x hx).lo.1))⟩)
  have Hc6 := Lib.hid (p := ∀ w' , World.grownBy w w' none → Calls Tryz.prog 13 #[lv] w' (fun e w2 => ∃ a cp, e = .returned (.slice a (keysF l).length cp) ∧ w'.grownBy w2 none)) (fun w' h => (mkeys_c lv l w' (hF.same h).sums (by have := keysL_few hF; omega)).mono fun e w2 ⟨v, h1, h2, h3⟩ => by obtain ⟨a, cp, hv⟩ := h2.shape; exact ⟨a, cp, hv ▸ h1, h3⟩)
  have Hc7 := Lib.hid fun w' (h : World.grownBy w w' none) => rest_c c t lv l w' (hF.same h).rcfg (hF.same h).sums (hF.same h).small
  have Hc8 := Lib.hid (p := ∀ w' v, RdL lnF 3 w' v (bOm c t l) → Calls Tryz.prog 28 #[v, .int .u64 (restF c l)] w' (RetWord (bRest c t l) w')) (fun w' v h => trest_c v _ _ w' h (by unfold bOm; rw [List.length_drop, sortLn_len]; omega))
  have Hc9 := Lib.hid fun w' (h : World.grownBy w w' none) => cloneW_c rv rej w' (RdL.same hr h) hrl
  obtain ⟨ra, rc, rfl⟩ := hr.shape
  obtain ⟨pa, pc, rfl⟩ := hp.shape
  obtain ⟨la, lcp, rfl⟩ := hF.sums.rd.shape
  clear hF hp hr hHt hlw hk13 hal htop
  generalize allF c t l = AL at *
  generalize bLs c t l = Ls at *
  generalize bOm c t l = Om at *
  generalize totalF l = tot at *
  generalize bOver c t l = ov at *
  generalize bRest c t l = rst at *
  generalize restF c l = rs0 at *
  generalize satL (loSum Ls) = sL at *
  generalize fitL (loSum Ls) = fL at *
  generalize (keysF l).length = K at *
  go_enter Tryz.func9, Tryz.ntmps9
  go_upto_region 1 with (refine box_cfg rfl _ rfl c rfl ?_; intro w1 B1 G1 z1)
  have hb0 : w.heap.size < w1.heap.size := z1
  have hbb : w.heap.size ≤ w1.heap.size := Nat.le_of_lt z1
  have B2 := B1.same (World.grownBy_alloc w1 (.cells #[.int .i64 0, .int .u64 0, .slice none 0 0, .int .u64 0, .int .i64 0, .int .u64 0, .slice none 0 0] 32) none)
  have A2 := Blk.new w1 #[.int .i64 0, .int .u64 0, .slice none 0 0, .int .u64 0, .int .i64 0, .int .u64 0, .slice none 0 0] 32
  have G2 := grownBy_new_block G1 (.cells #[.int .i64 0, .int .u64 0, .slice none 0 0, .int .u64 0, .int .i64 0, .int .u64 0, .slice none 0 0] 32)
  generalize w1.alloc (.cells #[.int .i64 0, .int .u64 0, .slice none 0 0, .int .u64 0, .int .i64 0, .int .u64 0, .slice none 0 0] 32) = w2 at *
  generalize w1.heap.size = br at *
  have hbr := A2.lt
  clear B1 G1 z1
  have B6 := B2.same (w' := w2.drew) (by (repeat (first | exact grownBy_refl _ _ | assumption | refine grownBy_new_block ?_ _ | refine grownBy_drew ?_ | refine grownBy_drewN ?_ _ | refine grownBy_setNew ?_ (by first | (simp; done) | omega | (simp; omega)) _)))
  have A6 := A2.same (w' := w2.drew) (by (repeat (first | exact grownBy_refl _ _ | assumption | refine grownBy_new_block ?_ _ | refine grownBy_drew ?_ | refine grownBy_drewN ?_ _ | refine grownBy_setNew ?_ (by first | (simp; done) | omega | (simp; omega)) _)))
  have K6 := grownBy_trans G2 (show World.grownBy w2 w2.drew none from (by (repeat (first | exact grownBy_refl _ _ | assumption | refine grownBy_new_block ?_ _ | refine grownBy_drew ?_ | refine grownBy_drewN ?_ _ | refine grownBy_setNew ?_ (by first | (simp; done) | omega | (simp; omega)) _))))
  have hbr6 : br < w2.drew.heap.size := A6.lt
  (refine Rg.wp_region_rgZ 12 #[] (fun w w' => World.grownBy w w' none) (fun k _ w v w' => match k with | 3 => RdL lnF 3 w' v AL ∧ World.grownBy w w' none | 6 => (∃ v1 v2, v = .tuple #[v1, v2] ∧ RdL lnF 3 w' v1 Ls ∧ RdL lnF 3 w' v2 Om ∧ CapOk v1 ∧ From w.heap.size v1 ∧ From w.heap.size v2) ∧ World.grownBy w w' none | _ => False) (by kernel_rfl) (by kernel_rfl) (fun w => grownBy_refl w none) (fun _ _ _ h k => grownBy_trans h k) (fun _ _ _ _ _ h => h) ?_; simp only [List.take, List.drop])
  clear A2 B2 G2 hbr
  generalize w2.drew = w6 at *
  (refine Rg.tree_op rfl rfl ?_; intro x0 mx0 dx0)
  clear dx0
  have BX := B6.same mx0
  go_wp2_with (refine load_cfg rfl _ rfl _ rfl c (by assumption) ?_)
  refine ⟨grownBy_refl _ _, ?_⟩
  clear BX
  (refine Rg.tree_quiet 2 rfl (by first | exact Or.inl rfl | exact Or.inr rfl) ?_; simp only [List.take, List.drop, List.length_cons, List.length_nil, List.replicate, Nat.reduceAdd]; (try simp only [List.cons_append]); (try simp only [List.nil_append]); (repeat (go_big_quiet_step (fail))); refine wpQuiet_nil ?_)
  (refine Rg.tree_call rfl rfl rfl ?_; intro x3 mx3 dx3; refine ⟨?_, ?_⟩; · (unfold Rg.callSpec; go_simp; (refine (Hc1.out x3 (grownBy_trans K6 mx3)).mono ?_; rintro e w' ⟨v, rfl, o, g⟩; exact ⟨v, rfl, o.rd, g⟩)))
  clear dx3
  rintro v3 y3 ⟨R3, g3⟩
  refine ⟨g3, ?_⟩
  simp only [Act.put, List.setIfInBounds_toArray, List.set_cons_zero, List.set_cons_succ]
  (refine Rg.tree_quiet 1 rfl (by first | exact Or.inl rfl | exact Or.inr rfl) ?_; simp only [List.take, List.drop, List.length_cons, List.length_nil, List.replicate, Nat.reduceAdd]; (try simp only [List.cons_append]); (try simp only [List.nil_append]); (repeat (go_big_quiet_step (fail))); refine wpQuiet_nil ?_)
  (refine Rg.tree_op rfl rfl ?_; intro x5 mx5 dx5)
  clear dx5
  have bx := (B6.same mx5).cell
  go_wp2_with fail
  refine ⟨grownBy_refl _ _, ?_⟩
  clear bx
  (refine Rg.tree_call rfl rfl rfl ?_; intro x6 mx6 dx6; refine ⟨?_, ?_⟩; · (unfold Rg.callSpec; go_simp; (refine (Hc2.out x6 _ (RdL.same R3 (dx6.out 3 (by omega) (by kernel_rfl)))).mono ?_; rintro e w' ⟨v1, v2, rfl, h1, h2, h3, h4, h5, g⟩; exact ⟨_, rfl, ⟨v1, v2, rfl, h1, h2, h3, h4, h5⟩, g⟩)))
  clear dx6
  rintro v6 y6 ⟨⟨v1, v2, rfl, R1, R2, hc1, hf1, hf2⟩, g6⟩
  refine ⟨g6, ?_⟩
  simp only [Act.put, List.setIfInBounds_toArray, List.set_cons_zero, List.set_cons_succ]
  have hbx6 : br < x6.heap.size := Nat.lt_of_lt_of_le hbr6 mx6.size
  (refine Rg.tree_quiet 5 rfl (by first | exact Or.inl rfl | exact Or.inr rfl) ?_; simp only [List.take, List.drop, List.length_cons, List.length_nil, List.replicate, Nat.reduceAdd]; (try simp only [List.cons_append]); (try simp only [List.nil_append]); (repeat (go_big_quiet_step (fail))); refine wpQuiet_nil ?_)
  (refine Rg.tree_nil ?_; intro x7 mx7 dx7 cx7)
  have R1' := R1.same (dx7.out 6 (by omega))
  have R2' := R2.same (dx7.out 6 (by omega))
  have A7 := A6.same mx7
  have B7 := B6.same mx7
  have K7 := grownBy_trans K6 mx7
  clear R1 R2 R3 g3 g6 mx0 mx3 mx5 mx6 mx7 dx7 cx7 A6 B6 K6 y3 y6
  obtain ⟨a1, k1, rfl⟩ := R1'.shape
  obtain ⟨a2, k2, rfl⟩ := R2'.shape
  have hx6 : w.heap.size ≤ x6.heap.size := by omega
  clear x0 x3 x5
  have RA7 := R1'
  have RB7 := R2'
  clear R1' R2'
  go_upto_region 3 with (go_at_call 12; refine (Hc3.out _ K7).mono ?_; rintro e w8 ⟨rfl, g8⟩; (have A8 := A7.same g8; have B8 := B7.same g8; have K8 := grownBy_trans K7 g8; have RA8 := RdL.same RA7 g8; have RB8 := RdL.same RB7 g8; clear A7 B7 K7 RA7 RB7 g8); have a8 := A8.cell; have f8 := A8.free)
  clear a8 f8
  have A9 : Blk (w8.setCell ⟨br, 0, none⟩ (.int .i64 win)) br #[.int .i64 win, .int .u64 0, .slice none 0 0, .int .u64 0, .int .i64 0, .int .u64 0, .slice none 0 0] := A8.set_ 0 _ rfl
  have G9 := grownBy_set (grownBy_refl w8 (some br)) 0 (.int .i64 win)
  have B9 := B8.kept G9 (by simp; omega)
  have K9 := grownBy_new K8 G9 hbb
  have RA9 := RA8.keptFrom hf1 G9 hbx6
  have RB9 := RB8.keptFrom hf2 G9 hbx6
  generalize w8.setCell ⟨br, 0, none⟩ (.int .i64 win) = w9 at *
  clear A8 B8 K8 RA8 RB8 G9
  have A10 : Blk (w9.setCell ⟨br, 1, none⟩ (.int .u64 tot)) br #[.int .i64 win, .int .u64 tot, .slice none 0 0, .int .u64 0, .int .i64 0, .int .u64 0, .slice none 0 0] := A9.set_ 1 _ rfl
  have G10 := grownBy_set (grownBy_refl w9 (some br)) 1 (.int .u64 tot)
  have B10 := B9.kept G10 (by simp; omega)
  have K10 := grownBy_new K9 G10 hbb
  have RA10 := RA9.keptFrom hf1 G10 hbx6
  have RB10 := RB9.keptFrom hf2 G10 hbx6
  generalize w9.setCell ⟨br, 1, none⟩ (.int .u64 tot) = w10 at *
  clear A9 B9 K9 RA9 RB9 G10
  have A11 : Blk (w10.setCell ⟨br, 2, none⟩ (.slice a1 Ls.length k1)) br #[.int .i64 win, .int .u64 tot, .slice a1 Ls.length k1, .int .u64 0, .int .i64 0, .int .u64 0, .slice none 0 0] := A10.set_ 2 _ rfl
  have G11 := grownBy_set (grownBy_refl w10 (some br)) 2 (.slice a1 Ls.length k1)
  have B11 := B10.kept G11 (by simp; omega)
  have K11 := grownBy_new K10 G11 hbb
  have RA11 := RA10.keptFrom hf1 G11 hbx6
  have RB11 := RB10.keptFrom hf2 G11 hbx6
  generalize w10.setCell ⟨br, 2, none⟩ (.slice a1 Ls.length k1) = w11 at *
  clear A10 B10 K10 RA10 RB10 G11
  go_upto_region 4 with (go_at_call 26; refine (Hc4.out _ _ RA11).mono ?_; rintro e w12 ⟨rfl, g12⟩; (have A12 := A11.same g12; have B12 := B11.same g12; have K12 := grownBy_trans K11 g12; have RA12 := RdL.same RA11 g12; have RB12 := RdL.same RB11 g12; clear A11 B11 K11 RA11 RB11 g12); have a12 := A12.cell; have f12 := A12.free)
  obtain ⟨qs, hqs⟩ := Hc5.out w12
  go_upto_region 5 with (go_at_call 27; refine hqs.mono ?_; rintro e w' ⟨rfl, rfl⟩)
  clear a12 f12 hqs
  have A13 : Blk (w12.setCell ⟨br, 3, none⟩ (.int .u64 ov)) br #[.int .i64 win, .int .u64 tot, .slice a1 Ls.length k1, .int .u64 ov, .int .i64 0, .int .u64 0, .slice none 0 0] := A12.set_ 3 _ rfl
  have G13 := grownBy_set (grownBy_refl w12 (some br)) 3 (.int .u64 ov)
  have B13 := B12.kept G13 (by simp; omega)
  have K13 := grownBy_new K12 G13 hbb
  have RA13 := RA12.keptFrom hf1 G13 hbx6
  have RB13 := RB12.keptFrom hf2 G13 hbx6
  generalize w12.setCell ⟨br, 3, none⟩ (.int .u64 ov) = w13 at *
  clear A12 B12 K12 RA12 RB12 G13
  go_upto_region 6 with (go_at_call 13; refine (Hc6.out _ K13).mono ?_; rintro e w14 ⟨ka, kc, rfl, g14⟩; (have A14 := A13.same g14; have B14 := B13.same g14; have K14 := grownBy_trans K13 g14; have RA14 := RdL.same RA13 g14; have RB14 := RdL.same RB13 g14; clear A13 B13 K13 RA13 RB13 g14); have a14 := A14.cell; have f14 := A14.free)
  clear a14 f14
  have A15 : Blk (w14.setCell ⟨br, 4, none⟩ (.int .i64 K)) br #[.int .i64 win, .int .u64 tot, .slice a1 Ls.length k1, .int .u64 ov, .int .i64 K, .int .u64 0, .slice none 0 0] := A14.set_ 4 _ rfl
  have G15 := grownBy_set (grownBy_refl w14 (some br)) 4 (.int .i64 K)
  have B15 := B14.kept G15 (by simp; omega)
  have K15 := grownBy_new K14 G15 hbb
  have RA15 := RA14.keptFrom hf1 G15 hbx6
  have RB15 := RB14.keptFrom hf2 G15 hbx6
  generalize w14.setCell ⟨br, 4, none⟩ (.int .i64 K) = w15 at *
  clear A14 B14 K14 RA14 RB14 G15
  go_upto_region 7 with (first
    | (refine load_cfg rfl _ rfl _ rfl c (by assumption) ?_)
    | (go_at_call 29; refine (Hc7.out _ K15).mono ?_; rintro e w16 ⟨rfl, g16⟩; (have A16 := A15.same g16; have B16 := B15.same g16; have K16 := grownBy_trans K15 g16; have RA16 := RdL.same RA15 g16; have RB16 := RdL.same RB15 g16; clear A15 B15 K15 RA15 RB15 g16))
    | (go_at_call 28; refine (Hc8.out _ _ RB16).mono ?_; rintro e w17 ⟨rfl, g17⟩; (have A17 := A16.same g17; have B17 := B16.same g17; have K17 := grownBy_trans K16 g17; have RA17 := RdL.same RA16 g17; have RB17 := RdL.same RB16 g17; clear A16 B16 K16 RA16 RB16 g17); have a17 := A17.cell; have f17 := A17.free))
  clear a17 f17
  have A18 : Blk (w17.setCell ⟨br, 5, none⟩ (.int .u64 rst)) br #[.int .i64 win, .int .u64 tot, .slice a1 Ls.length k1, .int .u64 ov, .int .i64 K, .int .u64 rst, .slice none 0 0] := A17.set_ 5 _ rfl
  have G18 := grownBy_set (grownBy_refl w17 (some br)) 5 (.int .u64 rst)
  have B18 := B17.kept G18 (by simp; omega)
  have K18 := grownBy_new K17 G18 hbb
  have RA18 := RA17.keptFrom hf1 G18 hbx6
  have RB18 := RB17.keptFrom hf2 G18 hbx6
  generalize w17.setCell ⟨br, 5, none⟩ (.int .u64 rst) = w18 at *
  clear A17 B17 K17 RA17 RB17 G18
  go_upto_region 8 with (go_at_call 30; refine (Hc9.out _ K18).mono ?_; rintro e w19 ⟨v9, rfl, o9, g19⟩; have hbr18 := A18.lt; (have A19 := A18.same g19; have B19 := B18.same g19; have K19 := grownBy_trans K18 g19; have RA19 := RdL.same RA18 g19; have RB19 := RdL.same RB18 g19; clear A18 B18 K18 RA18 RB18 g19); have a19 := A19.cell; have f19 := A19.free; obtain ⟨a9, k9, rfl⟩ := o9.shape)
  clear a19 f19
  have hx18 : w.heap.size ≤ w18.heap.size := by omega
  have hf9 := o9.from_
  have cp9 := o9.capOk
  have RC20 := o9.rd.keptFrom hf9 (grownBy_set (grownBy_refl w19 (some br)) 6 (.slice a9 rej.length k9)) hbr18
  clear o9
  have A20 : Blk (w19.setCell ⟨br, 6, none⟩ (.slice a9 rej.length k9)) br #[.int .i64 win, .int .u64 tot, .slice a1 Ls.length k1, .int .u64 ov, .int .i64 K, .int .u64 rst, .slice a9 rej.length k9] := A19.set_ 6 _ rfl
  have G20 := grownBy_set (grownBy_refl w19 (some br)) 6 (.slice a9 rej.length k9)
  have B20 := B19.kept G20 (by simp; omega)
  have K20 := grownBy_new K19 G20 hbb
  have RA20 := RA19.keptFrom hf1 G20 hbx6
  have RB20 := RB19.keptFrom hf2 G20 hbx6
  generalize w19.setCell ⟨br, 6, none⟩ (.slice a9 rej.length k9) = w20 at *
  clear A19 B19 K19 RA19 RB19 G20
  have a20 := A20.cell
  have f20 := A20.free
  go_wp2_with fail
  clear a20 f20
  have hgr : World.grownBy w20 (((((((w20.setCell ⟨br, 0, none⟩ (.int .i64 win)).setCell ⟨br, 1, none⟩ (.int .u64 tot)).setCell ⟨br, 2, none⟩ (.slice a1 Ls.length k1)).setCell ⟨br, 3, none⟩ (.int .u64 ov)).setCell ⟨br, 4, none⟩ (.int .i64 K)).setCell ⟨br, 5, none⟩ (.int .u64 rst)).setCell ⟨br, 6, none⟩ (.slice a9 rej.length k9)) (some br) := grownBy_set (grownBy_set (grownBy_set (grownBy_set (grownBy_set (grownBy_set (grownBy_set (grownBy_refl _ _) _ _) _ _) _ _) _ _) _ _) _ _) _ _
  have hAr : Blk (((((((w20.setCell ⟨br, 0, none⟩ (.int .i64 win)).setCell ⟨br, 1, none⟩ (.int .u64 tot)).setCell ⟨br, 2, none⟩ (.slice a1 Ls.length k1)).setCell ⟨br, 3, none⟩ (.int .u64 ov)).setCell ⟨br, 4, none⟩ (.int .i64 K)).setCell ⟨br, 5, none⟩ (.int .u64 rst)).setCell ⟨br, 6, none⟩ (.slice a9 rej.length k9)) br #[.int .i64 win, .int .u64 tot, .slice a1 Ls.length k1, .int .u64 ov, .int .i64 K, .int .u64 rst, .slice a9 rej.length k9] := ((((((A20.set_ 0 _ rfl).set_ 1 _ rfl).set_ 2 _ rfl).set_ 3 _ rfl).set_ 4 _ rfl).set_ 5 _ rfl).set_ 6 _ rfl
  generalize ((((((w20.setCell ⟨br, 0, none⟩ (.int .i64 win)).setCell ⟨br, 1, none⟩ (.int .u64 tot)).setCell ⟨br, 2, none⟩ (.slice a1 Ls.length k1)).setCell ⟨br, 3, none⟩ (.int .u64 ov)).setCell ⟨br, 4, none⟩ (.int .i64 K)).setCell ⟨br, 5, none⟩ (.int .u64 rst)).setCell ⟨br, 6, none⟩ (.slice a9 rej.length k9) = w21 at *
  have RA21 := RA20.keptFrom hf1 hgr hbx6
  have RC21 := RC20.keptFrom hf9 hgr hbr18
  have K21 := grownBy_new K20 hgr hbb
  have rc21 := hAr.cell
  clear A20 B20 K20 RA20 RB20 RC20 hgr
  refine bodyPost_ret (v := repV win tot (.slice a1 Ls.length k1) ov K rst (.slice a9 rej.length k9)) (by simp [results, Tryz.results9, go_sem, rc21]) rfl ?_
  exact HP.out _ _ ⟨_, _, rfl, RA21, RC21, hc1, cp9, hf1.le hx6, hf9.le hx18, K21⟩
end Go.Proofs.YtiagjiaahnkefaaGreat

/- Lists of lines compared. -/
namespace Go.Proofs.YtiagjiaahnkefaaGreat
open Go.RowKit

theorem fields_line : Tryz.prog.underlying 40 = some (.struct (Tryz.prog.fieldsOf 40)) := by kernel_rfl
theorem held_line : Tryz.prog.stoodInHeld 40 = false := by kernel_rfl
theorem guard_line : Tryz.prog.eqGuardType Tryz.prog.depth 40 = false := by kernel_rfl
theorem same_line (x : Ln) (w : World) : (Op.equalIn 10000 40 (.agg #[.string x.key, .int .u64 x.lo, .int .u64 x.hi]) (.agg #[.string x.key, .int .u64 x.lo, .int .u64 x.hi])).run Tryz.prog w = .ok true w := by
  rw [run_equalIn_agg w 9999 _ _ _ fields_line held_line]
  have hf : ∃ a b c : Field, (Tryz.prog.fieldsOf 40).toList = [a, b, c] ∧ a.type = 9 ∧ b.type = 25 ∧ c.type = 25 ∧ a.offset = 0 ∧ b.offset = 1 ∧ c.offset = 2 ∧ (a.name == "_") = false ∧ (b.name == "_") = false ∧ (c.name == "_") = false := ⟨(Tryz.prog.fieldsOf 40).toList.getD 0 default, (Tryz.prog.fieldsOf 40).toList.getD 1 default, (Tryz.prog.fieldsOf 40).toList.getD 2 default, by kernel_rfl, by kernel_rfl, by kernel_rfl, by kernel_rfl, by kernel_rfl, by kernel_rfl, by kernel_rfl, by kernel_rfl, by kernel_rfl, by kernel_rfl⟩
  obtain ⟨a, b, c, h, h1, h2, h3, h4, h5, h6, h7, h8, h9⟩ := hf
  rw [h]
  have h7' := beq_eq_false_iff_ne.1 h7
  have h8' := beq_eq_false_iff_ne.1 h8
  have h9' := beq_eq_false_iff_ne.1 h9
  simp [go_sem, h1, h2, h3, h4, h5, h6, h7', h8', h9']

set_option maxHeartbeats 400000 in
theorem sameLines_c (v v' : Value) (L : List Ln) (w : World) (h : RdL lnF 3 w v L) (h' : RdL lnF 3 w v' L) : Calls Tryz.prog 22 #[v, v'] w (RetBool true w) := by
  obtain ⟨a, c, rfl⟩ := h.shape
  obtain ⟨a', c', rfl⟩ := h'.shape
  have hm := h.2.1
  have H := Lib.hid h
  have H' := Lib.hid h'
  clear h h'
  go_enter Tryz.func22, Tryz.ntmps22
  go_wp2_with fail
  go_loopw [13] (fun s13 wr => ∃ k : Nat, k ≤ L.length ∧ s13 = .int .i64 k ∧ w.grownBy wr none) (fun s13 _ => L.length - (intOf s13).toNat)
  case atStart => exact ⟨0, Nat.zero_le _, rfl, grownBy_refl _ _⟩
  case round =>
    obtain ⟨k, hk, rfl, hg⟩ := hrel
    by_cases hlt : k < L.length
    · obtain ⟨g, off, cap, hv, hgl, hc⟩ := (RdL.same H.out hg).at_ lnF_len hlt
      obtain ⟨g', off', cap', hv', hgl', hc'⟩ := (RdL.same H'.out hg).at_ lnF_len hlt
      cases hv
      cases hv'
      have c0 := hc 0 _ rfl
      have c1 := hc 1 _ rfl
      have c2 := hc 2 _ rfl
      have d0 := hc' 0 _ rfl
      have d1 := hc' 1 _ rfl
      have d2 := hc' 2 _ rfl
      clear hc hc'
      rw [Nat.add_zero] at c0 d0
      generalize L[k] = x at *
      have hk0 : (0 : Int) ≤ (k : Int) := by omega
      have hk1 : (k : Int) < (L.length : Int) := by omega
      have s1 := guard_line
      have s2 := fun w => same_line x w
      go_wp2_with fail
      go_quiet (fail)
      go_wp2_with fail
      exact ⟨⟨k + 1, by omega, by go_num, grownBy_drewN hg _⟩, by simp [intOf]; omega⟩
    · go_wp2_with fail
      go_ret
      exact retBool rfl hg
end Go.Proofs.YtiagjiaahnkefaaGreat

/- Reports compared. -/
namespace Go.Proofs.YtiagjiaahnkefaaGreat
open Go.RowKit

set_option maxHeartbeats 1000000 in
set_option maxRecDepth 100000 in
theorem sameRep_c (win tot over trk rest : Int) (vl vr vl' vr' : Value) (ls : List Ln) (rj : List Int) (w : World) (h1 : RdL lnF 3 w vl ls) (h2 : RdL wordF 1 w vr rj) (h3 : RdL lnF 3 w vl' ls) (h4 : RdL wordF 1 w vr' rj) :
    Calls Tryz.prog 8 #[repV win tot vl over trk rest vr, repV win tot vl' over trk rest vr'] w (RetBool true w) := by
  have H1 := Lib.hid fun w' (h : World.grownBy w w' none) => sameLines_c vl vl' ls w' (h1.same h) (h3.same h)
  have H2 := Lib.hid fun w' (h : World.grownBy w w' none) => (show Calls Tryz.prog 23 #[vr, vr'] w' (RetBool true w') from (decide_eq_true (rfl : rj = rj)) ▸ sameWords_c vr vr' rj rj w' (h2.same h) (h4.same h))
  obtain ⟨a1, c1, rfl⟩ := h1.shape
  obtain ⟨a2, c2, rfl⟩ := h2.shape
  obtain ⟨a3, c3, rfl⟩ := h3.shape
  obtain ⟨a4, c4, rfl⟩ := h4.shape
  clear h1 h2 h3 h4
  go_enter Tryz.func8, Tryz.ntmps8
  go_upto_region 1 with fail
  have A1 := (Blk.new w #[.int .i64 win, .int .u64 tot, .slice a1 ls.length c1, .int .u64 over, .int .i64 trk, .int .u64 rest, .slice a2 rj.length c2] 32).same (World.grownBy_alloc _ (.cells #[.int .i64 win, .int .u64 tot, .slice a3 ls.length c3, .int .u64 over, .int .i64 trk, .int .u64 rest, .slice a4 rj.length c4] 32) none)
  have A2 := Blk.new' (w.alloc (.cells #[.int .i64 win, .int .u64 tot, .slice a1 ls.length c1, .int .u64 over, .int .i64 trk, .int .u64 rest, .slice a2 rj.length c2] 32)) #[.int .i64 win, .int .u64 tot, .slice a3 ls.length c3, .int .u64 over, .int .i64 trk, .int .u64 rest, .slice a4 rj.length c4] 32 (g := w.heap.size + 1) (by simp)
  have K1 := grownBy_new_block (grownBy_new_block (grownBy_refl w none) (.cells #[.int .i64 win, .int .u64 tot, .slice a1 ls.length c1, .int .u64 over, .int .i64 trk, .int .u64 rest, .slice a2 rj.length c2] 32)) (.cells #[.int .i64 win, .int .u64 tot, .slice a3 ls.length c3, .int .u64 over, .int .i64 trk, .int .u64 rest, .slice a4 rj.length c4] 32)
  generalize (w.alloc (.cells #[.int .i64 win, .int .u64 tot, .slice a1 ls.length c1, .int .u64 over, .int .i64 trk, .int .u64 rest, .slice a2 rj.length c2] 32)).alloc (.cells #[.int .i64 win, .int .u64 tot, .slice a3 ls.length c3, .int .u64 over, .int .i64 trk, .int .u64 rest, .slice a4 rj.length c4] 32) = w1 at *
  generalize w.heap.size = g1 at *
  generalize g1 + 1 = g2 at *
  have b1 := A1.cell
  have b2 := A2.cell
  go_wp2_with (first
    | (go_at_call 22; refine (H1.out _ K1).mono ?_; rintro e w2 ⟨rfl, k2⟩; have b3 := (A1.same k2).cell; have b4 := (A2.same k2).cell; have K2 := grownBy_trans K1 k2)
    | (go_at_call 23; refine (H2.out _ K2).mono ?_; rintro e w3 ⟨rfl, k3⟩; have K3 := grownBy_trans K2 k3))
  go_ret
  exact retBool rfl K3
end Go.Proofs.YtiagjiaahnkefaaGreat

/- Numbers as bytes: what Append appends. -/
namespace Go.Proofs.YtiagjiaahnkefaaGreat
open Go.RowKit Go.Sort

def byF (b : UInt8) : List Value := [.int .u8 b.toNat]
theorem byF_len (b : UInt8) : (byF b).length = 1 := rfl
theorem by_one (b : UInt8) : byF b = [Value.int .u8 b.toNat] := rfl
theorem one_by : OneF byF := by intro x u hu; simp [byF] at hu; subst hu; rfl
theorem elt_by : Elt 49 5 (.int .u8 0) 1 1 := ⟨Tryz.underlying49, by kernel_rfl, rfl, by decide⟩
/-- The bytes of a number. -/
def vb (n : Nat) : List UInt8 := if n < 128 then [UInt8.ofNat n] else UInt8.ofNat (n % 128 + 128) :: vb (n / 128)
termination_by n
decreasing_by omega
theorem vb_small {n : Nat} (h : n < 128) : vb n = [UInt8.ofNat n] := by rw [vb, if_pos h]
theorem vb_big {n : Nat} (h : ¬ n < 128) : vb n = UInt8.ofNat (n % 128 + 128) :: vb (n / 128) := by rw [vb, if_neg h]
theorem vb_len : ∀ (k n : Nat), n < 128 ^ (k + 1) → (vb n).length ≤ k + 1
  | 0, n, h => by rw [vb_small (by simpa using h)]; simp
  | k + 1, n, h => by
    by_cases hn : n < 128
    · rw [vb_small hn]; simp
    · rw [vb_big hn, List.length_cons]
      have := vb_len k (n / 128) (by rw [Nat.div_lt_iff_lt_mul (by omega)]; rw [Nat.pow_succ] at h; exact h)
      omega
theorem vb_ten {n : Nat} (h : n < 18446744073709551616) : (vb n).length ≤ 10 := vb_len 9 n (Nat.lt_trans h (by decide))
theorem by_wrap (n : Nat) : IntKind.u8.wrap (n : Int) = ((n % 256 : Nat) : Int) := by
  have := IntKind.wrap_u8 (n : Int)
  rw [this]; omega
theorem by_of {m : Nat} (h : m < 256) : ((UInt8.ofNat m).toNat : Int) = (m : Int) := by
  rw [UInt8.toNat_ofNat']
  omega
theorem by_or (n : Nat) : bits .or .u8 ((n % 256 : Nat) : Int) 128 = ((n % 128 + 128 : Nat) : Int) := by
  have key : ∀ m : Fin 256, bits .or .u8 (((m.val : Nat) : Int)) 128 = ((m.val % 128 + 128 : Nat) : Int) := by decide +kernel
  have := key ⟨n % 256, Nat.mod_lt _ (by omega)⟩
  simp only at this
  rw [this]
  omega

set_option maxHeartbeats 1000000 in
set_option maxRecDepth 100000 in
theorem vappend_c (v : Value) (l : List UInt8) (n : Nat) (w : World) (h : RdL byF 1 w v l) (hn : n < 18446744073709551616) (hl : l.length ≤ 1000000000000) : Calls Tryz.prog 77 #[v, .int .u64 n] w (RetOwn byF 1 5 (l ++ vb n) w) := by
  obtain ⟨a, c, rfl⟩ := h.shape
  have H := Lib.hid h
  have hn64 : (n : Int) ≤ 18446744073709551615 := by omega
  have hb1 : l.length * 1 ≤ 140737488355328 := by omega
  have hb2 : l.length ≤ 9223372036854775807 := by omega
  have hten := vb_ten hn
  clear h hn
  go_enter Tryz.func77, Tryz.ntmps77
  go_upto_region 1 with fail
  have N := own_lit0 (e := 5) byF 1 (Nat.le_refl w.heap.size)
  have R := H.out.same (World.grownBy_alloc w (.cells #[] 5) none)
  go_wp2_with (at_builtin; refine app_lit elt_by one_by N R rfl hb1 hb2 (by simp) (by rfl) _ _ (by rfl) (by rfl) (by rfl) ?_; intro v4 w4 o4 g4 l4)
  have G4 : w.grownBy w4 none := grownBy_trans (World.grownBy_alloc w _ none) g4
  clear N R g4 l4
  go_loopw [1, 5] (fun s1 s5 wk => ∃ (m : Nat) (L : List UInt8), s1 = .int .u64 m ∧ (m : Int) ≤ 18446744073709551615 ∧ Own byF 1 5 w.heap.size wk s5 L ∧ L ++ vb m = l ++ vb n ∧ w.grownBy wk none) (fun s1 _ _ => (intOf s1).toNat)
  case atStart => exact ⟨n, l, rfl, hn64, o4, rfl, G4⟩
  case round =>
    obtain ⟨m, L, rfl, hm, hO, hLv, hg⟩ := hrel
    have hLl : L.length ≤ l.length + 10 := by
      have h1 := congrArg List.length hLv
      rw [List.length_append, List.length_append] at h1
      omega
    have HL := Lib.hid hLv
    have hb3 : (L.length + 1) * 1 ≤ 140737488355328 := by omega
    have hb4 : L.length + 1 ≤ 9223372036854775807 := by omega
    have hsz := hg.size
    clear hLv
    by_cases hbig : m < 128
    · have Hv := Lib.hid (vb_small hbig)
      have hm1 : (m : Int) < 128 := by omega
      have hw : IntKind.u8.wrap (m : Int) = ((UInt8.ofNat m).toNat : Int) := by rw [by_wrap, by_of (by omega)]; omega
      have Hcs := Lib.hid (show (#[Value.int .u8 ((UInt8.ofNat m).toNat : Int)] : Array Value).toList = byF (UInt8.ofNat m) from rfl)
      go_wp2_with (at_builtin; refine app_one elt_by one_by byF_len hO (UInt8.ofNat m) hb3 hb4 hsz Hcs.out rfl (.tmp 19) (.tmp 22) rfl rfl rfl ?_; intro v5 w5 o5 g5 l5)
      go_ret
      exact ⟨_, rfl, by rw [← HL.out, Hv.out]; exact o5, grown_own hg hO (Nat.le_refl _) g5⟩
    · have Hv := Lib.hid (vb_big hbig)
      have hm1 : (128 : Int) ≤ (m : Int) := by omega
      have hm2 : ¬ ((m : Int) < 128) := by omega
      obtain ⟨q, hq⟩ : ∃ q : Nat, m % 256 = q := ⟨_, rfl⟩
      have hw1 : IntKind.u8.wrap (m : Int) = (q : Int) := by rw [by_wrap, hq]
      obtain ⟨b0, hb0⟩ : ∃ b0, UInt8.ofNat (m % 128 + 128) = b0 := ⟨_, rfl⟩
      have hw2 : bits .or .u8 (q : Int) 128 = (b0.toNat : Int) := by rw [← hq, by_or, ← hb0, by_of (by omega)]
      rw [hb0] at Hv
      clear hb0 hq
      have Hcs := Lib.hid (show (#[Value.int .u8 (b0.toNat : Int)] : Array Value).toList = byF b0 from rfl)
      go_wp2_with (at_builtin; refine app_one elt_by one_by byF_len hO b0 hb3 hb4 hsz Hcs.out rfl (.tmp 11) (.tmp 15) rfl rfl rfl ?_; intro v5 w5 o5 g5 l5)
      exact ⟨⟨m / 128, L ++ [b0], rfl, by omega, o5, by rw [List.append_assoc, List.singleton_append, ← Hv.out, HL.out], grown_own hg hO (Nat.le_refl _) g5⟩, by simp [intOf]; omega⟩
end Go.Proofs.YtiagjiaahnkefaaGreat

/- Which reports are accepted: the program's Check. -/
namespace Go.Proofs.YtiagjiaahnkefaaGreat
open Go.RowKit Go.Sort Go.Maps Go.WideMaps

theorem keyLaw : Keyed Tryz.prog 9 := string_keyed Tryz.underlying9
theorem lnErrAt_0 {tot : Int} {ls : List Ln} (h : 0 < ls.length) : lnErrAt tot ls 0 = lnErr tot none ls[0] := by
  unfold lnErrAt; rw [List.getElem?_eq_getElem h]; rfl
theorem lnErrAt_s {tot : Int} {ls : List Ln} {m : Nat} (h : m + 1 < ls.length) : lnErrAt tot ls (m + 1) = lnErr tot (some ls[m]) ls[m + 1] := by
  unfold lnErrAt; rw [List.getElem?_eq_getElem h]; simp only [prevL]; rw [List.getElem?_eq_getElem (show m < ls.length by omega)]
theorem line_c_at (r : Rep) (i : Nat) (w : World) (hR : RepRd w r) (hi : i < r.lines.length) : Calls Tryz.prog 39 #[repV r.win r.tot r.vl r.over r.trk r.rest r.vr, .int .i64 i] w (RetInt (lnErrAt r.tot r.lines i) w) := by
  cases i with
  | zero => rw [lnErrAt_0 hi]; exact line0_c r w hR hi
  | succ m => rw [lnErrAt_s hi]; exact lineS_c r m w hR hi
theorem keysN_snoc {ls : List Ln} {k : Nat} (h : k < ls.length) : keysN (ls.take (k + 1)) = keysN (ls.take k) ++ [ls[k].key.data.toList] := by
  unfold keysN; rw [List.take_succ_eq_append_getElem h, List.map_append]; rfl

theorem rep_1 {r : Rep} (h : r.win < 0 ∨ 1099511627776 < r.win ∨ 9223372036854775808 < r.tot ∨ r.tot < r.rest) : repErr r = 1 := by unfold repErr; rw [if_pos h]
theorem rep_7 {r : Rep} (h1 : ¬ (r.win < 0 ∨ 1099511627776 < r.win ∨ 9223372036854775808 < r.tot ∨ r.tot < r.rest)) (h : 64 < r.lines.length ∨ r.trk < r.lines.length ∨ 768 < r.trk) : repErr r = 7 := by unfold repErr; rw [if_neg h1, if_pos h]
/-- The third part of the check and what follows. -/
def repErr3 (r : Rep) : Int :=
  if linesErr r.tot r.lines ≠ 0 then linesErr r.tot r.lines
  else if ¬ (keysN r.lines).Nodup then 10
  else if 18446744073709551615 < r.over + loSum r.lines ∨ r.over + loSum r.lines ≠ r.tot then 13
  else if r.rej.length ≠ 7 ∨ r.rej[0]? ≠ some 0 then 3
  else 0
theorem rep_3 {r : Rep} (h1 : ¬ (r.win < 0 ∨ 1099511627776 < r.win ∨ 9223372036854775808 < r.tot ∨ r.tot < r.rest)) (h2 : ¬ (64 < r.lines.length ∨ r.trk < r.lines.length ∨ 768 < r.trk)) : repErr r = repErr3 r := by unfold repErr; rw [if_neg h1, if_neg h2]; rfl
theorem rep3_lines {r : Rep} {j : Nat} (hj : j < r.lines.length) (h : ∀ i, i < j → lnErrAt r.tot r.lines i = 0) (h2 : lnErrAt r.tot r.lines j ≠ 0) : repErr3 r = lnErrAt r.tot r.lines j := by
  have e := lines_at hj h h2
  unfold repErr3; rw [e, if_pos h2]
/-- The rest behind the lines. -/
def repErr4 (r : Rep) : Int :=
  if 18446744073709551615 < r.over + loSum r.lines ∨ r.over + loSum r.lines ≠ r.tot then 13
  else if r.rej.length ≠ 7 ∨ r.rej[0]? ≠ some 0 then 3
  else 0
theorem rep3_10 {r : Rep} (h : ∀ i, i < r.lines.length → lnErrAt r.tot r.lines i = 0) (h2 : ¬ (keysN r.lines).Nodup) : repErr3 r = 10 := by
  unfold repErr3; rw [lines_no h, if_neg (by simp), if_pos h2]
theorem rep3_4 {r : Rep} (h : ∀ i, i < r.lines.length → lnErrAt r.tot r.lines i = 0) (h2 : (keysN r.lines).Nodup) : repErr3 r = repErr4 r := by
  unfold repErr3; rw [lines_no h, if_neg (by simp), if_neg (by simpa using h2)]; rfl
theorem rep4_13 {r : Rep} (h : 18446744073709551615 < r.over + loSum r.lines ∨ r.over + loSum r.lines ≠ r.tot) : repErr4 r = 13 := by unfold repErr4; rw [if_pos h]
theorem rep4_3 {r : Rep} (h : ¬ (18446744073709551615 < r.over + loSum r.lines ∨ r.over + loSum r.lines ≠ r.tot)) (h2 : r.rej.length ≠ 7 ∨ r.rej[0]? ≠ some 0) : repErr4 r = 3 := by unfold repErr4; rw [if_neg h, if_pos h2]
theorem rep4_0 {r : Rep} (h : ¬ (18446744073709551615 < r.over + loSum r.lines ∨ r.over + loSum r.lines ≠ r.tot)) (h2 : ¬ (r.rej.length ≠ 7 ∨ r.rej[0]? ≠ some 0)) : repErr4 r = 0 := by unfold repErr4; rw [if_neg h, if_neg h2]

set_option maxHeartbeats 2000000 in
set_option maxRecDepth 100000 in
theorem repcheck_c (r : Rep) (w : World) (hR : RepRd w r) (hW : RepW r) : Calls Tryz.prog 11 #[repV r.win r.tot r.vl r.over r.trk r.rest r.vr] w (RetInt (repErr r) w) := by
  have HR := Lib.hid hR
  have HW := Lib.hid hW
  obtain ⟨la, lc, e1⟩ := hR.lines.shape
  obtain ⟨ra, rc, e2⟩ := hR.rej.shape
  have hlm := hR.lines.2.1
  have hrm := hR.rej.2.1
  clear hR hW
  rw [e1, e2]
  have E1 := Lib.hid e1
  have E2 := Lib.hid e2
  clear e1 e2
  have hmm := @run_makeMap Tryz.prog
  by_cases p1 : r.win < 0 ∨ 1099511627776 < r.win ∨ 9223372036854775808 < r.tot ∨ r.tot < r.rest
  · have HE := Lib.hid (rep_1 p1)
    have hg := Lib.hid (grownBy_new_block (grownBy_refl w none) (.cells #[.int .i64 r.win, .int .u64 r.tot, .slice la r.lines.length lc, .int .u64 r.over, .int .i64 r.trk, .int .u64 r.rest, .slice ra r.rej.length rc] 32))
    generalize repErr r = q at *
    rcases p1 with h | h | h | h
    all_goals
      go_enter Tryz.func11, Tryz.ntmps11
      go_wp2_with fail
      all_goals
        go_ret
        exact retInt HE.out hg.out
  by_cases p2 : 64 < r.lines.length ∨ r.trk < r.lines.length ∨ 768 < r.trk
  · have HE := Lib.hid (rep_7 p1 p2)
    have hg := Lib.hid (grownBy_new_block (grownBy_refl w none) (.cells #[.int .i64 r.win, .int .u64 r.tot, .slice la r.lines.length lc, .int .u64 r.over, .int .i64 r.trk, .int .u64 r.rest, .slice ra r.rej.length rc] 32))
    generalize repErr r = q at *
    have q1 : 0 ≤ r.win := by omega
    have q2 : r.win ≤ 1099511627776 := by omega
    have q3 : r.tot ≤ 9223372036854775808 := by omega
    have q4 : r.rest ≤ r.tot := by omega
    clear p1
    rcases p2 with h | h | h
    · have h' : (64 : Int) < (r.lines.length : Int) := by omega
      go_enter Tryz.func11, Tryz.ntmps11
      go_wp2_with fail
      all_goals
        go_ret
        exact retInt HE.out hg.out
    all_goals
      go_enter Tryz.func11, Tryz.ntmps11
      go_wp2_with fail
      all_goals
        go_ret
        exact retInt HE.out hg.out
  have HE := Lib.hid (rep_3 p1 p2)
  have q1 : 0 ≤ r.win := by omega
  have q2 : r.win ≤ 1099511627776 := by omega
  have q3 : r.tot ≤ 9223372036854775808 := by omega
  have q4 : r.rest ≤ r.tot := by omega
  have q5 : (r.lines.length : Int) ≤ 64 := by omega
  have q6 : (r.lines.length : Int) ≤ r.trk := by omega
  have q7 : r.trk ≤ 768 := by omega
  clear p1 p2
  go_enter Tryz.func11, Tryz.ntmps11
  go_upto_region 5 with fail
  have B1 := Blk.new w #[.int .i64 r.win, .int .u64 r.tot, .slice la r.lines.length lc, .int .u64 r.over, .int .i64 r.trk, .int .u64 r.rest, .slice ra r.rej.length rc] 32
  have G1 := grownBy_new_block (grownBy_refl w none) (.cells #[.int .i64 r.win, .int .u64 r.tot, .slice la r.lines.length lc, .int .u64 r.over, .int .i64 r.trk, .int .u64 r.rest, .slice ra r.rej.length rc] 32)
  generalize w.alloc (.cells #[.int .i64 r.win, .int .u64 r.tot, .slice la r.lines.length lc, .int .u64 r.over, .int .i64 r.trk, .int .u64 r.rest, .slice ra r.rej.length rc] 32) = w1 at *
  generalize w.heap.size = b at *
  have hn64 : r.lines.length ≤ 64 := by omega
  clear q1 q2 q3 q4 q5 q6 q7
  go_upto_region 6 with fail
  have M2 := World.ownsMap_made w1 Tryz.prog 9 (plainElem (H := Unit) Tryz.prog 4)
  have B2 := B1.same (World.grownBy_alloc w1 (.map #[] 0) none)
  have G2 := grownBy_new_block G1 (.map #[] 0)
  have hmb : w1.heap.size < (w1.alloc (.map #[] 0)).heap.size := by simp
  have hmw : w.heap.size ≤ w1.heap.size := G1.size
  generalize w1.alloc (.map #[] 0) = w2 at *
  have hbm := B1.lt
  generalize w1.heap.size = mb at *
  clear B1 G1 hmm
  have b2 := B2.cell
  go_wp2_with fail
  clear b2
  go_loopw [52] (fun s52 wk => ∃ k : Nat, k ≤ r.lines.length ∧ s52 = .int .i64 k ∧ (∀ i, i < k → lnErrAt r.tot r.lines i = 0) ∧ wk.ownsMap Tryz.prog 9 (plainElem Tryz.prog 4) mb k (setS (keysN (r.lines.take k))) ∧ w2.grownBy wk (some mb)) (fun s52 _ => r.lines.length - (intOf s52).toNat)
  case atStart => exact ⟨0, Nat.zero_le _, rfl, by intro i h; omega, M2, grownBy_refl _ _⟩
  case round =>
    clear M2
    obtain ⟨k, hk, rfl, hall, hM, hg⟩ := hrel
    have Hall := Lib.hid hall
    clear hall
    have hgw := grownBy_new G2 hg hmw
    have B3 := B2.kept hg (by simp; omega)
    have RR := HR.out.same hgw
    by_cases hlt : k < r.lines.length
    · obtain ⟨g, off, cap, hv, hgl, hc⟩ := RR.lines.at_ lnF_len hlt
      rw [E1.out] at hv
      cases hv
      have c0 := hc 0 _ rfl
      have c1 := hc 1 _ rfl
      have c2 := hc 2 _ rfl
      rw [Nat.add_zero] at c0
      have hsz := (HW.out.lines _ (List.getElem_mem hlt)).key
      have hcl := fun w' (h : World.grownBy wr w' none) => line_c_at r k w' (RR.same h) hlt
      rw [E1.out, E2.out] at hcl
      have Hcl := Lib.hid hcl
      have HS := Lib.hid (keysN_snoc hlt)
      clear RR hc hcl
      have hq := Lib.hid fun h => rep3_lines hlt Hall.out h
      generalize r.lines[k] = x at *
      obtain ⟨q, hqe⟩ : ∃ q, lnErrAt r.tot r.lines k = q := ⟨_, rfl⟩
      have Hqe := Lib.hid hqe
      rw [hqe] at Hcl hq
      clear hqe
      go_upto_region 9 with fail
      have M3 := hM.alloc (.cells #[.string x.key, .int .u64 x.lo, .int .u64 x.hi] 40)
      have B4 := B3.same (World.grownBy_alloc wr (.cells #[.string x.key, .int .u64 x.lo, .int .u64 x.hi] 40) none)
      have A3 := Blk.new wr #[.string x.key, .int .u64 x.lo, .int .u64 x.hi] 40
      have g3 : wr.grownBy (wr.alloc (.cells #[.string x.key, .int .u64 x.lo, .int .u64 x.hi] 40)) none := World.grownBy_alloc wr _ none
      generalize wr.alloc (.cells #[.string x.key, .int .u64 x.lo, .int .u64 x.hi] 40) = w3 at *
      generalize wr.heap.size = lb at *
      clear c0 c1 c2 hM B3 B2
      have b4 := B4.cell
      go_upto_region 10 with (go_at_call 39; refine (Hcl.out _ g3).mono ?_; rintro e w4 ⟨rfl, g4⟩)
      clear b4 B4
      have M4 := M3.kept g4 (by simp)
      have A4 := (A3.same g4).cell
      have K4 := grownBy_trans hg (grownBy_some (grownBy_trans g3 g4) (some mb))
      have KW := grownBy_trans hgw (grownBy_trans g3 g4)
      by_cases hq0 : q = 0
      · subst hq0
        have hkey := keyOf_string_mk Tryz.underlying9 (s := x.key) (by unfold maxLen; omega)
        have hkm : k < maxLen := by unfold maxLen; omega
        go_wp2_with (at_mapUpdate; refine wpList_mapUpdate_own _ rfl _ _ _ 72 rfl 9 4 keyLaw Tryz.underlying72 (plainElem (H := Unit) Tryz.prog 4) mb k _ rfl M4 hkm _ _ _ rfl rfl hkey _ [] (plainElem_bool Tryz.underlying4 true) ?_; intro w5 M5 g5)
        exact ⟨⟨k + 1, by omega, by go_num, fun i hi => by
          rcases Nat.lt_or_ge i k with h | h
          · exact Hall.out i h
          · obtain rfl : i = k := by omega
            exact Hqe.out, by rw [HS.out, setS_snoc]; exact M5, grownBy_trans K4 g5⟩, by simp [intOf]; omega⟩
      · have hqb : (q != 0) = true := by simp [hq0]
        have HQ := Lib.hid (HE.out.trans (hq.out hq0))
        go_wp2_with fail
        go_ret
        exact retInt HQ.out KW
    · have hke : r.lines.take k = r.lines := List.take_of_length_le (by omega)
      rw [hke] at hM
      obtain rfl : k = r.lines.length := by omega
      clear hke hk
      obtain ⟨hs1, hs2⟩ := setS_size (keysN r.lines)
      have hkl : (keysN r.lines).length = r.lines.length := by simp [keysN]
      rw [hkl] at hs1 hs2
      have H10 := Lib.hid fun h => HE.out.trans (rep3_10 Hall.out h)
      have H4 := Lib.hid fun h => HE.out.trans (rep3_4 Hall.out h)
      have HM := Lib.hid hM
      generalize setS (keysN r.lines) = D at *
      generalize hsz : Maps.size D = sz at *
      have b3 := B3.cell
      by_cases hnd : (keysN r.lines).Nodup
      · have hse := hs2.2 hnd
        have HX := Lib.hid (H4.out hnd)
        clear H10 H4 hnd hs1 hs2
        have hne : ((sz : Int) != (r.lines.length : Int)) = false := by rw [hse]; simp
        have Hsz := Lib.hid hsz
        clear hsz hse
        have hcl := fun w' (h : World.grownBy wr w' none) => lows_c _ r.lines w' (RdL.same RR.lines h) HW.out.lines
        rw [E1.out] at hcl
        have hT0 : 0 ≤ loSum r.lines := loSum_pos fun y hy => (HW.out.lines y hy).lo.1
        obtain ⟨ho0, ho1⟩ := HW.out.over
        obtain ⟨T, hT⟩ : ∃ T, loSum r.lines = T := ⟨_, rfl⟩
        rw [hT] at hcl hT0
        have H13 := Lib.hid fun h => HX.out.trans (rep4_13 (r := r) (by rw [hT]; exact h))
        have H3 := Lib.hid fun h h2 => HX.out.trans (rep4_3 (r := r) (by rw [hT]; exact h) h2)
        have H0 := Lib.hid fun h h2 => HX.out.trans (rep4_0 (r := r) (by rw [hT]; exact h) h2)
        clear hT HX
        by_cases hf : r.over + T ≤ 18446744073709551615
        · have f1 : fitL T = true := by unfold fitL; exact decide_eq_true (by omega)
          have f2 : satL T = T := by unfold satL; rw [if_pos (by omega)]
          have f3 : fitA T r.over = true := by unfold fitA; exact decide_eq_true (by omega)
          have f4 : satA T r.over = T + r.over := by unfold satA; rw [if_pos (by omega)]
          have hcl2 : ∀ w', World.grownBy wr w' none → Calls Tryz.prog 26 #[.slice la r.lines.length lc] w' fun e w'' => e = .returned (.tuple #[.int .u64 T, .bool true]) ∧ w'.grownBy w'' none := fun w' h => (hcl w' h).mono fun e w'' ⟨he, hg⟩ => ⟨by rw [he, f1, f2], hg⟩
          have had : ∀ w', Calls Tryz.prog 40 #[.int .u64 T, .int .u64 r.over] w' fun e w'' => e = .returned (.tuple #[.int .u64 (T + r.over), .bool true]) ∧ w' = w'' := fun w' => (satAdd_c T r.over w' ⟨hT0, by omega⟩ ⟨ho0, ho1⟩).mono fun e w'' ⟨he, hg⟩ => ⟨by rw [he, f3, f4], hg⟩
          have Hcl := Lib.hid hcl2
          have Had := Lib.hid had
          clear hcl hcl2 had f1 f2 f3 f4 HM
          by_cases ht : T + r.over = r.tot
          · have htb : ((T + r.over : Int) != r.tot) = false := by rw [ht]; simp
            have H3' := Lib.hid (H3.out (by omega))
            have H0' := Lib.hid (H0.out (by omega))
            clear H3 H0 H13 ht hf
            by_cases h7 : r.rej.length = 7
            · obtain ⟨g7, o7, c7, hv7, hg7, hc7⟩ := RdL.one word_one RR.rej (k := 0) (by omega)
              rw [E2.out] at hv7
              cases hv7
              have h7b : ((r.rej.length : Int) != 7) = false := by rw [h7]; rfl
              have h7c : (0 : Int) < (r.rej.length : Int) := by omega
              rw [Nat.add_zero] at hc7
              have H7 := Lib.hid h7
              obtain ⟨r0, hr0, hr1⟩ : ∃ r0, r.rej[0]? = some r0 ∧ wr.cell? ⟨g7, o7, none⟩ = some (.int .u64 r0) := ⟨r.rej[0], List.getElem?_eq_getElem (by omega), hc7⟩
              clear hc7
              have hc7 := hr1
              have Hr0 := Lib.hid hr0
              clear hr0 hr1 h7
              have HC7 := Lib.hid fun w' (h : World.grownBy wr w' none) => ((grownBy_cells h).1 g7 o7 hg7 (by simp)).trans hc7
              have HB3 := Lib.hid B3
              clear hc7 B3
              by_cases hz : r0 = 0
              · have HZ := Lib.hid (H0'.out (by rw [Hr0.out, hz]; have := H7.out; simp; omega))
                rw [hz] at HC7
                clear H3' H0' Hr0 hz H7
                go_upto_region 17 with (first
                  | (at_len; refine wpList_len_own _ rfl _ 72 rfl 9 4 Tryz.underlying72 _ mb r.lines.length D rfl hM ?_; rw [Hsz.out])
                  | (go_at_call 26; refine (Hcl.out _ (grownBy_refl _ _)).mono ?_; rintro e w6 ⟨rfl, g6⟩; have b6 := (HB3.out.same g6).cell; have c6 := HC7.out _ g6; have K6 := grownBy_trans hgw g6))
                go_wp2_with (go_at_call 40; refine (Had.out _).mono ?_; rintro e w7 ⟨rfl, rfl⟩)
                go_ret
                exact retInt HZ.out K6
              · have hzb : ((r0 : Int) != 0) = true := by simp [hz]
                have HZ := Lib.hid (H3'.out (.inr (by rw [Hr0.out]; simp [hz])))
                clear H3' H0' Hr0 hz H7
                go_upto_region 17 with (first
                  | (at_len; refine wpList_len_own _ rfl _ 72 rfl 9 4 Tryz.underlying72 _ mb r.lines.length D rfl hM ?_; rw [Hsz.out])
                  | (go_at_call 26; refine (Hcl.out _ (grownBy_refl _ _)).mono ?_; rintro e w6 ⟨rfl, g6⟩; have b6 := (HB3.out.same g6).cell; have c6 := HC7.out _ g6; have K6 := grownBy_trans hgw g6))
                go_wp2_with (go_at_call 40; refine (Had.out _).mono ?_; rintro e w7 ⟨rfl, rfl⟩)
                go_ret
                exact retInt HZ.out K6
            · have h7b : ((r.rej.length : Int) != 7) = true := by simp; omega
              have HZ := Lib.hid (H3'.out (.inl h7))
              clear H3' H0' h7
              have HB3 := Lib.hid B3
              go_upto_region 17 with (first
                | (at_len; refine wpList_len_own _ rfl _ 72 rfl 9 4 Tryz.underlying72 _ mb r.lines.length D rfl hM ?_; rw [Hsz.out])
                | (go_at_call 26; refine (Hcl.out _ (grownBy_refl _ _)).mono ?_; rintro e w6 ⟨rfl, g6⟩; have b6 := (HB3.out.same g6).cell; have K6 := grownBy_trans hgw g6))
              go_wp2_with (go_at_call 40; refine (Had.out _).mono ?_; rintro e w7 ⟨rfl, rfl⟩)
              go_ret
              exact retInt HZ.out K6
          · have htb : ((T + r.over : Int) != r.tot) = true := by simp [ht]
            have HZ := Lib.hid (H13.out (.inr (by omega)))
            clear H3 H0 H13 ht hf
            have HB3 := Lib.hid B3
            go_upto_region 17 with (first
              | (at_len; refine wpList_len_own _ rfl _ 72 rfl 9 4 Tryz.underlying72 _ mb r.lines.length D rfl hM ?_; rw [Hsz.out])
              | (go_at_call 26; refine (Hcl.out _ (grownBy_refl _ _)).mono ?_; rintro e w6 ⟨rfl, g6⟩; have b6 := (HB3.out.same g6).cell; have K6 := grownBy_trans hgw g6))
            go_wp2_with (go_at_call 40; refine (Had.out _).mono ?_; rintro e w7 ⟨rfl, rfl⟩)
            go_ret
            exact retInt HZ.out K6
        · have HZ := Lib.hid (H13.out (.inl (by omega)))
          have hW1 := satL_w hT0
          have hfa := fitL_add (n := T) (x := r.over) ho0
          have hfn : fitL (T + r.over) = false := by unfold fitL; exact decide_eq_false (by omega)
          rw [hfn] at hfa
          clear H3 H0 H13 HM hfn
          have HB3 := Lib.hid B3
          have hcl2 : ∀ w', World.grownBy wr w' none → Calls Tryz.prog 26 #[.slice la r.lines.length lc] w' fun e w'' => e = .returned (.tuple #[.int .u64 (satL T), .bool (fitL T)]) ∧ w'.grownBy w'' none := hcl
          have Hcl := Lib.hid hcl2
          clear hcl hcl2 hf
          generalize fitL T = f1 at *
          generalize satL T = s1 at *
          have Had := Lib.hid fun w' => satAdd_c s1 r.over w' hW1 ⟨ho0, ho1⟩
          generalize fitA s1 r.over = f2 at *
          generalize satA s1 r.over = s2 at *
          have hfe : f1 = false ∨ f2 = false := by cases f1 <;> simp_all
          clear hfa
          rcases hfe with rfl | rfl
          · go_upto_region 17 with (first
              | (at_len; refine wpList_len_own _ rfl _ 72 rfl 9 4 Tryz.underlying72 _ mb r.lines.length D rfl hM ?_; rw [Hsz.out])
              | (go_at_call 26; refine (Hcl.out _ (grownBy_refl _ _)).mono ?_; rintro e w6 ⟨rfl, g6⟩; have b6 := (HB3.out.same g6).cell; have K6 := grownBy_trans hgw g6))
            go_wp2_with (go_at_call 40; refine (Had.out _).mono ?_; rintro e w7 ⟨rfl, rfl⟩)
            go_ret
            exact retInt HZ.out K6
          · cases f1
            all_goals
              go_upto_region 17 with (first
                | (at_len; refine wpList_len_own _ rfl _ 72 rfl 9 4 Tryz.underlying72 _ mb r.lines.length D rfl hM ?_; rw [Hsz.out])
                | (go_at_call 26; refine (Hcl.out _ (grownBy_refl _ _)).mono ?_; rintro e w6 ⟨rfl, g6⟩; have b6 := (HB3.out.same g6).cell; have K6 := grownBy_trans hgw g6))
              go_wp2_with (go_at_call 40; refine (Had.out _).mono ?_; rintro e w7 ⟨rfl, rfl⟩)
              go_ret
              exact retInt HZ.out K6
      · have hne : ((sz : Int) != (r.lines.length : Int)) = true := by
          have : sz ≠ r.lines.length := fun e => hnd (hs2.1 e)
          simp; omega
        have HX := Lib.hid (H10.out hnd)
        clear H10 H4 hnd hs1 hs2
        have Hsz := Lib.hid hsz
        clear hsz
        go_wp2_with (at_len; refine wpList_len_own _ rfl _ 72 rfl 9 4 Tryz.underlying72 _ mb r.lines.length D rfl hM ?_; rw [Hsz.out])
        go_ret
        exact retInt HX.out hgw
end Go.Proofs.YtiagjiaahnkefaaGreat
