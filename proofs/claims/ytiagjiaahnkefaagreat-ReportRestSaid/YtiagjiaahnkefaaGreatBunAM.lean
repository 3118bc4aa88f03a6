/- Several texts in one file; each begins with a comment that says what is proved in it. -/
import Derived.Test.YtiagjiaahnkefaaGreatBunAL
import Derived.Test.YtiagjiaahnkefaaGreatBunAK
import Derived.Test.YtiagjiaahnkefaaGreatBunAJ
import Derived.Test.YtiagjiaahnkefaaGreatBunAC
import Derived.Test.YtiagjiaahnkefaaGreatBunAB

/- The walk of the law ReportSums. -/
namespace Go.Proofs.YtiagjiaahnkefaaGreat
open Go.RowKit Go.Sort
attribute [local go_sem ↓] exec_load_cfg
attribute [local go_sem] run_loadCfgS

theorem zeros7 : ∃ Z : List Int, (∀ w, (Instr.makeSlice 23 (.int .i64 7) (.int .i64 7)).run Tryz.prog w = .ok (.slice (some ⟨w.heap.size, 0, none⟩) 7 7) (w.alloc (.cells (wordCells Z) 25))) ∧ Z.length = 7 ∧ Z[0]? = some 0 ∧ ∀ n ∈ Z, W64 n := ⟨List.replicate 7 0, fun w => make_words 7 (by omega) w, rfl, rfl, fun n hn => by rw [List.eq_of_mem_replicate hn]; exact w64_0⟩

set_option maxHeartbeats 1600000 in
set_option maxRecDepth 100000 in
theorem sums_w (sv pv : Value) (xs P : List Int) (n : Nat) (w : World) (hsv : Rd w 1 sv n (xs.map (fun x => Value.int .i64 x))) (hpv : RdL intF 1 w pv P) :
    Calls Tryz.prog 4 #[sv, pv] w (RetBool true w) := by
  obtain ⟨Z, hmk, hz1, hz2, hz3⟩ := zeros7
  have Hmk := Lib.hid hmk
  have HZ := Lib.hid (And.intro hz1 (And.intro hz2 hz3))
  clear hmk hz1 hz2 hz3
  have HS := Lib.hid hsv
  have HP := Lib.hid hpv
  obtain ⟨sa, sc, rfl⟩ := hsv.shape
  obtain ⟨pa, pc, rfl⟩ := hpv.shape
  clear hsv hpv
  go_enter Tryz.func4, Tryz.ntmps4
  go_upto_region 2 with (first | (go_at_call 7; refine (few24_c _ xs _ _ HS.out).mono ?_; rintro e w1 ⟨c, lc, t, lv, l, win0, rej0, vl0, vr0, rfl, F1, P1, P2, P3, P4, P5, P6, P7, P8, G1⟩; (obtain ⟨la, lcp, rfl⟩ := F1.sums.rd.shape); (obtain ⟨a0, k0, rfl⟩ := P1.shape); (obtain ⟨b0, j0, rfl⟩ := P2.shape); have oc1 := F1.mem.one1; have oc2 := F1.mem.one2) | (refine alloc_cfg rfl rfl ?_; intro w2 B2 G2 z2) | (refine alloc_rep rfl rfl ?_; intro w3 A3 G3 z3; have B3 := B2.same G3) | (refine store_cfg rfl _ _ rfl _ rfl c rfl oc1 oc2 Cfg.zero (by assumption) ?_; intro w4 B4 G4; have A4 := A3.kept G4 (by simp; omega)) | (refine store_rep rfl _ _ rfl _ rfl rfl rfl rfl _ rfl (by assumption) ?_; intro w5 A5 G5; have B5 := B4.kept G5 (by simp; omega); have K5 := grownBy_new (grownBy_new (grownBy_trans G2 G3) G4 (Nat.le_refl _)) G5 (Nat.le_of_lt z2)))
  simp only [Act.put, List.setIfInBounds_toArray, List.set_cons_zero, List.set_cons_succ]
  clear P1 P2 P3 P4 P5 P6 P7 P8
  have KW := grownBy_trans G1 K5
  have F5 := Lib.hid (F1.same K5)
  have PV := Lib.hid (RdL.same HP.out KW)
  clear A5 G5 A4 G4 A3 G3 z3 B4 B3 B2 G2 z2 F1 HS HP
  have Hc1 := Lib.hid (p := ∀ w' rv, World.grownBy w5 w' none → RdL wordF 1 w' rv Z → Calls Tryz.prog 9 #[c.val, .int .i64 7, .slice la l.length lcp, rv, .slice pa P.length pc] w' (fun e w2 => (∃ vl vr, e = .returned (repV 7 (totalF l) vl (bOver c t l) ((keysF l).length : Int) (bRest c t l) vr) ∧ RdL lnF 3 w2 vl (bLs c t l) ∧ RdL wordF 1 w2 vr Z ∧ CapOk vl ∧ CapOk vr ∧ From w'.heap.size vl ∧ From w'.heap.size vr) ∧ w'.grownBy w2 none)) (fun w' rv h hr => (build_c c lc t _ l _ P _ Z 7 w' (F5.out.same h) (RdL.same PV.out h) hr (by have := HZ.out.1; omega)).mono fun e w2 ⟨vl, vr, h1, h2, h3, h4, h5, h6, h7, h8⟩ => ⟨⟨vl, vr, h1, h2, h3, h4, h5, h6, h7⟩, h8⟩)
  have Hc2 := Lib.hid (p := ∀ w' vl vr, RdL lnF 3 w' vl (bLs c t l) → RdL wordF 1 w' vr Z → CapOk vl → CapOk vr → Calls Tryz.prog 11 #[repV 7 (totalF l) vl (bOver c t l) ((keysF l).length : Int) (bRest c t l) vr] w' (RetInt 0 w')) (fun w' vl vr h1 h2 h3 h4 => by
    have := repcheck_c ⟨7, totalF l, vl, bOver c t l, (keysF l).length, bRest c t l, vr, bLs c t l, Z⟩ w' ⟨h1, h2, h3, h4⟩ (built_w F5.out (by omega) HZ.out.2.2 vl vr)
    rw [built_ok F5.out (by omega) HZ.out.1 HZ.out.2.1 vl vr] at this
    exact this)
  have Hc3 := Lib.hid fun w' (h : World.grownBy w5 w' none) => mtotal_c _ l w' (F5.out.same h).sums
  have Hc4 := Lib.hid (p := ∀ w' , World.grownBy w5 w' none → Calls Tryz.prog 13 #[.slice la l.length lcp] w' (fun e w2 => (∃ a cp, e = .returned (.slice a (keysF l).length cp)) ∧ w'.grownBy w2 none)) (fun w' h => (mkeys_c _ l w' (F5.out.same h).sums (by have := keysL_few F5.out; omega)).mono fun e w2 ⟨v, h1, h2, h3⟩ => by obtain ⟨a, cp, hv⟩ := h2.shape; exact ⟨⟨a, cp, hv ▸ h1⟩, h3⟩)
  have hov := bOver_eq (t := t) F5.out
  have hlo := bLs_lo (t := t) F5.out
  have Hll := Lib.hid (bLs_len (t := t) F5.out)
  have htt := (few_sum F5.out).2
  have Hlo := Lib.hid (p := ∀ x ∈ bLs c t l, 0 ≤ x.lo) (fun x hx => (mem_all F5.out (mem_bLs hx)).2.2.2)
  clear F5 PV
  generalize bLs c t l = Ls at *
  generalize bOver c t l = ov at *
  generalize bRest c t l = rst at *
  generalize totalF l = tot at *
  generalize (keysF l).length = K at *
  have B6 := B5.same (w' := w5.drew) (by (repeat (first | exact grownBy_refl _ _ | assumption | refine grownBy_new_block ?_ _ | refine grownBy_drew ?_ | refine grownBy_drewN ?_ _ | refine grownBy_setNew ?_ (by first | (simp; done) | omega | (simp; omega)) _)))
  have K6 : World.grownBy w5 w5.drew none := (by (repeat (first | exact grownBy_refl _ _ | assumption | refine grownBy_new_block ?_ _ | refine grownBy_drew ?_ | refine grownBy_drewN ?_ _ | refine grownBy_setNew ?_ (by first | (simp; done) | omega | (simp; omega)) _)))
  (refine Rg.wp_region_rgZ 6 #[] (fun w w' => World.grownBy w w' none) (fun k _ w v w' => match k with | 4 => (∃ vl vr, v = repV 7 tot vl ov K rst vr ∧ RdL lnF 3 w' vl Ls ∧ RdL wordF 1 w' vr Z ∧ CapOk vl ∧ CapOk vr ∧ From w.heap.size vl ∧ From w.heap.size vr) ∧ World.grownBy w w' none | _ => False) (by kernel_rfl) (by kernel_rfl) (fun w => grownBy_refl w none) (fun _ _ _ h k => grownBy_trans h k) (fun _ _ _ _ _ h => h) ?_; simp only [List.take, List.drop])
  generalize w5.drew = w6 at *
  ((refine Rg.tree_op rfl rfl ?_; intro x0 mx0 dx0); clear dx0; have BX := B6.same mx0; go_wp2_with (refine load_cfg rfl _ rfl _ rfl c (by assumption) ?_); refine ⟨grownBy_refl _ _, ?_⟩; clear BX)
  (refine Rg.tree_quiet 1 rfl (by first | exact Or.inl rfl | exact Or.inr rfl) ?_; simp only [List.take, List.drop, List.length_cons, List.length_nil, List.replicate, Nat.reduceAdd]; (try simp only [List.cons_append]); (try simp only [List.nil_append]); (repeat (go_big_quiet_step (fail))); refine wpQuiet_nil ?_)
  (refine Rg.tree_op rfl rfl ?_; intro x2 mx2 dx2)
  clear dx2
  have hmk := Hmk.out
  go_wp2_with fail
  refine ⟨World.grownBy_alloc _ _ _, ?_⟩
  clear hmk
  have Z2 := Blk.new x2 (wordCells Z) 25
  generalize x2.alloc (.cells (wordCells Z) 25) = e2 at *
  generalize x2.heap.size = zb at *
  (refine Rg.tree_quiet 1 rfl (by first | exact Or.inl rfl | exact Or.inr rfl) ?_; simp only [List.take, List.drop, List.length_cons, List.length_nil, List.replicate, Nat.reduceAdd]; (try simp only [List.cons_append]); (try simp only [List.nil_append]); (repeat (go_big_quiet_step (fail))); refine wpQuiet_nil ?_)
  (refine Rg.tree_call rfl rfl rfl ?_; intro x4 mx4 dx4; refine ⟨?_, ?_⟩; · (unfold Rg.callSpec; go_simp; (refine (Hc1.out x4 _ (grownBy_trans K6 mx4) ((Z2.same (dx4.out 2 (by omega) (by kernel_rfl))).words7 HZ.out.1)).mono ?_; rintro e w' ⟨⟨vl, vr, rfl, h⟩, g⟩; exact ⟨_, rfl, ⟨vl, vr, rfl, h⟩, g⟩)))
  clear dx4
  rintro v4 y4 ⟨⟨vl, vr, rfl, R1, R2, hc1, hc2, hf1, hf2⟩, g4⟩
  refine ⟨g4, ?_⟩
  simp only [Act.put, List.setIfInBounds_toArray, List.set_cons_zero, List.set_cons_succ]
  (refine Rg.tree_op rfl rfl ?_; intro x5 mx5 dx5)
  clear dx5
  go_wp2_with (refine alloc_rep rfl rfl ?_; intro e5 A5 G5 z5)
  have hx5 : x5.heap.size < e5.heap.size := A5.lt
  obtain ⟨bs, hbs⟩ : ∃ bs, x5.heap.size = bs := ⟨_, rfl⟩
  have hzx4 : w5.heap.size ≤ x4.heap.size := (grownBy_trans K6 mx4).size
  intro wz mwz dwz0 cwz0
  have q1 : y4.grownBy x5 none ∨ e5.grownBy x4 none := cwz0 4 5 (by omega) (by omega) (by omega)
  have qy : y4.grownBy wz none := dwz0 4 (by omega)
  have Az := A5.same (dwz0 5 (by omega) : e5.grownBy wz none)
  have Bz := B6.same mwz
  have Kz := grownBy_trans K6 mwz
  have hbr5 : w5.heap.size ≤ x5.heap.size := (grownBy_trans K6 mx5).size
  obtain ⟨a1, k1, rfl⟩ := R1.shape
  obtain ⟨a2, k2, e2'⟩ := R2.shape
  rw [HZ.out.1] at e2'
  subst e2'
  clear dwz0 cwz0 mx0 mx2 mx4 g4 mx5 mwz A5 G5 z5 Z2 B6 K6
  have hy5 : y4.grownBy x5 none → y4.heap.size ≤ bs := fun h => hbs ▸ h.size
  rw [hbs] at Az hx5 hbr5 ⊢
  have Hbs := Lib.hid hbs
  clear hbs
  go_upto_region 3 with (refine store_rep rfl _ _ rfl _ rfl rfl rfl rfl _ rfl (by assumption) ?_; intro w7 A7 G7)
  simp only [Act.put, List.setIfInBounds_toArray, List.set_cons_zero, List.set_cons_succ]
  have R17 : RdL lnF 3 w7 (.slice a1 Ls.length k1) Ls ∧ RdL wordF 1 w7 (.slice a2 7 k2) Z := by
    rcases q1 with h | h
    · have h2 := h.size
      have h3 := grownBy_new qy G7 (hy5 h)
      exact ⟨RdL.same R1 h3, RdL.same R2 h3⟩
    · have h2 := h.size
      exact ⟨(RdL.same R1 qy).keptFrom hf1 G7 (by omega), (RdL.same R2 qy).keptFrom hf2 G7 (by omega)⟩
  obtain ⟨R7, S7⟩ := R17
  have K7 := grownBy_new Kz G7 hbr5
  have hb5 := B5.lt
  have B7 := Bz.kept G7 (by simp; omega)
  clear q1 qy Az Bz Kz R1 R2 hy5 Hbs G7 hf1 hf2 B5
  have a7 := A7.cell
  go_upto_region 5 with fail
  clear a7
  have h0s : loSum (Ls.take 0) = 0 := rfl
  go_loopw [9, 28] (fun s9 s28 wk => ∃ k : Nat, k ≤ Ls.length ∧ s28 = .int .i64 k ∧ s9 = .int .u64 (ov + loSum (Ls.take k)) ∧ w7.grownBy wk none) (fun _ s28 _ => Ls.length - (intOf s28).toNat)
  case atStart => exact ⟨0, Nat.zero_le _, rfl, by rw [h0s, Int.add_zero], grownBy_refl _ _⟩
  case round =>
    obtain ⟨k, hk, rfl, rfl, hg⟩ := hrel
    clear h0s
    by_cases hlt : k < Ls.length
    · obtain ⟨g, off, cap, hv, hgl, hc⟩ := (R7.same hg).at_ lnF_len hlt
      cases hv
      have c0 := hc 0 _ rfl
      have c1 := hc 1 _ rfl
      have c2 := hc 2 _ rfl
      rw [Nat.add_zero] at c0
      clear hc
      have hx := Hlo.out Ls[k] (List.getElem_mem hlt)
      have hps : 0 ≤ loSum (Ls.take k) := loSum_pos fun x hx => Hlo.out x (List.mem_of_mem_take hx)
      have hs1 : loSum (Ls.take (k + 1)) = loSum (Ls.take k) + Ls[k].lo := by rw [List.take_succ_eq_append_getElem hlt, loSum_snoc]
      have hs2 : loSum (Ls.take (k + 1)) ≤ loSum Ls := loSum_take_le Hlo.out _
      have hm := R7.2.1
      have hwr : IntKind.u64.wrap (ov + loSum (Ls.take k) + Ls[k].lo) = ov + loSum (Ls.take k) + Ls[k].lo := IntWalk.u64_in _ (by omega)
      have HS := Lib.hid (show ov + loSum (Ls.take (k + 1)) = ov + loSum (Ls.take k) + Ls[k].lo by omega)
      clear hx hps hs1 hs2
      generalize loSum (Ls.take k) = T at *
      generalize Ls[k] = x at *
      have G2 := grownBy_new_block hg (.cells #[.string x.key, .int .u64 x.lo, .int .u64 x.hi] 40)
      have A2 := (Blk.new wr #[.string x.key, .int .u64 x.lo, .int .u64 x.hi] 40).cell
      go_wp2_with fail
      exact ⟨⟨k + 1, by omega, by go_num, by rw [HS.out], G2⟩, by simp [intOf]; omega⟩
    · have hl : Ls.take k = Ls := List.take_of_length_le (by omega)
      rw [hl, hov.1]
      go_upto_region 9 with fail
      have A8 := A7.same (grownBy_trans hg (show World.grownBy wr wr.drew none from (by (repeat (first | exact grownBy_refl _ _ | assumption | refine grownBy_new_block ?_ _ | refine grownBy_drew ?_ | refine grownBy_drewN ?_ _ | refine grownBy_setNew ?_ (by first | (simp; done) | omega | (simp; omega)) _)))))
      have B6 := B7.same (grownBy_trans hg (show World.grownBy wr wr.drew none from (by (repeat (first | exact grownBy_refl _ _ | assumption | refine grownBy_new_block ?_ _ | refine grownBy_drew ?_ | refine grownBy_drewN ?_ _ | refine grownBy_setNew ?_ (by first | (simp; done) | omega | (simp; omega)) _)))))
      have R8 := R7.same (grownBy_trans hg (show World.grownBy wr wr.drew none from (by (repeat (first | exact grownBy_refl _ _ | assumption | refine grownBy_new_block ?_ _ | refine grownBy_drew ?_ | refine grownBy_drewN ?_ _ | refine grownBy_setNew ?_ (by first | (simp; done) | omega | (simp; omega)) _)))))
      have S8 := S7.same (grownBy_trans hg (show World.grownBy wr wr.drew none from (by (repeat (first | exact grownBy_refl _ _ | assumption | refine grownBy_new_block ?_ _ | refine grownBy_drew ?_ | refine grownBy_drewN ?_ _ | refine grownBy_setNew ?_ (by first | (simp; done) | omega | (simp; omega)) _)))))
      have K6 := grownBy_trans K7 (grownBy_trans hg (show World.grownBy wr wr.drew none from (by (repeat (first | exact grownBy_refl _ _ | assumption | refine grownBy_new_block ?_ _ | refine grownBy_drew ?_ | refine grownBy_drewN ?_ _ | refine grownBy_setNew ?_ (by first | (simp; done) | omega | (simp; omega)) _)))))
      have heq : ((Ls.length : Int) == min c.Top (K : Int)) = true := by rw [Hll.out]; simp
      (refine Rg.wp_region_rgZ 39 #[] (fun w w' => World.grownBy w w' none) (fun k _ w v w' => match k with | 1 => v = .int .i64 0 ∧ World.grownBy w w' none | 13 => v = .int .u64 tot ∧ World.grownBy w w' none | 20 => (∃ a cp, v = .slice a K cp) ∧ World.grownBy w w' none | 36 => v = .bool true ∧ World.grownBy w w' none | _ => False) (by kernel_rfl) (by kernel_rfl) (fun w => grownBy_refl w none) (fun _ _ _ h k => grownBy_trans h k) (fun _ _ _ _ _ h => h) ?_; simp only [List.take, List.drop])
      generalize wr.drew = w8 at *
      clear A7 B7 R7 S7 K7 hg
      (refine Rg.tree_op rfl rfl ?_; intro x0 mx0 dx0)
      clear dx0
      have AX := A8.same mx0
      go_wp2_with (refine load_rep rfl _ rfl _ rfl AX ?_)
      refine ⟨grownBy_refl _ _, ?_⟩
      clear AX
      (refine Rg.tree_call rfl rfl rfl ?_; intro x1 mx1 dx1; refine ⟨?_, ?_⟩; · (unfold Rg.callSpec; go_simp; (refine (Hc2.out x1 _ _ (R8.same mx1) (S8.same mx1) hc1 hc2).mono ?_; rintro e w' ⟨rfl, g⟩; exact ⟨_, rfl, rfl, g⟩)))
      clear dx1
      rintro v1 y1 ⟨rfl, g1⟩
      refine ⟨g1, ?_⟩
      simp only [Act.put, List.setIfInBounds_toArray, List.set_cons_zero, List.set_cons_succ]
      (refine Rg.tree_quiet 4 rfl (by first | exact Or.inl rfl | exact Or.inr rfl) ?_; simp only [List.take, List.drop, List.length_cons, List.length_nil, List.replicate, Nat.reduceAdd]; (try simp only [List.cons_append]); (try simp only [List.nil_append]); (repeat (go_big_quiet_step (fail))); refine wpQuiet_nil ?_)
      (refine Rg.tree_op rfl rfl ?_; intro x6 mx6 dx6)
      clear dx6
      have ax := (A8.same mx6).cell
      go_wp2_with fail
      refine ⟨grownBy_refl _ _, ?_⟩
      clear ax
      (refine Rg.tree_quiet 4 rfl (by first | exact Or.inl rfl | exact Or.inr rfl) ?_; simp only [List.take, List.drop, List.length_cons, List.length_nil, List.replicate, Nat.reduceAdd]; (try simp only [List.cons_append]); (try simp only [List.nil_append]); (repeat (go_big_quiet_step (fail))); refine wpQuiet_nil ?_)
      (refine Rg.tree_op rfl rfl ?_; intro x11 mx11 dx11)
      clear dx11
      have ax := (A8.same mx11).cell
      go_wp2_with fail
      refine ⟨grownBy_refl _ _, ?_⟩
      clear ax
      (refine Rg.tree_quiet 1 rfl (by first | exact Or.inl rfl | exact Or.inr rfl) ?_; simp only [List.take, List.drop, List.length_cons, List.length_nil, List.replicate, Nat.reduceAdd]; (try simp only [List.cons_append]); (try simp only [List.nil_append]); (repeat (go_big_quiet_step (fail))); refine wpQuiet_nil ?_)
      (refine Rg.tree_callG rfl rfl rfl ?_; intro x13 mx13 dx13; refine ⟨?_, ?_⟩; · (unfold Rg.callSpec; go_simp; (refine (Hc3.out x13 (grownBy_trans K6 mx13)).mono ?_; rintro e w' ⟨rfl, g⟩; exact ⟨_, rfl, rfl, g⟩)))
      clear dx13
      rintro v y ⟨rfl, g⟩
      refine ⟨g, ?_⟩
      clear g
      simp only [Act.put, List.setIfInBounds_toArray, List.set_cons_zero, List.set_cons_succ]
      (refine Rg.tree_quiet 4 rfl (by first | exact Or.inl rfl | exact Or.inr rfl) ?_; simp only [List.take, List.drop, List.length_cons, List.length_nil, List.replicate, Nat.reduceAdd]; (try simp only [List.cons_append]); (try simp only [List.nil_append]); (repeat (go_big_quiet_step (fail))); refine wpQuiet_nil ?_)
      (refine Rg.tree_op rfl rfl ?_; intro x18 mx18 dx18)
      clear dx18
      have ax := (A8.same mx18).cell
      go_wp2_with fail
      refine ⟨grownBy_refl _ _, ?_⟩
      clear ax
      (refine Rg.tree_quiet 1 rfl (by first | exact Or.inl rfl | exact Or.inr rfl) ?_; simp only [List.take, List.drop, List.length_cons, List.length_nil, List.replicate, Nat.reduceAdd]; (try simp only [List.cons_append]); (try simp only [List.nil_append]); (repeat (go_big_quiet_step (fail))); refine wpQuiet_nil ?_)
      (refine Rg.tree_callG rfl rfl rfl ?_; intro x20 mx20 dx20; refine ⟨?_, ?_⟩; · (unfold Rg.callSpec; go_simp; (refine (Hc4.out x20 (grownBy_trans K6 mx20)).mono ?_; rintro e w' ⟨⟨a, cp, rfl⟩, g⟩; exact ⟨_, rfl, ⟨a, cp, rfl⟩, g⟩)))
      clear dx20
      rintro v y ⟨⟨ka, kc, rfl⟩, g⟩
      refine ⟨g, ?_⟩
      clear g
      simp only [Act.put, List.setIfInBounds_toArray, List.set_cons_zero, List.set_cons_succ]
      (refine Rg.tree_quiet 5 rfl (by first | exact Or.inl rfl | exact Or.inr rfl) ?_; simp only [List.take, List.drop, List.length_cons, List.length_nil, List.replicate, Nat.reduceAdd]; (try simp only [List.cons_append]); (try simp only [List.nil_append]); (repeat (go_big_quiet_step (fail))); refine wpQuiet_nil ?_)
      (refine Rg.tree_op rfl rfl ?_; intro x26 mx26 dx26)
      clear dx26
      have ax := (A8.same mx26).cell
      go_wp2_with fail
      refine ⟨grownBy_refl _ _, ?_⟩
      clear ax
      (refine Rg.tree_quiet 2 rfl (by first | exact Or.inl rfl | exact Or.inr rfl) ?_; simp only [List.take, List.drop, List.length_cons, List.length_nil, List.replicate, Nat.reduceAdd]; (try simp only [List.cons_append]); (try simp only [List.nil_append]); (repeat (go_big_quiet_step (fail))); refine wpQuiet_nil ?_)
      (refine Rg.tree_op rfl rfl ?_; intro x29 mx29 dx29)
      clear dx29
      have ax := (B6.same mx29).cell
      go_wp2_with fail
      refine ⟨grownBy_refl _ _, ?_⟩
      clear ax
      (refine Rg.tree_quiet 1 rfl (by first | exact Or.inl rfl | exact Or.inr rfl) ?_; simp only [List.take, List.drop, List.length_cons, List.length_nil, List.replicate, Nat.reduceAdd]; (try simp only [List.cons_append]); (try simp only [List.nil_append]); (repeat (go_big_quiet_step (fail))); refine wpQuiet_nil ?_)
      (refine Rg.tree_op rfl rfl ?_; intro x31 mx31 dx31)
      clear dx31
      have ax := (A8.same mx31).cell
      go_wp2_with fail
      refine ⟨grownBy_refl _ _, ?_⟩
      clear ax
      (refine Rg.tree_quiet 4 rfl (by first | exact Or.inl rfl | exact Or.inr rfl) ?_; simp only [List.take, List.drop, List.length_cons, List.length_nil, List.replicate, Nat.reduceAdd]; (try simp only [List.cons_append]); (try simp only [List.nil_append]); (repeat (go_big_quiet_step (fail))); refine wpQuiet_nil ?_)
      (refine Rg.tree_callG rfl rfl rfl ?_; intro x36 mx36 dx36; refine ⟨?_, ?_⟩; · (unfold Rg.callSpec; go_simp; (refine (awake24_c x36).mono ?_; rintro e w' ⟨rfl, g⟩; exact ⟨_, rfl, rfl, g⟩)))
      clear dx36
      rintro v y ⟨rfl, g⟩
      refine ⟨g, ?_⟩
      clear g
      simp only [Act.put, List.setIfInBounds_toArray, List.set_cons_zero, List.set_cons_succ]
      (refine Rg.tree_quiet 2 rfl (by first | exact Or.inl rfl | exact Or.inr rfl) ?_; simp only [List.take, List.drop, List.length_cons, List.length_nil, List.replicate, Nat.reduceAdd]; (try simp only [List.cons_append]); (try simp only [List.nil_append]); (repeat (go_big_quiet_step (fail))); refine wpQuiet_nil ?_)
      (refine Rg.tree_nil ?_; intro wy mwy dwy cwy)
      have KK := grownBy_trans KW (grownBy_trans K6 mwy)
      clear dwy cwy A8 B6 R8 S8
      go_wp2_with fail
      go_ret
      exact retBool rfl KK
end Go.Proofs.YtiagjiaahnkefaaGreat

/- The walk of the law ReportRest. -/
namespace Go.Proofs.YtiagjiaahnkefaaGreat
open Go.RowKit Go.Sort
attribute [local go_sem ↓] exec_load_cfg
attribute [local go_sem] run_loadCfgS

def anyK (ls : List Ln) (k : ByteArray) : Bool := ls.any fun y => y.key.toList == k.toList
theorem anyK_succ {ls : List Ln} {m : Nat} (h : m < ls.length) (k : ByteArray) : anyK (ls.take (m + 1)) k = (anyK (ls.take m) k || (ls[m].key.toList == k.toList)) := by
  unfold anyK
  rw [List.take_succ_eq_append_getElem h, List.any_append]
  simp
theorem anyK_no {ls : List Ln} {k : ByteArray} (h : anyK ls k = false) : ∀ x ∈ ls, x.key ≠ k := by
  intro x hx e
  unfold anyK at h
  rw [List.any_eq_false] at h
  exact h x hx (by rw [e]; simp)

set_option maxHeartbeats 1600000 in
set_option maxRecDepth 100000 in
theorem restr_w (sv pv : Value) (xs P : List Int) (n : Nat) (key : ByteArray) (w : World) (hsv : Rd w 1 sv n (xs.map (fun x => Value.int .i64 x))) (hpv : RdL intF 1 w pv P) :
    Calls Tryz.prog 5 #[sv, pv, .string key] w (RetBool true w) := by
  obtain ⟨Z, hmk, hz1, hz2, hz3⟩ := zeros7
  have Hmk := Lib.hid hmk
  have HZ := Lib.hid (And.intro hz1 (And.intro hz2 hz3))
  clear hmk hz1 hz2 hz3
  have HS := Lib.hid hsv
  have HP := Lib.hid hpv
  obtain ⟨sa, sc, rfl⟩ := hsv.shape
  obtain ⟨pa, pc, rfl⟩ := hpv.shape
  clear hsv hpv
  by_cases hk : 300 < key.size
  · go_enter Tryz.func5, Tryz.ntmps5
    go_wp2_with (go_at_call 6; refine (awake24_c _).mono ?_; rintro e w6 ⟨rfl, G6⟩)
    go_ret
    exact retBool rfl G6
  have hk2 : (key.size : Int) ≤ 300 := by omega
  go_enter Tryz.func5, Tryz.ntmps5
  go_upto_region 4 with (first | (go_at_call 7; refine (few24_c _ xs _ _ HS.out).mono ?_; rintro e w1 ⟨c, lc, t, lv, l, win0, rej0, vl0, vr0, rfl, F1, P1, P2, P3, P4, P5, P6, P7, P8, G1⟩; (obtain ⟨la, lcp, rfl⟩ := F1.sums.rd.shape); (obtain ⟨a0, k0, rfl⟩ := P1.shape); (obtain ⟨b0, j0, rfl⟩ := P2.shape); have oc1 := F1.mem.one1; have oc2 := F1.mem.one2) | (refine alloc_cfg rfl rfl ?_; intro w2 B2 G2 z2) | (refine alloc_rep rfl rfl ?_; intro w3 A3 G3 z3; have B3 := B2.same G3) | (refine store_cfg rfl _ _ rfl _ rfl c rfl oc1 oc2 Cfg.zero (by assumption) ?_; intro w4 B4 G4; have A4 := A3.kept G4 (by simp; omega)) | (refine store_rep rfl _ _ rfl _ rfl rfl rfl rfl _ rfl (by assumption) ?_; intro w5 A5 G5; have B5 := B4.kept G5 (by simp; omega); have K5 := grownBy_new (grownBy_new (grownBy_trans G2 G3) G4 (Nat.le_refl _)) G5 (Nat.le_of_lt z2)))
  simp only [Act.put, List.setIfInBounds_toArray, List.set_cons_zero, List.set_cons_succ]
  clear P1 P2 P3 P4 P5 P6 P7 P8
  have KW := grownBy_trans G1 K5
  have F5 := Lib.hid (F1.same K5)
  have PV := Lib.hid (RdL.same HP.out KW)
  clear A5 G5 A4 G4 A3 G3 z3 B4 B3 B2 G2 z2 F1 HS HP
  have Hc1 := Lib.hid (p := ∀ w' rv, World.grownBy w5 w' none → RdL wordF 1 w' rv Z → Calls Tryz.prog 9 #[c.val, .int .i64 7, .slice la l.length lcp, rv, .slice pa P.length pc] w' (fun e w2 => (∃ vl vr, e = .returned (repV 7 (totalF l) vl (bOver c t l) ((keysF l).length : Int) (bRest c t l) vr) ∧ RdL lnF 3 w2 vl (bLs c t l) ∧ RdL wordF 1 w2 vr Z ∧ CapOk vl ∧ CapOk vr ∧ From w'.heap.size vl ∧ From w'.heap.size vr) ∧ w'.grownBy w2 none)) (fun w' rv h hr => (build_c c lc t _ l _ P _ Z 7 w' (F5.out.same h) (RdL.same PV.out h) hr (by have := HZ.out.1; omega)).mono fun e w2 ⟨vl, vr, h1, h2, h3, h4, h5, h6, h7, h8⟩ => ⟨⟨vl, vr, h1, h2, h3, h4, h5, h6, h7⟩, h8⟩)
  have Hc4 := Lib.hid fun w' (h : World.grownBy w5 w' none) => mkeys_c _ l w' (F5.out.same h).sums (by have := keysL_few F5.out; omega)
  have Hc5 := Lib.hid (p := ∀ kk : ByteArray, kk.size ≤ 9223372036854775807 → ∀ w', World.grownBy w5 w' none → Calls Tryz.prog 14 #[c.val, .slice la l.length lcp, .string kk, .slice none 0 0] w' (RetVal (lineV kk (lineF c t l kk).1 (lineF c t l kk).2) w')) (fun kk hkk w' h => line_c c t _ l kk _ [] w' (F5.out.same h).rcfg (F5.out.same h).sums F5.out.ok (show RdL intF 1 w' (.slice none 0 0) [] from ⟨by simp [cellsOf], by simp, .inl ⟨rfl, none, 0, rfl⟩⟩) hkk)
  have Hlaw := Lib.hid (p := ∀ kk : ByteArray, (∀ x ∈ bLs c t l, x.key ≠ kk) → (lineF c t l kk).2 ≤ bRest c t l) (fun kk h => rest_law F5.out h)
  have Hkf := Lib.hid (keysF_few F5.out)
  have Hks := Lib.hid (p := ∀ b ∈ keysF l, b.length ≤ 9223372036854775807) (fun b hb => by
    obtain ⟨s, hs, e, he, rfl⟩ := mem_keysF hb
    have := key_few F5.out s hs e he
    simpa [entK] using this)
  clear F5 PV
  generalize bLs c t l = Ls at *
  generalize bOver c t l = ov at *
  generalize bRest c t l = rst at *
  generalize totalF l = tot at *
  generalize keysF l = KF at *
  have B6 := B5.same (w' := w5.drew) (by (repeat (first | exact grownBy_refl _ _ | assumption | refine grownBy_new_block ?_ _ | refine grownBy_drew ?_ | refine grownBy_drewN ?_ _ | refine grownBy_setNew ?_ (by first | (simp; done) | omega | (simp; omega)) _)))
  have K6 : World.grownBy w5 w5.drew none := (by (repeat (first | exact grownBy_refl _ _ | assumption | refine grownBy_new_block ?_ _ | refine grownBy_drew ?_ | refine grownBy_drewN ?_ _ | refine grownBy_setNew ?_ (by first | (simp; done) | omega | (simp; omega)) _)))
  (refine Rg.wp_region_rgZ 6 #[] (fun w w' => World.grownBy w w' none) (fun k _ w v w' => match k with | 4 => (∃ vl vr, v = repV 7 tot vl ov (KF.length : Int) rst vr ∧ RdL lnF 3 w' vl Ls ∧ RdL wordF 1 w' vr Z ∧ CapOk vl ∧ CapOk vr ∧ From w.heap.size vl ∧ From w.heap.size vr) ∧ World.grownBy w w' none | _ => False) (by kernel_rfl) (by kernel_rfl) (fun w => grownBy_refl w none) (fun _ _ _ h k => grownBy_trans h k) (fun _ _ _ _ _ h => h) ?_; simp only [List.take, List.drop])
  generalize w5.drew = w6 at *
  ((refine Rg.tree_op rfl rfl ?_; intro x0 mx0 dx0); clear dx0; have BX := B6.same mx0; go_wp2_with (refine load_cfg rfl _ rfl _ rfl c (by assumption) ?_); refine ⟨grownBy_refl _ _, ?_⟩; clear BX)
  (refine Rg.tree_quiet 1 rfl (by first | exact Or.inl rfl | exact Or.inr rfl) ?_; simp only [List.take, List.drop, List.length_cons, List.length_nil, List.replicate, Nat.reduceAdd]; (try simp only [List.cons_append]); (try simp only [List.nil_append]); (repeat (go_big_quiet_step (fail))); refine wpQuiet_nil ?_)
  (refine Rg.tree_op rfl rfl ?_; intro x2 mx2 dx2)
  clear dx2
  have hmk := Hmk.out
  go_wp2_with fail
  refine ⟨World.grownBy_alloc _ _ _, ?_⟩
  clear hmk
  have Z2 := Blk.new x2 (wordCells Z) 25
  generalize x2.alloc (.cells (wordCells Z) 25) = e2 at *
  generalize x2.heap.size = zb at *
  (refine Rg.tree_quiet 1 rfl (by first | exact Or.inl rfl | exact Or.inr rfl) ?_; simp only [List.take, List.drop, List.length_cons, List.length_nil, List.replicate, Nat.reduceAdd]; (try simp only [List.cons_append]); (try simp only [List.nil_append]); (repeat (go_big_quiet_step (fail))); refine wpQuiet_nil ?_)
  (refine Rg.tree_call rfl rfl rfl ?_; intro x4 mx4 dx4; refine ⟨?_, ?_⟩; · (unfold Rg.callSpec; go_simp; (refine (Hc1.out x4 _ (grownBy_trans K6 mx4) ((Z2.same (dx4.out 2 (by omega) (by kernel_rfl))).words7 HZ.out.1)).mono ?_; rintro e w' ⟨⟨vl, vr, rfl, h⟩, g⟩; exact ⟨_, rfl, ⟨vl, vr, rfl, h⟩, g⟩)))
  clear dx4
  rintro v4 y4 ⟨⟨vl, vr, rfl, R1, R2, hc1, hc2, hf1, hf2⟩, g4⟩
  refine ⟨g4, ?_⟩
  simp only [Act.put, List.setIfInBounds_toArray, List.set_cons_zero, List.set_cons_succ]
  (refine Rg.tree_op rfl rfl ?_; intro x5 mx5 dx5)
  clear dx5
  go_wp2_with (refine alloc_rep rfl rfl ?_; intro e5 A5 G5 z5)
  have hx5 : x5.heap.size < e5.heap.size := A5.lt
  obtain ⟨bs, hbs⟩ : ∃ bs, x5.heap.size = bs := ⟨_, rfl⟩
  have hzx4 : w5.heap.size ≤ x4.heap.size := (grownBy_trans K6 mx4).size
  intro wz mwz dwz0 cwz0
  have q1 : y4.grownBy x5 none ∨ e5.grownBy x4 none := cwz0 4 5 (by omega) (by omega) (by omega)
  have qy : y4.grownBy wz none := dwz0 4 (by omega)
  have Az := A5.same (dwz0 5 (by omega) : e5.grownBy wz none)
  have Bz := B6.same mwz
  have Kz := grownBy_trans K6 mwz
  have hbr5 : w5.heap.size ≤ x5.heap.size := (grownBy_trans K6 mx5).size
  obtain ⟨a1, k1, rfl⟩ := R1.shape
  obtain ⟨a2, k2, e2'⟩ := R2.shape
  rw [HZ.out.1] at e2'
  subst e2'
  clear dwz0 cwz0 mx0 mx2 mx4 g4 mx5 mwz A5 G5 z5 Z2 B6 K6
  have hy5 : y4.grownBy x5 none → y4.heap.size ≤ bs := fun h => hbs ▸ h.size
  rw [hbs] at Az hx5 hbr5 ⊢
  have Hbs := Lib.hid hbs
  clear hbs
  go_upto_region 5 with (refine store_rep rfl _ _ rfl _ rfl rfl rfl rfl _ rfl (by assumption) ?_; intro w7 A7 G7)
  simp only [Act.put, List.setIfInBounds_toArray, List.set_cons_zero, List.set_cons_succ]
  have R17 : RdL lnF 3 w7 (.slice a1 Ls.length k1) Ls ∧ RdL wordF 1 w7 (.slice a2 7 k2) Z := by
    rcases q1 with h | h
    · have h2 := h.size
      have h3 := grownBy_new qy G7 (hy5 h)
      exact ⟨RdL.same R1 h3, RdL.same R2 h3⟩
    · have h2 := h.size
      exact ⟨(RdL.same R1 qy).keptFrom hf1 G7 (by omega), (RdL.same R2 qy).keptFrom hf2 G7 (by omega)⟩
  obtain ⟨R7, S7⟩ := R17
  have K7 := grownBy_new Kz G7 hbr5
  have hb5 := B5.lt
  have B7 := Bz.kept G7 (by simp; omega)
  clear q1 qy Az Bz Kz R1 R2 hy5 Hbs G7 hf1 hf2 B5
  have Hcs := Lib.hid (show (#[Value.string key] : Array Value).toList = strB key.data.toList by simp [strB])
  have hb1 : (KF.length + 1) * 16 ≤ 140737488355328 := by have := Hkf.out; omega
  have hb2 : KF.length + 1 ≤ 9223372036854775807 := by have := Hkf.out; omega
  go_upto_region 6 with (first
    | (go_at_call 13; refine (Hc4.out _ K7).mono ?_; rintro e w8 ⟨v8, rfl, o8, g8⟩; have hsz8 := g8.size)
    | (at_builtin; refine app_one elt_str one_str strB_len o8 key.data.toList hb1 hb2 hsz8 Hcs.out rfl (.tmp 32) (.tmp 34) rfl rfl rfl ?_; intro v9 w9 o9 g9 l9; (obtain ⟨lk, hlk⟩ : ∃ lk, KF ++ [key.data.toList] = lk := ⟨_, rfl⟩); rw [hlk] at o9; (obtain ⟨ka, kc, rfl⟩ := o9.shape)))
  have K79 : w7.grownBy w9 none := grown_own g8 o8 (Nat.le_refl _) g9
  have Hlk := Lib.hid (p := ∀ b ∈ lk, b.length ≤ 9223372036854775807) (fun b hb => by
    rw [← hlk, List.mem_append, List.mem_singleton] at hb
    rcases hb with hb | rfl
    · exact Hks.out b hb
    · have : key.data.size ≤ 300 := by
        have h0 : key.size ≤ 300 := by omega
        exact h0
      rw [Array.length_toList]; omega)
  have R9 := o9.rd
  have hkm := R9.2.1
  have A9 := A7.same K79
  have B9 := B7.same K79
  have L9 := R7.same K79
  have K9 := grownBy_trans K7 K79
  have hlm := L9.2.1
  clear o8 o9 g8 g9 l9 hlk K79 A7 B7 R7 S7 K7 Hcs hb1 hb2 hsz8
  go_wp2_with fail
  go_loopw [37] (fun s37 wk => ∃ j : Nat, j ≤ lk.length ∧ s37 = .int .i64 j ∧ w9.grownBy wk none) (fun s37 _ => lk.length - (intOf s37).toNat)
  case atStart => exact ⟨0, Nat.zero_le _, rfl, grownBy_refl _ _⟩
  case round =>
    obtain ⟨j, hj, rfl, hg⟩ := hrel
    by_cases hjl : j < lk.length
    · obtain ⟨gk, ok, ck, hvk, hgk, ck0⟩ := (R9.same hg).one strB_one hjl
      cases hvk
      have hks : (⟨lk[j].toArray⟩ : ByteArray).size ≤ 9223372036854775807 := by
        have := Hlk.out _ (List.getElem_mem hjl)
        show lk[j].toArray.size ≤ _
        simpa using this
      generalize (⟨lk[j].toArray⟩ : ByteArray) = kk at *
      have a10 := (A9.same hg).cell
      go_upto_region 10 with fail
      clear a10 ck0 hgk
      have h0s : anyK (Ls.take 0) kk = false := rfl
      go_loopw [13, 44] (fun s13 s44 wk => ∃ m : Nat, m ≤ Ls.length ∧ s44 = .int .i64 m ∧ s13 = .bool (anyK (Ls.take m) kk) ∧ w9.grownBy wk none) (fun _ s44 _ => Ls.length - (intOf s44).toNat)
      case atStart => exact ⟨0, Nat.zero_le _, rfl, by rw [h0s], hg⟩
      case round =>
        obtain ⟨m, hm, rfl, rfl, hg2⟩ := hrel
        clear h0s hg
        by_cases hml : m < Ls.length
        · obtain ⟨gx, ox, cx, hv, hgx, hc⟩ := (L9.same hg2).at_ lnF_len hml
          cases hv
          have c0 := hc 0 _ rfl
          have c1 := hc 1 _ rfl
          have c2 := hc 2 _ rfl
          rw [Nat.add_zero] at c0
          clear hc
          have HS := Lib.hid (anyK_succ hml kk)
          generalize anyK (Ls.take m) kk = bt at *
          generalize Ls[m] = x at *
          have G2 := grownBy_new_block hg2 (.cells #[.string x.key, .int .u64 x.lo, .int .u64 x.hi] 40)
          have A2 := (Blk.new wr #[.string x.key, .int .u64 x.lo, .int .u64 x.hi] 40).cell
          cases bt
          · go_wp2_with fail
            exact ⟨⟨m + 1, by omega, by go_num, by rw [HS.out, Bool.false_or], G2⟩, by simp [intOf]; omega⟩
          · go_wp2_with fail
            exact ⟨⟨m + 1, by omega, by go_num, by rw [HS.out, Bool.true_or], G2⟩, by simp [intOf]; omega⟩
        · have hl : Ls.take m = Ls := List.take_of_length_le (by omega)
          rw [hl]
          have hno := anyK_no (ls := Ls) (k := kk)
          generalize anyK Ls kk = bt at *
          cases bt
          · have hle := Hlaw.out kk (hno rfl)
            have Hc6 := Lib.hid (Hc5.out kk hks)
            clear hno
            generalize (lineF c t l kk).1 = lo at *
            generalize (lineF c t l kk).2 = hi at *
            have hgt : decide (rst < hi) = false := decide_eq_false (by omega)
            go_upto_region 14 with fail
            have A11 := A9.same (grownBy_trans hg2 (show World.grownBy wr wr.drew none from (by (repeat (first | exact grownBy_refl _ _ | assumption | refine grownBy_new_block ?_ _ | refine grownBy_drew ?_ | refine grownBy_drewN ?_ _ | refine grownBy_setNew ?_ (by first | (simp; done) | omega | (simp; omega)) _)))))
            have B6 := B9.same (grownBy_trans hg2 (show World.grownBy wr wr.drew none from (by (repeat (first | exact grownBy_refl _ _ | assumption | refine grownBy_new_block ?_ _ | refine grownBy_drew ?_ | refine grownBy_drewN ?_ _ | refine grownBy_setNew ?_ (by first | (simp; done) | omega | (simp; omega)) _)))))
            have M6 := grownBy_trans hg2 (show World.grownBy wr wr.drew none from (by (repeat (first | exact grownBy_refl _ _ | assumption | refine grownBy_new_block ?_ _ | refine grownBy_drew ?_ | refine grownBy_drewN ?_ _ | refine grownBy_setNew ?_ (by first | (simp; done) | omega | (simp; omega)) _))))
            have K6 := grownBy_trans K9 M6
            (refine Rg.wp_region_rgZ 12 #[] (fun w w' => World.grownBy w w' none) (fun k _ w v w' => match k with | 6 => v = .agg #[.string kk, .int .u64 lo, .int .u64 hi] ∧ World.grownBy w w' none | _ => False) (by kernel_rfl) (by kernel_rfl) (fun w => grownBy_refl w none) (fun _ _ _ h k => grownBy_trans h k) (fun _ _ _ _ _ h => h) ?_; simp only [List.take, List.drop])
            generalize wr.drew = wq at *
            (refine Rg.tree_quiet 3 rfl (by first | exact Or.inl rfl | exact Or.inr rfl) ?_; simp only [List.take, List.drop, List.length_cons, List.length_nil, List.replicate, Nat.reduceAdd]; (try simp only [List.cons_append]); (try simp only [List.nil_append]); (repeat (go_big_quiet_step (fail))); refine wpQuiet_nil ?_)
            ((refine Rg.tree_op rfl rfl ?_; intro x3 mx3 dx3); clear dx3; have BX := B6.same mx3; go_wp2_with (refine load_cfg_if rfl _ rfl _ rfl c (by assumption) ?_); refine ⟨grownBy_refl _ _, ?_⟩; clear BX)
            (refine Rg.tree_quiet 2 rfl (by first | exact Or.inl rfl | exact Or.inr rfl) ?_; simp only [List.take, List.drop, List.length_cons, List.length_nil, List.replicate, Nat.reduceAdd]; (try simp only [List.cons_append]); (try simp only [List.nil_append]); (repeat (go_big_quiet_step (fail))); refine wpQuiet_nil ?_)
            (refine Rg.tree_callG rfl rfl rfl ?_; intro x6 mx6 dx6; refine ⟨?_, ?_⟩; · (unfold Rg.callSpec; go_simp; (refine (Hc6.out x6 (grownBy_trans K6 mx6)).mono ?_; rintro e w' ⟨rfl, g⟩; exact ⟨_, rfl, rfl, g⟩)))
            clear dx6
            rintro v y ⟨rfl, g⟩
            refine ⟨g, ?_⟩
            clear g
            simp only [Act.put, List.setIfInBounds_toArray, List.set_cons_zero, List.set_cons_succ]
            (refine Rg.tree_op rfl rfl ?_; intro x7 mx7 dx7)
            clear dx7
            go_wp2_with fail
            rename_i hK7
            refine hK7 _ _ ⟨rfl, grownBy_refl _ _, ?_⟩
            simp only [Act.put, List.setIfInBounds_toArray, List.set_cons_zero, List.set_cons_succ]
            (refine Rg.tree_quiet 1 rfl (by first | exact Or.inl rfl | exact Or.inr rfl) ?_; simp only [List.take, List.drop, List.length_cons, List.length_nil, List.replicate, Nat.reduceAdd]; (try simp only [List.cons_append]); (try simp only [List.nil_append]); (repeat (go_big_quiet_step (fail))); refine wpQuiet_nil ?_)
            (refine Rg.tree_op rfl rfl ?_; intro x9 mx9 dx9)
            clear dx9
            have ax := (A11.same mx9).cell
            go_wp2_with fail
            refine ⟨grownBy_refl _ _, ?_⟩
            clear ax
            (refine Rg.tree_quiet 2 rfl (by first | exact Or.inl rfl | exact Or.inr rfl) ?_; simp only [List.take, List.drop, List.length_cons, List.length_nil, List.replicate, Nat.reduceAdd]; (try simp only [List.cons_append]); (try simp only [List.nil_append]); (repeat (go_big_quiet_step (fail))); refine wpQuiet_nil ?_)
            (refine Rg.tree_nil ?_; intro wy mwy dwy cwy)
            have KK := grownBy_trans M6 mwy
            clear dwy cwy A11 B6
            go_wp2_with fail
            exact ⟨⟨j + 1, by omega, by go_num, KK⟩, by simp [intOf]; omega⟩
          · go_upto_region 14 with fail
            go_quiet (fail)
            go_wp2_with fail
            exact ⟨⟨j + 1, by omega, by go_num, grownBy_drewN hg2 _⟩, by simp [intOf]; omega⟩
    · go_wp2_with (go_at_call 6; refine (awake24_c _).mono ?_; rintro e w6 ⟨rfl, G6⟩)
      go_ret
      exact retBool rfl (grownBy_trans KW (grownBy_trans K9 (grownBy_trans hg G6)))
end Go.Proofs.YtiagjiaahnkefaaGreat

/- Arguments that come in: slices of ints and of words, read as lists. -/
namespace Go.Proofs.YtiagjiaahnkefaaGreat
open Go.RowKit

theorem IsRow.len_take {k : IntKind} {w : World} {a : Option Addr} {len cap : Nat} {zs : List Int} (h : IsRow k w a len cap zs) : (zs.take len).length = len := by
  rcases h with ⟨_, rfl, _, rfl⟩ | ⟨x, _, h1, _, h3, _⟩
  · rfl
  · rw [List.length_take]; omega
theorem IsRow.rdI {w : World} {a : Option Addr} {len cap : Nat} {zs : List Int} (h : IsRow .i64 w a len cap zs) : RdL intF 1 w (.slice a len cap) (zs.take len) := by
  have e := h.len_take
  have h2 := h.rd
  unfold RdL
  rw [e, show cellsOf intF (zs.take len) = _ from cells_int _]
  exact h2
theorem IsRow.rdW {w : World} {a : Option Addr} {len cap : Nat} {zs : List Int} (h : IsRow .u64 w a len cap zs) : RdL wordF 1 w (.slice a len cap) (zs.take len) := by
  have e := h.len_take
  have h2 := h.rd
  unfold RdL
  rw [e, show cellsOf wordF (zs.take len) = _ from cells_word _]
  exact h2
theorem IsRow.wf {k : IntKind} {w : World} {a : Option Addr} {len cap : Nat} {zs : List Int} (h : IsRow k w a len cap zs) : ∀ x ∈ zs.take len, (Lit.int k x).wf = true := by
  intro x hx
  rcases h with ⟨_, rfl, _, rfl⟩ | ⟨_, _, _, _, _, _, h5⟩
  · simp at hx
  · exact h5 x (List.mem_of_mem_take hx)
end Go.Proofs.YtiagjiaahnkefaaGreat
