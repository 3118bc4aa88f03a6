/- The walk of the law MergePicks. -/
import Derived.Test.YtiagjiaahnkefaaAll
import Derived.Test.YtiagjiaahnkefaaRestP
import Derived.Test.YtiagjiaahnkefaaLaw22
import Derived.Test.YtiagjiaahnkefaaArgs
import Derived.Test.YtiagjiaahnkefaaLawO
import Derived.Laws.StructEq
namespace Go.Proofs.Ytiagjiaahnkefaa
open Go.RowKit
attribute [local go_sem ↓] exec_load_cfg
attribute [local go_sem] run_loadCfgS

theorem fields_line : Try.prog.underlying 71 = some (.struct (Try.prog.fieldsOf 71)) := by kernel_rfl
theorem held_line : Try.prog.stoodInHeld 71 = false := by kernel_rfl
theorem guard_line : Try.prog.eqGuardType Try.prog.depth 71 = false := by kernel_rfl
theorem same_line (x : Ln) (w : World) : (Op.equalIn 10000 71 (.agg #[.string x.key, .int .u64 x.lo, .int .u64 x.hi]) (.agg #[.string x.key, .int .u64 x.lo, .int .u64 x.hi])).run Try.prog w = .ok true w := by
  rw [run_equalIn_agg w 9999 _ _ _ fields_line held_line]
  have hf : ∃ a b c : Field, (Try.prog.fieldsOf 71).toList = [a, b, c] ∧ a.type = 9 ∧ b.type = 22 ∧ c.type = 22 ∧ a.offset = 0 ∧ b.offset = 1 ∧ c.offset = 2 ∧ (a.name == "_") = false ∧ (b.name == "_") = false ∧ (c.name == "_") = false := ⟨(Try.prog.fieldsOf 71).toList.getD 0 default, (Try.prog.fieldsOf 71).toList.getD 1 default, (Try.prog.fieldsOf 71).toList.getD 2 default, by kernel_rfl, by kernel_rfl, by kernel_rfl, by kernel_rfl, by kernel_rfl, by kernel_rfl, by kernel_rfl, by kernel_rfl, by kernel_rfl, by kernel_rfl⟩
  obtain ⟨a, b, c, h, h1, h2, h3, h4, h5, h6, h7, h8, h9⟩ := hf
  rw [h]
  have h7' := beq_eq_false_iff_ne.1 h7
  have h8' := beq_eq_false_iff_ne.1 h8
  have h9' := beq_eq_false_iff_ne.1 h9
  simp [go_sem, h1, h2, h3, h4, h5, h6, h7', h8', h9']

set_option maxHeartbeats 400000 in
theorem sameLines_c (v v' : Value) (L : List Ln) (w : World) (h : RdL lnF 3 w v L) (h' : RdL lnF 3 w v' L) : Calls Try.prog 44 #[v, v'] w (RetBool true w) := by
  obtain ⟨a, c, rfl⟩ := h.shape
  obtain ⟨a', c', rfl⟩ := h'.shape
  have hm := h.2.1
  have H := Lib.hid h
  have H' := Lib.hid h'
  clear h h'
  go_enter Try.func44, Try.ntmps44
  go_wp2_with fail
  go_loopw [13] (fun s13 wr => ∃ k : Nat, k ≤ L.length ∧ s13 = .int .i64 k ∧ w.grownBy wr none) (fun s13 _ => L.length - (intOf s13).toNat)
  case atStart => exact ⟨0, Nat.zero_le _, rfl, grownBy_refl _ _⟩
  case round =>
    obtain ⟨k, hk, rfl, hg⟩ := hrel
    by_cases hlt : k < L.length
    · obtain ⟨g, off, cap, hv, hgl, hc⟩ := (RdL.same H.out hg).at_ lnF_len hlt
      obtain ⟨g', off', cap', hv', hgl', hc'⟩ := (RdL.same H'.out hg).at_ lnF_len hlt
      cases hv
      cases hv'
      have c0 := hc 0 _ rfl
      have c1 := hc 1 _ rfl
      have c2 := hc 2 _ rfl
      have d0 := hc' 0 _ rfl
      have d1 := hc' 1 _ rfl
      have d2 := hc' 2 _ rfl
      clear hc hc'
      rw [Nat.add_zero] at c0 d0
      generalize L[k] = x at *
      have hk0 : (0 : Int) ≤ (k : Int) := by omega
      have hk1 : (k : Int) < (L.length : Int) := by omega
      have s1 := guard_line
      have s2 := fun w => same_line x w
      go_wp2_with fail
      go_quiet (fail)
      go_wp2_with fail
      exact ⟨⟨k + 1, by omega, by go_num, grownBy_drewN hg _⟩, by simp [intOf]; omega⟩
    · go_wp2_with fail
      go_ret
      exact retBool rfl hg

set_option maxHeartbeats 600000 in
set_option maxRecDepth 100000 in
theorem picks_w (sv pv qv : Value) (xs P Q : List Int) (n : Nat) (w : World) (hsv : Rd w 1 sv n (xs.map (fun x => Value.int .i64 x))) (hpv : RdL intF 1 w pv P) (hqv : RdL intF 1 w qv Q) :
    Calls Try.prog 11 #[sv, pv, qv] w (RetBool true w) := by
  have HS := Lib.hid hsv
  have HP := Lib.hid hpv
  have HQ := Lib.hid hqv
  obtain ⟨sa, sc, rfl⟩ := hsv.shape
  obtain ⟨pa, pc, rfl⟩ := hpv.shape
  obtain ⟨qa, qc, rfl⟩ := hqv.shape
  clear hsv hpv hqv
  go_enter Try.func11, Try.ntmps11
  go_upto_region 4 with (first | (go_at_call 28; refine (new_c _ _ _ _ HS.out).mono ?_; rintro e w1 ⟨rfl, D1, G1⟩) | (go_at_call 29; refine (config2_c _ _ D1 (Nat.le_refl _)).mono ?_; rintro e w2 ⟨c, lc, t, rfl, N2, M2, D2, G2, T2, C2⟩; have z12 := G2.size; replace G2 := grownBy_new G1 G2 (Nat.le_refl _); have oc1 := M2.one1; have oc2 := M2.one2) | (refine alloc_cfg rfl rfl ?_; intro w3 B3 G3 z3) | (refine store_cfg rfl _ _ rfl _ rfl c rfl oc1 oc2 Cfg.zero (by assumption) ?_; intro w4 B4 G4; have D4 := D2.kept (grownBy_new G3 G4 (Nat.le_refl _)) (by simp); have M4 := M2.same (grownBy_new G3 G4 (Nat.le_refl _)); have z14 := Nat.le_trans z12 (grownBy_new G3 G4 (Nat.le_refl _)).size; replace G4 := grownBy_new (grownBy_trans G2 G3) G4 G2.size) | (refine load_cfg rfl _ rfl _ rfl c (by assumption) ?_) | (go_at_call 30; refine (dsums_c _ c _ D4 z14 ⟨N2.shards.1, by have := N2.shards.2; omega⟩ ⟨by have := N2.depth.1; omega, by have := N2.depth.2; omega⟩ ⟨by have := N2.width.1; omega, by have := N2.width.2; omega⟩).mono ?_; rintro e w5 ⟨lv, l, rfl, S5, hl5, D5, G5⟩; have F5 : Few c lc t lv l w5 := ⟨N2, M4.off G5 (fun k e => by cases e; exact D1.below) T2 C2, S5.rd, fun s hs => (S5.all s hs).2.2.1, hl5⟩; have B5 := B4.kept G5 (by have := D1.below; simp; omega); have K5 := grownBy_new G4 G5 (Nat.le_refl _)))
  obtain ⟨la, lcp, rfl⟩ := F5.sums.rd.shape
  have HF := Lib.hid F5
  have P5 := Lib.hid (RdL.same HP.out K5)
  have Q5 := Lib.hid (RdL.same HQ.out K5)
  clear S5 hl5 D5 G5 F5 B4 D4 M4 z14 G4 oc1 oc2 B3 G3 z3 M2 D2 T2 C2 z12 G2 D1 G1 N2 HS HP HQ
  generalize w2.heap.size = cb at *
  have Hc1 := Lib.hid fun w' (h : World.grownBy w5 w' none) => mall_c c t _ l _ P w' (HF.out.same h).rcfg (HF.out.same h).sums (HF.out.same h).ok (by have := keysL_few HF.out; omega) (key_few HF.out) (RdL.same P5.out h)
  have Hc2 := Lib.hid fun w' (h : World.grownBy w5 w' none) => mall_c c t _ l _ Q w' (HF.out.same h).rcfg (HF.out.same h).sums (HF.out.same h).ok (by have := keysL_few HF.out; omega) (key_few HF.out) (RdL.same Q5.out h)
  clear HF P5 Q5
  generalize allF c t l = AL at *
  have B6 := B5.same (w' := w5.drew) (by (repeat (first | exact grownBy_refl _ _ | assumption | refine grownBy_new_block ?_ _ | refine grownBy_drew ?_ | refine grownBy_drewN ?_ _ | refine grownBy_setNew ?_ (by first | (simp; done) | omega | (simp; omega)) _)))
  have K6 : World.grownBy w5 w5.drew none := (by (repeat (first | exact grownBy_refl _ _ | assumption | refine grownBy_new_block ?_ _ | refine grownBy_drew ?_ | refine grownBy_drewN ?_ _ | refine grownBy_setNew ?_ (by first | (simp; done) | omega | (simp; omega)) _)))
  (refine Rg.wp_region_rgZ 12 #[] (fun w w' => World.grownBy w w' none) (fun k _ w v w' => match k with | 3 => RdL lnF 3 w' v AL ∧ World.grownBy w w' none | 7 => RdL lnF 3 w' v AL ∧ World.grownBy w w' none | 8 => v = .bool true ∧ World.grownBy w w' none | 10 => v = .bool true ∧ World.grownBy w w' none | _ => False) (by kernel_rfl) (by kernel_rfl) (fun w => grownBy_refl w none) (fun _ _ _ h k => grownBy_trans h k) (fun _ _ _ _ _ h => h) ?_; simp only [List.take, List.drop])
  generalize w5.drew = w6 at *
  (refine Rg.tree_op rfl rfl ?_; intro x0 mx0 dx0)
  clear dx0
  have BX := B6.same mx0
  go_wp2_with (refine load_cfg rfl _ rfl _ rfl c (by assumption) ?_)
  refine ⟨grownBy_refl _ _, ?_⟩
  clear BX
  (refine Rg.tree_quiet 2 rfl (by first | exact Or.inl rfl | exact Or.inr rfl) ?_; simp only [List.take, List.drop, List.length_cons, List.length_nil, List.replicate, Nat.reduceAdd]; (try simp only [List.cons_append]); (try simp only [List.nil_append]); (repeat (go_big_quiet_step (fail))); refine wpQuiet_nil ?_)
  (refine Rg.tree_call rfl rfl rfl ?_; intro x3 mx3 dx3; refine ⟨?_, ?_⟩; · (unfold Rg.callSpec; go_simp; (refine (Hc1.out x3 (grownBy_trans K6 mx3)).mono ?_; rintro e w' ⟨v, rfl, o, g⟩; exact ⟨v, rfl, o.rd, g⟩)))
  clear dx3
  rintro v3 y3 ⟨R3, g3⟩
  refine ⟨g3, ?_⟩
  simp only [Act.put, List.setIfInBounds_toArray, List.set_cons_zero, List.set_cons_succ]
  (refine Rg.tree_op rfl rfl ?_; intro x4 mx4 dx4)
  clear dx4
  have BX := B6.same mx4
  go_wp2_with (refine load_cfg rfl _ rfl _ rfl c (by assumption) ?_)
  refine ⟨grownBy_refl _ _, ?_⟩
  clear BX
  (refine Rg.tree_quiet 2 rfl (by first | exact Or.inl rfl | exact Or.inr rfl) ?_; simp only [List.take, List.drop, List.length_cons, List.length_nil, List.replicate, Nat.reduceAdd]; (try simp only [List.cons_append]); (try simp only [List.nil_append]); (repeat (go_big_quiet_step (fail))); refine wpQuiet_nil ?_)
  (refine Rg.tree_call rfl rfl rfl ?_; intro x7 mx7 dx7; refine ⟨?_, ?_⟩; · (unfold Rg.callSpec; go_simp; (refine (Hc2.out x7 (grownBy_trans K6 mx7)).mono ?_; rintro e w' ⟨v, rfl, o, g⟩; exact ⟨v, rfl, o.rd, g⟩)))
  clear dx7
  rintro v7 y7 ⟨R7, g7⟩
  refine ⟨g7, ?_⟩
  simp only [Act.put, List.setIfInBounds_toArray, List.set_cons_zero, List.set_cons_succ]
  (refine Rg.tree_call rfl rfl rfl ?_; intro x8 mx8 dx8; refine ⟨?_, ?_⟩; · (unfold Rg.callSpec; go_simp; (refine (sameLines_c v3 v7 AL x8 (RdL.same R3 (dx8.out 3 (by omega) (by kernel_rfl))) (RdL.same R7 (dx8.out 7 (by omega) (by kernel_rfl)))).mono ?_; rintro e w' ⟨rfl, g⟩; exact ⟨_, rfl, rfl, g⟩)))
  clear dx8
  rintro v8 y8 ⟨rfl, g8⟩
  refine ⟨g8, ?_⟩
  simp only [Act.put, List.setIfInBounds_toArray, List.set_cons_zero, List.set_cons_succ]
  (refine Rg.tree_quiet 1 rfl (by first | exact Or.inl rfl | exact Or.inr rfl) ?_; simp only [List.take, List.drop, List.length_cons, List.length_nil, List.replicate, Nat.reduceAdd]; (try simp only [List.cons_append]); (try simp only [List.nil_append]); (repeat (go_big_quiet_step (fail))); refine wpQuiet_nil ?_)
  (refine Rg.tree_callG rfl rfl rfl ?_; intro x10 mx10 dx10; refine ⟨?_, ?_⟩; · (unfold Rg.callSpec; go_simp; (refine (awake_c x10).mono ?_; rintro e w' ⟨rfl, g⟩; exact ⟨_, rfl, rfl, g⟩)))
  clear dx10
  rintro v10 y10 ⟨rfl, g10⟩
  refine ⟨g10, ?_⟩
  simp only [Act.put, List.setIfInBounds_toArray, List.set_cons_zero, List.set_cons_succ]
  (refine Rg.tree_quiet 1 rfl (by first | exact Or.inl rfl | exact Or.inr rfl) ?_; simp only [List.take, List.drop, List.length_cons, List.length_nil, List.replicate, Nat.reduceAdd]; (try simp only [List.cons_append]); (try simp only [List.nil_append]); (repeat (go_big_quiet_step (fail))); refine wpQuiet_nil ?_)
  (refine Rg.tree_nil ?_; intro x11 mx11 dx11 cx11)
  have K11 := grownBy_trans K5 (grownBy_trans K6 mx11)
  clear dx11 cx11 B6 B5 Hc1 Hc2
  go_wp2_with fail
  go_ret
  exact retBool rfl K11
end Go.Proofs.Ytiagjiaahnkefaa
