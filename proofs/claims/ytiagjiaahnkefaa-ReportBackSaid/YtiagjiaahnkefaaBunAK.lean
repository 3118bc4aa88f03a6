/- Several texts in one file; each begins with a comment that says what is proved in it. -/
import Derived.Test.YtiagjiaahnkefaaBunAI
import Derived.Test.YtiagjiaahnkefaaBunAC
import Derived.Test.YtiagjiaahnkefaaBunAJ
import Derived.Test.YtiagjiaahnkefaaBunAA
import Derived.ProofKit
import Derived.ShutString
import Derived.ChangeOld
import Derived.Test.YtiagjiaahnkefaaBunAH
import Derived.Test.YtiagjiaahnkefaaBunAB

/- The report is built: the reference. -/
namespace Go.Proofs.Ytiagjiaahnkefaa
open Go.RowKit Go.Sort
attribute [local go_sem ↓] exec_load_cfg
attribute [local go_sem] run_loadCfgS

set_option maxHeartbeats 2000000 in
set_option maxRecDepth 100000 in
theorem rbuild_c (c : Cfg) (lc : List (Int × Int)) (t : List Int) (lv : Value) (l : List Summ) (rv : Value) (rej : List Int) (win : Int) (w : World) (hF : Few c lc t lv l w) (hr : RdL wordF 1 w rv rej) (hrl : rej.length ≤ 1000000) :
    Calls Try.prog 47 #[c.val, .int .i64 win, lv, rv] w (BuildPost c t l win rej w) := by
  have hHt := totalF_w hF
  have hlw := bLs_w hF
  have hk13 := keysF_few hF
  have hal := allF_len c t l
  have htop := hF.nums.top
  have HP := Lib.hid (p := ∀ (e : Ending) (w' : World), (∃ vl vr, e = .returned (repV win (totalF l) vl (bOver c t l) ((keysF l).length : Int) (bRest c t l) vr) ∧ RdL lnF 3 w' vl (bLs c t l) ∧ RdL wordF 1 w' vr rej ∧ CapOk vl ∧ CapOk vr ∧ From w.heap.size vl ∧ From w.heap.size vr ∧ w.grownBy w' none) → BuildPost c t l win rej w e w') (fun _ _ h => h)
  have Hc1 := Lib.hid fun w' (h : World.grownBy w w' none) => rall_c c t _ l w' (hF.same h).rcfg (hF.same h).sums (hF.same h).ok (by have := keysL_few hF; omega) (key_few hF)
  have Hc2 := Lib.hid (p := ∀ w' v, RdL lnF 3 w' v (allF c t l) → Calls Try.prog 91 #[v, .int .i64 c.Top] w' (fun e w2 => ∃ v1 v2, e = .returned (.tuple #[v1, v2]) ∧ RdL lnF 3 w2 v1 (bLs c t l) ∧ RdL lnF 3 w2 v2 (bOm c t l) ∧ CapOk v1 ∧ From w'.heap.size v1 ∧ From w'.heap.size v2 ∧ w'.grownBy w2 none)) (fun w' v h => rsel_c v _ c.Top w' h (by omega) (by omega) (by omega))
  have Hc3 := Lib.hid fun w' (h : World.grownBy w w' none) => rtotal_c lv l w' (hF.same h).sums
  have HLW := Lib.hid hlw
  have Hc5 := Lib.hid (p := ∀ w', ∃ q, Calls Try.prog 93 #[.int .u64 (totalF l), .int .u64 (satL (loSum (bLs c t l)))] w' (fun e w2 => e = .returned (.tuple #[.int .u64 (bOver c t l), .bool q]) ∧ w' = w2)) (fun w' => ⟨_, rsub_c _ _ w' hHt (satL_w (loSum_pos fun x hx => (hlw x hx).lo.1))⟩)
  have Hc6 := Lib.hid (p := ∀ w' , World.grownBy w w' none → Calls Try.prog 40 #[lv] w' (fun e w2 => ∃ a cp, e = .returned (.slice a (keysF l).length cp) ∧ w'.grownBy w2 none)) (fun w' h => (rkeys_c lv l w' (hF.same h).sums (by have := keysL_few hF; omega)).mono fun e w2 ⟨v, h1, h2, h3⟩ => by obtain ⟨a, cp, hv⟩ := h2.shape; exact ⟨a, cp, hv ▸ h1, h3⟩)
  have Hc7 := Lib.hid fun w' (h : World.grownBy w w' none) => rrest_c c t lv l w' (hF.same h).rcfg (hF.same h).sums (hF.same h).small
  have Hc8 := Lib.hid (p := ∀ w' v, RdL lnF 3 w' v (bOm c t l) → Calls Try.prog 92 #[v, .int .u64 (restF c l)] w' (RetWord (bRest c t l) w')) (fun w' v h => above_c v _ _ w' h)
  have HR := Lib.hid hr
  have hrb := hr.2.1
  have hb1 : rej.length * 8 ≤ 140737488355328 := by omega
  have hb2 : rej.length ≤ 9223372036854775807 := by omega
  obtain ⟨ra, rc, rfl⟩ := hr.shape
  obtain ⟨la, lcp, rfl⟩ := hF.sums.rd.shape
  clear hF hr hHt hlw hk13 hal htop hrl hrb
  generalize allF c t l = AL at *
  generalize bLs c t l = Ls at *
  generalize bOm c t l = Om at *
  generalize totalF l = tot at *
  generalize bOver c t l = ov at *
  generalize bRest c t l = rst at *
  generalize restF c l = rs0 at *
  generalize (keysF l).length = K at *
  go_enter Try.func47, Try.ntmps47
  go_upto_region 1 with (refine box_cfg rfl _ rfl c rfl ?_; intro w1 B1 G1 z1)
  have hb0 : w.heap.size < w1.heap.size := z1
  have hbb : w.heap.size ≤ w1.heap.size := Nat.le_of_lt z1
  have B2 := B1.same (World.grownBy_alloc w1 (.cells #[.int .i64 0, .int .u64 0, .slice none 0 0, .int .u64 0, .int .i64 0, .int .u64 0, .slice none 0 0] 26) none)
  have A2 := Blk.new w1 #[.int .i64 0, .int .u64 0, .slice none 0 0, .int .u64 0, .int .i64 0, .int .u64 0, .slice none 0 0] 26
  have G2 := grownBy_new_block G1 (.cells #[.int .i64 0, .int .u64 0, .slice none 0 0, .int .u64 0, .int .i64 0, .int .u64 0, .slice none 0 0] 26)
  generalize w1.alloc (.cells #[.int .i64 0, .int .u64 0, .slice none 0 0, .int .u64 0, .int .i64 0, .int .u64 0, .slice none 0 0] 26) = w2 at *
  generalize w1.heap.size = rb at *
  clear B1 G1 z1
  have B6 := B2.same (w' := w2.drew) (by (repeat (first | exact grownBy_refl _ _ | assumption | refine grownBy_new_block ?_ _ | refine grownBy_drew ?_ | refine grownBy_drewN ?_ _ | refine grownBy_setNew ?_ (by first | (simp; done) | omega | (simp; omega)) _)))
  have C6 := A2.same (w' := w2.drew) (by (repeat (first | exact grownBy_refl _ _ | assumption | refine grownBy_new_block ?_ _ | refine grownBy_drew ?_ | refine grownBy_drewN ?_ _ | refine grownBy_setNew ?_ (by first | (simp; done) | omega | (simp; omega)) _)))
  have K6 := grownBy_trans G2 (show World.grownBy w2 w2.drew none from (by (repeat (first | exact grownBy_refl _ _ | assumption | refine grownBy_new_block ?_ _ | refine grownBy_drew ?_ | refine grownBy_drewN ?_ _ | refine grownBy_setNew ?_ (by first | (simp; done) | omega | (simp; omega)) _))))
  have hbr6 : rb < w2.drew.heap.size := C6.lt
  (refine Rg.wp_region_rgZ 11 #[] (fun w w' => World.grownBy w w' none) (fun k _ w v w' => match k with | 2 => RdL lnF 3 w' v AL ∧ World.grownBy w w' none | 5 => (∃ v1 v2, v = .tuple #[v1, v2] ∧ RdL lnF 3 w' v1 Ls ∧ RdL lnF 3 w' v2 Om ∧ CapOk v1 ∧ From w.heap.size v1 ∧ From w.heap.size v2) ∧ World.grownBy w w' none | _ => False) (by kernel_rfl) (by kernel_rfl) (fun w => grownBy_refl w none) (fun _ _ _ h k => grownBy_trans h k) (fun _ _ _ _ _ h => h) ?_; simp only [List.take, List.drop])
  clear A2 B2 G2
  generalize w2.drew = w6 at *
  (refine Rg.tree_op rfl rfl ?_; intro x0 mx0 dx0)
  clear dx0
  have BX := B6.same mx0
  go_wp2_with (refine load_cfg rfl _ rfl _ rfl c (by assumption) ?_)
  refine ⟨grownBy_refl _ _, ?_⟩
  clear BX
  (refine Rg.tree_quiet 1 rfl (by first | exact Or.inl rfl | exact Or.inr rfl) ?_; simp only [List.take, List.drop, List.length_cons, List.length_nil, List.replicate, Nat.reduceAdd]; (try simp only [List.cons_append]); (try simp only [List.nil_append]); (repeat (go_big_quiet_step (fail))); refine wpQuiet_nil ?_)
  (refine Rg.tree_call rfl rfl rfl ?_; intro x3 mx3 dx3; refine ⟨?_, ?_⟩; · (unfold Rg.callSpec; go_simp; (refine (Hc1.out x3 (grownBy_trans K6 mx3)).mono ?_; rintro e w' ⟨v, rfl, o, g⟩; exact ⟨v, rfl, o.rd, g⟩)))
  clear dx3
  rintro v3 y3 ⟨R3, g3⟩
  refine ⟨g3, ?_⟩
  simp only [Act.put, List.setIfInBounds_toArray, List.set_cons_zero, List.set_cons_succ]
  (refine Rg.tree_quiet 1 rfl (by first | exact Or.inl rfl | exact Or.inr rfl) ?_; simp only [List.take, List.drop, List.length_cons, List.length_nil, List.replicate, Nat.reduceAdd]; (try simp only [List.cons_append]); (try simp only [List.nil_append]); (repeat (go_big_quiet_step (fail))); refine wpQuiet_nil ?_)
  (refine Rg.tree_op rfl rfl ?_; intro x5 mx5 dx5)
  clear dx5
  have bx := (B6.same mx5).cell
  go_wp2_with fail
  refine ⟨grownBy_refl _ _, ?_⟩
  clear bx
  (refine Rg.tree_call rfl rfl rfl ?_; intro x6 mx6 dx6; refine ⟨?_, ?_⟩; · (unfold Rg.callSpec; go_simp; (refine (Hc2.out x6 _ (RdL.same R3 (dx6.out 2 (by omega) (by kernel_rfl)))).mono ?_; rintro e w' ⟨v1, v2, rfl, h1, h2, h3, h4, h5, g⟩; exact ⟨_, rfl, ⟨v1, v2, rfl, h1, h2, h3, h4, h5⟩, g⟩)))
  clear dx6
  rintro v6 y6 ⟨⟨v1, v2, rfl, R1, R2, hc1, hf1, hf2⟩, g6⟩
  refine ⟨g6, ?_⟩
  simp only [Act.put, List.setIfInBounds_toArray, List.set_cons_zero, List.set_cons_succ]
  have hbx6 : rb < x6.heap.size := Nat.lt_of_lt_of_le hbr6 mx6.size
  (refine Rg.tree_quiet 5 rfl (by first | exact Or.inl rfl | exact Or.inr rfl) ?_; simp only [List.take, List.drop, List.length_cons, List.length_nil, List.replicate, Nat.reduceAdd]; (try simp only [List.cons_append]); (try simp only [List.nil_append]); (repeat (go_big_quiet_step (fail))); refine wpQuiet_nil ?_)
  (refine Rg.tree_nil ?_; intro x7 mx7 dx7 cx7)
  have RA7 := R1.same (dx7.out 5 (by omega))
  have RB7 := R2.same (dx7.out 5 (by omega))
  have C7 := C6.same mx7
  have B7 := B6.same mx7
  have K7 := grownBy_trans K6 mx7
  clear R1 R2 R3 g3 g6 mx0 mx3 mx5 mx6 mx7 dx7 cx7 C6 B6 K6 y3 y6
  obtain ⟨a1, k1, rfl⟩ := RA7.shape
  obtain ⟨a2, k2, rfl⟩ := RB7.shape
  have hx6 : w.heap.size ≤ x6.heap.size := by omega
  clear x0 x3 x5
  go_upto_region 2 with fail
  have hb7 : rb < x7.heap.size := C7.lt
  have B8 := B7.same (w' := x7.drew) (by (repeat (first | exact grownBy_refl _ _ | assumption | refine grownBy_new_block ?_ _ | refine grownBy_drew ?_ | refine grownBy_drewN ?_ _ | refine grownBy_setNew ?_ (by first | (simp; done) | omega | (simp; omega)) _)))
  have C8 := C7.same (w' := x7.drew) (by (repeat (first | exact grownBy_refl _ _ | assumption | refine grownBy_new_block ?_ _ | refine grownBy_drew ?_ | refine grownBy_drewN ?_ _ | refine grownBy_setNew ?_ (by first | (simp; done) | omega | (simp; omega)) _)))
  have RA8 := RA7.same (w' := x7.drew) (by (repeat (first | exact grownBy_refl _ _ | assumption | refine grownBy_new_block ?_ _ | refine grownBy_drew ?_ | refine grownBy_drewN ?_ _ | refine grownBy_setNew ?_ (by first | (simp; done) | omega | (simp; omega)) _)))
  have RB8 := RB7.same (w' := x7.drew) (by (repeat (first | exact grownBy_refl _ _ | assumption | refine grownBy_new_block ?_ _ | refine grownBy_drew ?_ | refine grownBy_drewN ?_ _ | refine grownBy_setNew ?_ (by first | (simp; done) | omega | (simp; omega)) _)))
  have K8 := grownBy_trans K7 (show World.grownBy x7 x7.drew none from (by (repeat (first | exact grownBy_refl _ _ | assumption | refine grownBy_new_block ?_ _ | refine grownBy_drew ?_ | refine grownBy_drewN ?_ _ | refine grownBy_setNew ?_ (by first | (simp; done) | omega | (simp; omega)) _))))
  have hb8 : rb < x7.drew.heap.size := hb7
  (refine Rg.wp_region_rgZ 17 #[] (fun w w' => World.grownBy w w' none) (fun k _ w v w' => match k with | 2 => v = .int .u64 tot ∧ World.grownBy w w' none | 5 => (∃ a cp, v = .slice a K cp) ∧ World.grownBy w w' none | 10 => v = .int .u64 rs0 ∧ World.grownBy w w' none | 11 => v = .int .u64 rst ∧ World.grownBy w w' none | _ => False) (by kernel_rfl) (by kernel_rfl) (fun w => grownBy_refl w none) (fun _ _ _ h k => grownBy_trans h k) (fun _ _ _ _ _ h => h) ?_; simp only [List.take, List.drop])
  clear B7 C7 RA7 RB7 K7 hb7
  generalize x7.drew = w8 at *
  (refine Rg.tree_quiet 2 rfl (by first | exact Or.inl rfl | exact Or.inr rfl) ?_; simp only [List.take, List.drop, List.length_cons, List.length_nil, List.replicate, Nat.reduceAdd]; (try simp only [List.cons_append]); (try simp only [List.nil_append]); (repeat (go_big_quiet_step (fail))); refine wpQuiet_nil ?_)
  (refine Rg.tree_call rfl rfl rfl ?_; intro y2 my2 dy2; refine ⟨?_, ?_⟩; · (unfold Rg.callSpec; go_simp; (refine (Hc3.out y2 (grownBy_trans K8 my2)).mono ?_; rintro e w' ⟨rfl, g⟩; exact ⟨_, rfl, rfl, g⟩)))
  clear dy2
  rintro v2 e2 ⟨rfl, g2⟩
  refine ⟨g2, ?_⟩
  simp only [Act.put, List.setIfInBounds_toArray, List.set_cons_zero, List.set_cons_succ]
  (refine Rg.tree_quiet 2 rfl (by first | exact Or.inl rfl | exact Or.inr rfl) ?_; simp only [List.take, List.drop, List.length_cons, List.length_nil, List.replicate, Nat.reduceAdd]; (try simp only [List.cons_append]); (try simp only [List.nil_append]); (repeat (go_big_quiet_step (fail))); refine wpQuiet_nil ?_)
  (refine Rg.tree_call rfl rfl rfl ?_; intro y5 my5 dy5; refine ⟨?_, ?_⟩; · (unfold Rg.callSpec; go_simp; (refine (Hc6.out y5 (grownBy_trans K8 my5)).mono ?_; rintro e w' ⟨a, cp, rfl, g⟩; exact ⟨_, rfl, ⟨a, cp, rfl⟩, g⟩)))
  clear dy5
  rintro v5 e5 ⟨⟨ka, kc, rfl⟩, g5⟩
  refine ⟨g5, ?_⟩
  simp only [Act.put, List.setIfInBounds_toArray, List.set_cons_zero, List.set_cons_succ]
  (refine Rg.tree_quiet 2 rfl (by first | exact Or.inl rfl | exact Or.inr rfl) ?_; simp only [List.take, List.drop, List.length_cons, List.length_nil, List.replicate, Nat.reduceAdd]; (try simp only [List.cons_append]); (try simp only [List.nil_append]); (repeat (go_big_quiet_step (fail))); refine wpQuiet_nil ?_)
  (refine Rg.tree_op rfl rfl ?_; intro y8 my8 dy8)
  clear dy8
  have BX := B8.same my8
  go_wp2_with (refine load_cfg rfl _ rfl _ rfl c (by assumption) ?_)
  refine ⟨grownBy_refl _ _, ?_⟩
  clear BX
  (refine Rg.tree_quiet 1 rfl (by first | exact Or.inl rfl | exact Or.inr rfl) ?_; simp only [List.take, List.drop, List.length_cons, List.length_nil, List.replicate, Nat.reduceAdd]; (try simp only [List.cons_append]); (try simp only [List.nil_append]); (repeat (go_big_quiet_step (fail))); refine wpQuiet_nil ?_)
  (refine Rg.tree_call rfl rfl rfl ?_; intro y10 my10 dy10; refine ⟨?_, ?_⟩; · (unfold Rg.callSpec; go_simp; (refine (Hc7.out y10 (grownBy_trans K8 my10)).mono ?_; rintro e w' ⟨rfl, g⟩; exact ⟨_, rfl, rfl, g⟩)))
  clear dy10
  rintro v10 e10 ⟨rfl, g10⟩
  refine ⟨g10, ?_⟩
  simp only [Act.put, List.setIfInBounds_toArray, List.set_cons_zero, List.set_cons_succ]
  (refine Rg.tree_call rfl rfl rfl ?_; intro y11 my11 dy11; refine ⟨?_, ?_⟩; · (unfold Rg.callSpec; go_simp; (refine (Hc8.out y11 _ (RB8.same my11)).mono ?_; rintro e w' ⟨rfl, g⟩; exact ⟨_, rfl, rfl, g⟩)))
  clear dy11
  rintro v11 e11 ⟨rfl, g11⟩
  refine ⟨g11, ?_⟩
  simp only [Act.put, List.setIfInBounds_toArray, List.set_cons_zero, List.set_cons_succ]
  (refine Rg.tree_op rfl rfl ?_; intro y12 my12 dy12)
  clear dy12
  have hz12 : w8.heap.size ≤ y12.heap.size := my12.size
  go_wp2_with fail
  refine ⟨World.grownBy_alloc _ _ _, ?_⟩
  have N12 := own_lit0 (e := 22) wordF 1 hz12
  have hs12 : (y12.alloc (.cells #[] 22)).heap.size = y12.heap.size + 1 := by simp
  generalize y12.alloc (.cells #[] 22) = e12 at *
  generalize hgy : y12.heap.size = g12 at *
  have Hgy := Lib.hid hgy
  clear hgy
  (refine Rg.tree_quiet 1 rfl (by first | exact Or.inl rfl | exact Or.inr rfl) ?_; simp only [List.take, List.drop, List.length_cons, List.length_nil, List.replicate, Nat.reduceAdd]; (try simp only [List.cons_append]); (try simp only [List.nil_append]); (repeat (go_big_quiet_step (fail))); refine wpQuiet_nil ?_)
  (refine Rg.tree_op rfl rfl ?_; intro y14 my14 dy14)
  have N14 := N12.same (dy14.out 12 (by omega) (by kernel_rfl))
  have R14 := RdL.same HR.out (grownBy_trans K8 my14)
  have z14 := my14.size
  clear dy14
  go_wp2_with (at_builtin; refine app_lit elt_word one_word N14 R14 rfl hb1 hb2 z14 (by rfl) _ _ (by rfl) (by rfl) (by rfl) ?_; intro v14 e14 o14 g14 l14; have Hg14 := Lib.hid g14; clear g14)
  refine ⟨Hg14.out, ?_⟩
  clear R14 N14 z14
  obtain ⟨a14, k14, rfl⟩ := o14.shape
  (refine Rg.tree_quiet 1 rfl (by first | exact Or.inl rfl | exact Or.inr rfl) ?_; simp only [List.take, List.drop, List.length_cons, List.length_nil, List.replicate, Nat.reduceAdd]; (try simp only [List.cons_append]); (try simp only [List.nil_append]); (repeat (go_big_quiet_step (fail))); refine wpQuiet_nil ?_)
  (refine Rg.tree_op rfl rfl ?_; intro y16 my16 dy16)
  clear dy16
  go_wp2_with fail
  refine ⟨World.grownBy_alloc _ _ _, ?_⟩
  have A16 := Blk.new y16 #[.int .i64 0, .int .u64 0, .slice none 0 0, .int .u64 0, .int .i64 0, .int .u64 0, .slice none 0 0] 26
  have hs16 : (y16.alloc (.cells #[.int .i64 0, .int .u64 0, .slice none 0 0, .int .u64 0, .int .i64 0, .int .u64 0, .slice none 0 0] 26)).heap.size = y16.heap.size + 1 := by simp
  have hz16 : w8.heap.size ≤ y16.heap.size := my16.size
  generalize y16.alloc (.cells #[.int .i64 0, .int .u64 0, .slice none 0 0, .int .u64 0, .int .i64 0, .int .u64 0, .slice none 0 0] 26) = e16 at *
  generalize hgy2 : y16.heap.size = br at *
  (refine Rg.tree_nil ?_; intro wz mwz dwz cwz)
  have q1 : e12.grownBy y16 none ∨ e16.grownBy y12 none := cwz.out 12 16 (by omega) (by omega) (by omega)
  have q2 : e14.grownBy y16 none ∨ e16.grownBy y14 none := cwz.out 14 16 (by omega) (by omega) (by omega)
  have hne : ∀ k, (Value.slice a14 rej.length k14).ownBlock = some k → k ≠ br := by
    intro k hk e
    subst e
    have hy := Hgy.out
    rcases q2 with h | h
    · have h1 := (o14.lt _ hk).2
      have h2 := h.size
      omega
    · have h1 := h.size
      rcases l14 with e | ⟨m, e, h2⟩
      · rw [hk] at e
        have e3 : k = g12 := by simpa [Value.ownBlock] using e
        rcases q1 with h | h
        · have := h.size; omega
        · have := h.size; omega
      · rw [hk] at e
        cases e
        omega
  have Az := A16.same (dwz.out 16 (by omega))
  have o9 := o14.same (dwz.out 14 (by omega))
  clear my2 g2 my5 g5 my8 my10 g10 my11 g11 my12 hs12 Hgy my14 Hg14 l14 my16 hs16 q1 q2 A16 o14 N12 hgy2 dwz cwz
  have a9 := Az.cell
  have f9 := Az.free
  go_upto_region 4 with fail
  clear a9 f9
  have hgr : World.grownBy wz (((((((wz.setCell ⟨br, 0, none⟩ (.int .i64 win)).setCell ⟨br, 1, none⟩ (.int .u64 tot)).setCell ⟨br, 2, none⟩ (.slice a1 Ls.length k1)).setCell ⟨br, 3, none⟩ (.int .u64 0)).setCell ⟨br, 4, none⟩ (.int .i64 K)).setCell ⟨br, 5, none⟩ (.int .u64 rst)).setCell ⟨br, 6, none⟩ (.slice a14 rej.length k14)) (some br) := grownBy_set (grownBy_set (grownBy_set (grownBy_set (grownBy_set (grownBy_set (grownBy_set (grownBy_refl _ _) _ _) _ _) _ _) _ _) _ _) _ _) _ _
  have hAr : Blk (((((((wz.setCell ⟨br, 0, none⟩ (.int .i64 win)).setCell ⟨br, 1, none⟩ (.int .u64 tot)).setCell ⟨br, 2, none⟩ (.slice a1 Ls.length k1)).setCell ⟨br, 3, none⟩ (.int .u64 0)).setCell ⟨br, 4, none⟩ (.int .i64 K)).setCell ⟨br, 5, none⟩ (.int .u64 rst)).setCell ⟨br, 6, none⟩ (.slice a14 rej.length k14)) br #[.int .i64 win, .int .u64 tot, .slice a1 Ls.length k1, .int .u64 0, .int .i64 K, .int .u64 rst, .slice a14 rej.length k14] := ((((((Az.set_ 0 _ rfl).set_ 1 _ rfl).set_ 2 _ rfl).set_ 3 _ rfl).set_ 4 _ rfl).set_ 5 _ rfl).set_ 6 _ rfl
  generalize ((((((wz.setCell ⟨br, 0, none⟩ (.int .i64 win)).setCell ⟨br, 1, none⟩ (.int .u64 tot)).setCell ⟨br, 2, none⟩ (.slice a1 Ls.length k1)).setCell ⟨br, 3, none⟩ (.int .u64 0)).setCell ⟨br, 4, none⟩ (.int .i64 K)).setCell ⟨br, 5, none⟩ (.int .u64 rst)).setCell ⟨br, 6, none⟩ (.slice a14 rej.length k14) = w10 at *
  have M10 := grownBy_new mwz hgr hz16
  have B10 := B8.same M10
  have C10 := C8.same M10
  have RA10 := RA8.same M10
  have K10 := grownBy_trans K8 M10
  have hwbr : w.heap.size ≤ br := by omega
  have o10 := o9.kept hgr (fun k hk e => hne k hk (by cases e; rfl))
  have hf9 := o10.from_
  have cp9 := o10.capOk
  have RC10 := o10.rd
  have A10 := hAr
  have hrbr : rb ≠ br := by omega
  have hbw : br < w10.heap.size := A10.lt
  have o10' := o10
  clear o9 o10 RC10 B8 RB8 mwz Az hAr hgr
  go_wp2_with fail
  have hlm := RA10.2.1
  go_loopw [12, 42] (fun s12 s42 wk => ∃ k : Nat, k ≤ Ls.length ∧ s42 = .int .i64 k ∧ s12 = .int .u64 (satL (loSum (Ls.take k))) ∧ w10.grownBy wk none) (fun _ s42 _ => Ls.length - (intOf s42).toNat)
  case atStart => exact ⟨0, Nat.zero_le _, rfl, rfl, grownBy_refl _ _⟩
  case round =>
    obtain ⟨k, hk, rfl, rfl, hg⟩ := hrel
    by_cases hlt : k < Ls.length
    · obtain ⟨g, off, cap, hv, hgl, hc⟩ := (RA10.same hg).at_ lnF_len hlt
      cases hv
      have c0 := hc 0 _ rfl
      have c1 := hc 1 _ rfl
      have c2 := hc 2 _ rfl
      rw [Nat.add_zero] at c0
      clear hc
      have hx := HLW.out Ls[k] (List.getElem_mem hlt)
      have hps : 0 ≤ loSum (Ls.take k) := loSum_pos fun x hx => (HLW.out x (List.mem_of_mem_take hx)).lo.1
      have w1' : W64 (satL (loSum (Ls.take k))) := satL_w hps
      have w2' : W64 Ls[k].lo := hx.lo
      have HS := Lib.hid (show satL (loSum (Ls.take (k + 1))) = satA (satL (loSum (Ls.take k))) Ls[k].lo by rw [List.take_succ_eq_append_getElem hlt, loSum_snoc, satL_add hps w2'.1])
      clear hx hps
      generalize satL (loSum (Ls.take k)) = T at *
      generalize Ls[k] = x at *
      have G2 := grownBy_new_block hg (.cells #[.string x.key, .int .u64 x.lo, .int .u64 x.hi] 71)
      have A2 := (Blk.new wr #[.string x.key, .int .u64 x.lo, .int .u64 x.hi] 71).cell
      go_wp2_with (go_at_call 84; refine (rsum_c T x.lo _ w1' w2').mono ?_; rintro e w' ⟨rfl, rfl⟩)
      exact ⟨⟨k + 1, by omega, by go_num, by rw [HS.out], G2⟩, by simp [intOf]; omega⟩
    · have hl : Ls.take k = Ls := List.take_of_length_le (by omega)
      rw [hl]
      have A11 := A10.same hg
      have M11 := grownBy_trans M10 hg
      have o11 := o10'.same hg
      clear A10 C10 RA10 K10 hg B10 M10 o10'
      have a11 := A11.cell
      have f11 := A11.free
      obtain ⟨qs, hqs⟩ := Hc5.out wr
      go_upto_region 10 with (go_at_call 93; refine hqs.mono ?_; rintro e w' ⟨rfl, rfl⟩)
      clear a11 f11 hqs
      have A12 : Blk (wr.setCell ⟨br, 3, none⟩ (.int .u64 ov)) br #[.int .i64 win, .int .u64 tot, .slice a1 Ls.length k1, .int .u64 ov, .int .i64 K, .int .u64 rst, .slice a14 rej.length k14] := A11.set_ 3 _ rfl
      have G12 := grownBy_set (grownBy_refl wr (some br)) 3 (.int .u64 ov)
      have M12 := grownBy_new M11 G12 hz16
      have RA12 := RA8.same M12
      have C12 := C8.same M12
      have K12 := grownBy_trans K8 M12
      have RC12 := (o11.kept G12 (fun k hk e => hne k hk (by cases e; rfl))).rd
      clear M11 G12 o11 A11 M12 RA8 C8 K8 hne
      generalize wr.setCell ⟨br, 3, none⟩ (.int .u64 ov) = w12 at *
      have a12 := A12.cell
      have f12 := C12.free
      have c12 := C12.cell
      go_wp2_with fail
      clear a12 f12 c12
      have hgc : World.grownBy w12 (((((((w12.setCell ⟨rb, 0, none⟩ (.int .i64 win)).setCell ⟨rb, 1, none⟩ (.int .u64 tot)).setCell ⟨rb, 2, none⟩ (.slice a1 Ls.length k1)).setCell ⟨rb, 3, none⟩ (.int .u64 ov)).setCell ⟨rb, 4, none⟩ (.int .i64 K)).setCell ⟨rb, 5, none⟩ (.int .u64 rst)).setCell ⟨rb, 6, none⟩ (.slice a14 rej.length k14)) (some rb) := grownBy_set (grownBy_set (grownBy_set (grownBy_set (grownBy_set (grownBy_set (grownBy_set (grownBy_refl _ _) _ _) _ _) _ _) _ _) _ _) _ _) _ _
      have hCr : Blk (((((((w12.setCell ⟨rb, 0, none⟩ (.int .i64 win)).setCell ⟨rb, 1, none⟩ (.int .u64 tot)).setCell ⟨rb, 2, none⟩ (.slice a1 Ls.length k1)).setCell ⟨rb, 3, none⟩ (.int .u64 ov)).setCell ⟨rb, 4, none⟩ (.int .i64 K)).setCell ⟨rb, 5, none⟩ (.int .u64 rst)).setCell ⟨rb, 6, none⟩ (.slice a14 rej.length k14)) rb #[.int .i64 win, .int .u64 tot, .slice a1 Ls.length k1, .int .u64 ov, .int .i64 K, .int .u64 rst, .slice a14 rej.length k14] := ((((((C12.set_ 0 _ rfl).set_ 1 _ rfl).set_ 2 _ rfl).set_ 3 _ rfl).set_ 4 _ rfl).set_ 5 _ rfl).set_ 6 _ rfl
      generalize ((((((w12.setCell ⟨rb, 0, none⟩ (.int .i64 win)).setCell ⟨rb, 1, none⟩ (.int .u64 tot)).setCell ⟨rb, 2, none⟩ (.slice a1 Ls.length k1)).setCell ⟨rb, 3, none⟩ (.int .u64 ov)).setCell ⟨rb, 4, none⟩ (.int .i64 K)).setCell ⟨rb, 5, none⟩ (.int .u64 rst)).setCell ⟨rb, 6, none⟩ (.slice a14 rej.length k14) = w13 at *
      have RA13 := RA12.keptFrom hf1 hgc hbx6
      have RC13 := RC12.keptFrom hf9 hgc hb8
      have K13 := grownBy_new K12 hgc hbb
      have rc13 := hCr.cell
      clear A12 C12 K12 RA12 RC12 hgc
      have hx8 : w.heap.size ≤ w8.heap.size := by omega
      refine bodyPost_ret (v := repV win tot (.slice a1 Ls.length k1) ov K rst (.slice a14 rej.length k14)) (by simp [results, Try.results47, go_sem, rc13]) rfl ?_
      exact HP.out _ _ ⟨_, _, rfl, RA13, RC13, hc1, cp9, hf1.le hx6, hf9.le hx8, K13⟩
end Go.Proofs.Ytiagjiaahnkefaa

/- Arguments that come in: slices of ints. -/
namespace Go.Proofs.Ytiagjiaahnkefaa
open Go.RowKit

theorem own : ownKnob Try.prog.godebug = none := by kernel_rfl
theorem laidOut : laidOutB Try.prog = true := by kernel_rfl

/-- A slice of integers that came in: it is nil; or it leads to a row of 'cap' cells, the numbers 'zs' (the first 'len' are its elements), each fitting its kind. -/
def IsRow (k : IntKind) (w : World) (a : Option Addr) (len cap : Nat) (zs : List Int) : Prop :=
  (a = none ∧ len = 0 ∧ cap = 0 ∧ zs = []) ∨
  ∃ x, a = some x ∧ len ≤ cap ∧ cap ≤ maxLen ∧ zs.length = cap ∧ (∀ i, i < zs.length → w.cell? (x.add i) = some (.int k (zs.getD i 0))) ∧ ∀ n ∈ zs, (Lit.int k n).wf = true

theorem IsRow.rd {k : IntKind} {w : World} {a : Option Addr} {len cap : Nat} {zs : List Int} (h : IsRow k w a len cap zs) : Rd w 1 (.slice a len cap) len ((zs.take len).map (fun x => Value.int k x)) := by
  rcases h with ⟨rfl, rfl, rfl, rfl⟩ | ⟨x, rfl, h1, h2, h3, h4, h5⟩
  · exact ⟨by simp, by omega, .inl ⟨rfl, _, _, rfl⟩⟩
  · have hm : len ≤ 9223372036854775807 := by unfold maxLen at h2; omega
    rcases Nat.eq_zero_or_pos len with rfl | h0
    · exact ⟨by simp, by omega, .inl ⟨rfl, _, _, rfl⟩⟩
    · obtain ⟨b, off, spot⟩ := x
      have hc := h4 0 (by omega)
      cases spot with
      | some s =>
        exfalso
        unfold Addr.add at hc
        simp [World.cell?] at hc
        split at hc <;> simp_all
      | none =>
        refine ⟨by simp; omega, hm, .inr ⟨b, off, cap, rfl, block_lt_of_cell hc, fun j u hu => ?_⟩⟩
        have hj : j < len := by
          have := (List.getElem?_eq_some_iff.1 hu).1
          simp at this; omega
        have := h4 j (by omega)
        have ha : (⟨b, off, none⟩ : Addr).add j = ⟨b, off + j, none⟩ := by unfold Addr.add; split <;> simp_all
        rw [ha] at this
        rw [this, ← hu]
        simp [hj, List.getElem?_eq_getElem (show j < zs.length by omega)]
end Go.Proofs.Ytiagjiaahnkefaa

/- The deck's configuration, summaries and report. -/
namespace Go.Proofs.Ytiagjiaahnkefaa
open Go.RowKit Go.Sort
attribute [local go_sem ↓] exec_load_cfg
attribute [local go_sem] run_loadCfgS

structure FewG (B lo : Nat) (c : Cfg) (lc : List (Int × Int)) (t : List Int) (lv : Value) (l : List Summ) (w : World) : Prop where
  nums : CfgNums c
  mem : CfgMem c lc t w
  tb : ∀ (a : Addr) (n m : Nat), c.Table = .slice (some a) n m → B ≤ a.block
  cl : ∀ (a : Addr) (n m : Nat), c.Classes = .slice (some a) n m → B ≤ a.block
  sums : SumsG lo c w lv l
  len : (l.length : Int) = c.Shards
  le : B ≤ lo
theorem FewG.few {B lo : Nat} {c : Cfg} {lc : List (Int × Int)} {t : List Int} {lv : Value} {l : List Summ} {w : World} (h : FewG B lo c lc t lv l w) : Few c lc t lv l w := ⟨h.nums, h.mem, h.sums.rd, fun s hs => (h.sums.all s hs).2.2.1, h.len⟩
theorem FewG.kept {B lo : Nat} {c : Cfg} {lc : List (Int × Int)} {t : List Int} {lv : Value} {l : List Summ} {w w' : World} {b : Nat} (h : FewG B lo c lc t lv l w) (hg : w.grownBy w' (some b)) (hb : b < B) : FewG B lo c lc t lv l w' :=
  ⟨h.nums, h.mem.off hg (fun k e => by cases e; exact hb) h.tb h.cl, h.tb, h.cl, h.sums.kept hg (fun k e => by cases e; exact Nat.lt_of_lt_of_le hb h.le), h.len, h.le⟩
/-- What the deck deals for chapter 24. -/
def FewPost (w : World) (e : Ending) (w' : World) : Prop :=
  ∃ (c : Cfg) (lc : List (Int × Int)) (t : List Int) (lv : Value) (l : List Summ) (win : Int) (rej : List Int) (vl vr : Value),
    e = .returned (.tuple #[c.val, lv, repV win (totalF l) vl (bOver c t l) ((keysF l).length : Int) (bRest c t l) vr]) ∧
    Few c lc t lv l w' ∧ RdL lnF 3 w' vl (bLs c t l) ∧ RdL wordF 1 w' vr rej ∧ CapOk vl ∧ CapOk vr ∧ (0 ≤ win ∧ win < 1000) ∧ rej.length = 7 ∧ rej[0]? = some 0 ∧ (∀ n ∈ rej, 0 ≤ n ∧ n ≤ 8) ∧ w.grownBy w' none

theorem Blk.words7 {w : World} {g : Nat} {l : List Int} (h : Blk w g (wordCells l)) (hl : l.length = 7) : RdL wordF 1 w (.slice (some ⟨g, 0, none⟩) 7 7) l := by
  have := h.words (by omega)
  rwa [hl] at this
set_option maxHeartbeats 2000000 in
set_option maxRecDepth 100000 in
theorem few24_c (sv : Value) (xs : List Int) (n : Nat) (w : World) (hsv : Rd w 1 sv n (xs.map (fun x => Value.int .i64 x))) : Calls Try.prog 14 #[sv] w (FewPost w) := by
  have HS := Lib.hid hsv
  obtain ⟨sa, sc, rfl⟩ := hsv.shape
  clear hsv
  go_enter Try.func14, Try.ntmps14
  go_upto_region 1 with (refine alloc_cfg rfl rfl ?_; intro wa Ba Ga za)
  have Bb := Ba.same (World.grownBy_alloc wa (.cells #[.int .i64 0, .int .u64 0, .slice none 0 0, .int .u64 0, .int .i64 0, .int .u64 0, .slice none 0 0] 26) none)
  have Ab := Blk.new wa #[.int .i64 0, .int .u64 0, .slice none 0 0, .int .u64 0, .int .i64 0, .int .u64 0, .slice none 0 0] 26
  have Gb := grownBy_new_block Ga (.cells #[.int .i64 0, .int .u64 0, .slice none 0 0, .int .u64 0, .int .i64 0, .int .u64 0, .slice none 0 0] 26)
  generalize wa.alloc (.cells #[.int .i64 0, .int .u64 0, .slice none 0 0, .int .u64 0, .int .i64 0, .int .u64 0, .slice none 0 0] 26) = wb at *
  generalize wa.heap.size = br at *
  have HSb := Lib.hid (Rd.same HS.out Gb)
  have hbr := Ab.lt
  clear HS Ba Ga
  go_upto_region 4 with (first | (go_at_call 28; refine (new_c _ _ _ _ HSb.out).mono ?_; rintro e w1 ⟨rfl, D1, G1⟩) | (go_at_call 29; refine (config2_c _ _ D1 (Nat.le_refl _)).mono ?_; rintro e w2 ⟨c, lc, t, rfl, N2, M2, D2, G2, T2, C2⟩; have z12 := G2.size; replace G2 := grownBy_new G1 G2 (Nat.le_refl _); have oc1 := M2.one1; have oc2 := M2.one2) | (refine alloc_cfg rfl rfl ?_; intro w3 B3 G3 z3) | (refine store_cfg rfl _ _ rfl _ rfl c rfl oc1 oc2 Cfg.zero (by assumption) ?_; intro w4 B4 G4; have D4 := D2.kept (grownBy_new G3 G4 (Nat.le_refl _)) (by simp); have M4 := M2.same (grownBy_new G3 G4 (Nat.le_refl _)); have z14 := Nat.le_trans z12 (grownBy_new G3 G4 (Nat.le_refl _)).size; replace G4 := grownBy_new (grownBy_trans G2 G3) G4 G2.size) | (refine load_cfg rfl _ rfl _ rfl c (by assumption) ?_) | (go_at_call 30; refine (dsums_c _ c _ D4 z14 ⟨N2.shards.1, by have := N2.shards.2; omega⟩ ⟨by have := N2.depth.1; omega, by have := N2.depth.2; omega⟩ ⟨by have := N2.width.1; omega, by have := N2.width.2; omega⟩).mono ?_; rintro e w5 ⟨lv, l, rfl, S5, hl5, D5, G5⟩; have F5 : Few c lc t lv l w5 := ⟨N2, M4.off G5 (fun k e => by cases e; exact D1.below) T2 C2, S5.rd, fun s hs => (S5.all s hs).2.2.1, hl5⟩; have B5 := B4.kept G5 (by have := D1.below; simp; omega); have K5 := grownBy_new G4 G5 (Nat.le_refl _)))
  have HFG : FewG w1.heap.size w4.heap.size c lc t lv l w5 := ⟨N2, F5.mem, T2, C2, S5, hl5, z14⟩
  have hbB := D5.below
  have hcb : w2.heap.size ≠ wb.heap.size := by omega
  have hrb0 : w.heap.size < wb.heap.size := by omega
  have D6 := D5.kept (w' := w5.drew) (r := none) (by (repeat (first | exact grownBy_refl _ _ | assumption | refine grownBy_new_block ?_ _ | refine grownBy_drew ?_ | refine grownBy_drewN ?_ _ | refine grownBy_setNew ?_ (by first | (simp; done) | omega | (simp; omega)) _))) (by simp)
  have B6 := B5.same (w' := w5.drew) (by (repeat (first | exact grownBy_refl _ _ | assumption | refine grownBy_new_block ?_ _ | refine grownBy_drew ?_ | refine grownBy_drewN ?_ _ | refine grownBy_setNew ?_ (by first | (simp; done) | omega | (simp; omega)) _)))
  have FG6 := HFG.kept (b := wb.heap.size) (w' := w5.drew) (by (repeat (first | exact grownBy_refl _ _ | assumption | refine grownBy_new_block ?_ _ | refine grownBy_drew ?_ | refine grownBy_drewN ?_ _ | refine grownBy_setNew ?_ (by first | (simp; done) | omega | (simp; omega)) _))) hbB
  have Bb6 := Bb.same (grownBy_trans K5 (show World.grownBy w5 w5.drew none from (by (repeat (first | exact grownBy_refl _ _ | assumption | refine grownBy_new_block ?_ _ | refine grownBy_drew ?_ | refine grownBy_drewN ?_ _ | refine grownBy_setNew ?_ (by first | (simp; done) | omega | (simp; omega)) _)))))
  have Ab6 := Ab.same (grownBy_trans K5 (show World.grownBy w5 w5.drew none from (by (repeat (first | exact grownBy_refl _ _ | assumption | refine grownBy_new_block ?_ _ | refine grownBy_drew ?_ | refine grownBy_drewN ?_ _ | refine grownBy_setNew ?_ (by first | (simp; done) | omega | (simp; omega)) _)))))
  have K6 := grownBy_trans Gb (grownBy_trans K5 (show World.grownBy w5 w5.drew none from (by (repeat (first | exact grownBy_refl _ _ | assumption | refine grownBy_new_block ?_ _ | refine grownBy_drew ?_ | refine grownBy_drewN ?_ _ | refine grownBy_setNew ?_ (by first | (simp; done) | omega | (simp; omega)) _)))))
  have hz6 : wb.heap.size ≤ w5.drew.heap.size := K5.size
  have hB6 : w1.heap.size ≤ w5.drew.heap.size := by have := G5.size; show w1.heap.size ≤ w5.heap.size; omega
  clear S5 hl5 D5 G5 F5 B5 K5 B4 D4 M4 z14 G4 B3 G3 z3 M2 D2 T2 C2 z12 G2 D1 G1 N2 HSb HFG Bb Ab Gb
  generalize w2.heap.size = cb at *
  generalize w1.heap.size = B at *
  generalize w4.heap.size = lo at *
  generalize wb.heap.size = b at *
  obtain ⟨la, lcp, rfl⟩ := FG6.sums.own.shape
  (refine Rg.wp_region_rgZ 9 #[false, true] (Mv B b) (fun k _ w v w' => match k with | 4 => NextPost B b 1000 w (.returned v) w' | 7 => RejsPost B b w (.returned v) w' | 8 => (∃ (win : Int) (rej : List Int) (vl vr : Value), v = repV win (totalF l) vl (bOver c t l) ((keysF l).length : Int) (bRest c t l) vr ∧ RdL lnF 3 w' vl (bLs c t l) ∧ RdL wordF 1 w' vr rej ∧ CapOk vl ∧ CapOk vr ∧ From w.heap.size vl ∧ From w.heap.size vr ∧ (0 ≤ win ∧ win < 1000) ∧ rej.length = 7 ∧ rej[0]? = some 0 ∧ (∀ n ∈ rej, 0 ≤ n ∧ n ≤ 8)) ∧ World.grownBy w w' none | _ => False) (by kernel_rfl) (by kernel_rfl) (Mv.refl B b) (Mv.trans B b) (fun _ _ _ _ _ h => h) ?_; simp only [List.take, List.drop])
  generalize w5.drew = w6 at *
  (refine Rg.tree_op rfl rfl ?_; intro x0 mx0 dx0)
  clear dx0
  have BX := B6.kept mx0.1 (by simp; omega)
  go_wp2_with (refine load_cfg rfl _ rfl _ rfl c (by assumption) ?_)
  refine ⟨Mv.refl _ _ _, ?_⟩
  clear BX
  (refine Rg.tree_quiet 1 rfl (by first | exact Or.inl rfl | exact Or.inr rfl) ?_; simp only [List.take, List.drop, List.length_cons, List.length_nil, List.replicate, Nat.reduceAdd]; (try simp only [List.cons_append]); (try simp only [List.nil_append]); (repeat (go_big_quiet_step (fail))); refine wpQuiet_nil ?_)
  (refine Rg.tree_op rfl rfl ?_; intro x2 mx2 dx2)
  clear dx2
  have BX := B6.kept mx2.1 (by simp; omega)
  go_wp2_with (refine load_cfg rfl _ rfl _ rfl c (by assumption) ?_)
  refine ⟨Mv.refl _ _ _, ?_⟩
  clear BX
  (refine Rg.tree_quiet 1 rfl (by first | exact Or.inl rfl | exact Or.inr rfl) ?_; simp only [List.take, List.drop, List.length_cons, List.length_nil, List.replicate, Nat.reduceAdd]; (try simp only [List.cons_append]); (try simp only [List.nil_append]); (repeat (go_big_quiet_step (fail))); refine wpQuiet_nil ?_)
  (refine Rg.tree_call rfl rfl rfl ?_; intro x4 mx4 dx4; refine ⟨?_, ?_⟩; · (unfold Rg.callSpec; go_simp; (refine (next_c b 1000 _ (mx4.2 D6) (by omega) (by omega)).mono ?_; rintro e w' ⟨r, rfl, h⟩; exact ⟨_, rfl, r, rfl, h⟩)))
  clear dx4
  rintro v4 y4 ⟨win, hv4, hw0, hw1, hd4, G4⟩
  cases hv4
  refine ⟨Mv.next G4 hd4, ?_⟩
  simp only [Act.put, List.setIfInBounds_toArray, List.set_cons_zero, List.set_cons_succ]
  (refine Rg.tree_quiet 2 rfl (by first | exact Or.inl rfl | exact Or.inr rfl) ?_; simp only [List.take, List.drop, List.length_cons, List.length_nil, List.replicate, Nat.reduceAdd]; (try simp only [List.cons_append]); (try simp only [List.nil_append]); (repeat (go_big_quiet_step (fail))); refine wpQuiet_nil ?_)
  (refine Rg.tree_call rfl rfl rfl ?_; intro x7 mx7 dx7; refine ⟨?_, ?_⟩; · (unfold Rg.callSpec; go_simp; (refine (drejects_c b _ (mx7.2 D6) (Nat.le_trans hB6 mx7.1.size)).mono ?_; rintro e w' ⟨g, ws, rfl, h⟩; exact ⟨_, rfl, g, ws, rfl, h⟩)))
  clear dx7
  rintro v7 y7 ⟨g, rej, hv7, hg7, hr1, hr2, hr3, Br7, hd7, G7⟩
  cases hv7
  refine ⟨Mv.next G7 hd7, ?_⟩
  simp only [Act.put, List.setIfInBounds_toArray, List.set_cons_zero, List.set_cons_succ]
  have hgb : b < g := by have := mx7.1.size; omega
  have hgB : ¬ g = b := by omega
  (refine Rg.tree_call rfl rfl rfl ?_; intro x8 mx8 dx8; refine ⟨?_, ?_⟩; · (unfold Rg.callSpec; go_simp; (refine (rbuild_c c lc t _ l _ rej win x8 (FG6.kept mx8.1 hbB).few ((Br7.kept (dx8.out 7 (by omega) (by kernel_rfl)).1 (by simp; omega)).words7 hr1) (by omega)).mono ?_; rintro e w' ⟨vl, vr, rfl, h1, h2, h3, h4, h5, h6, h7⟩; exact ⟨_, rfl, ⟨win, rej, vl, vr, rfl, h1, h2, h3, h4, h5, h6, ⟨hw0, hw1⟩, hr1, hr2, hr3⟩, h7⟩)))
  clear dx8
  rintro v8 y8 ⟨⟨win2, rej2, vl, vr, rfl, R1, R2, hc1, hc2, hf1, hf2, hw2, hq1, hq2, hq3⟩, g8⟩
  refine ⟨Mv.of g8, ?_⟩
  simp only [Act.put, List.setIfInBounds_toArray, List.set_cons_zero, List.set_cons_succ]
  have hb8 : b ≤ x8.heap.size := by have := mx8.1.size; omega
  have hbx8 : b < x8.heap.size := (mx8.2 D6).lt
  obtain ⟨a1, k1, rfl⟩ := R1.shape
  obtain ⟨a2, k2, e2⟩ := R2.shape
  rw [hq1] at e2
  subst e2
  (refine Rg.tree_nil ?_; intro wz mwz dwz cwz)
  have RA := R1.keptFrom hf1 (dwz.out 8 (by omega)).1 hbx8
  have RB := R2.keptFrom hf2 (dwz.out 8 (by omega)).1 hbx8
  have FGz := FG6.kept mwz.1 hbB
  have Bz := Bb6.kept mwz.1 (by simp; omega)
  have Az := Ab6.kept mwz.1 (by simp; omega)
  have Kz := grownBy_new K6 mwz.1 (by omega)
  have hw8 : w.heap.size < x8.heap.size := by omega
  have hbr8 : br < x8.heap.size := by omega
  have hwB : w.heap.size < B := by omega
  have hbrB : br < B := by omega
  have hwbr : ¬ w.heap.size = br := by omega
  have hwbr2 : w.heap.size ≤ br := by omega
  clear mx0 mx2 mx4 hd4 G4 mx7 hg7 Br7 hd7 G7 mx8 g8 R1 R2 mwz dwz cwz FG6 Bb6 Ab6 K6 B6 D6 hr1 hr2 hr3
  go_wp2_with (refine store_cfg rfl _ _ rfl _ rfl c rfl oc1 oc2 Cfg.zero (by assumption) ?_; intro wc Bc Gc; have Ac := Az.kept Gc (by simp; omega); have ac := Ac.cell; have fc := Ac.free)
  clear ac fc
  have FGc := FGz.kept Gc hwB
  have RAc := RA.keptFrom hf1 Gc hw8
  have RBc := RB.keptFrom hf2 Gc hw8
  have Kc := grownBy_new Kz Gc (Nat.le_refl _)
  clear FGz RA RB Kz Gc Az Bz
  generalize hLen : (bLs c t l).length = n1 at *
  have HLn := Lib.hid hLen
  clear hLen
  generalize hov : bOver c t l = ov at *
  generalize hrs : bRest c t l = rst at *
  generalize htt : totalF l = tot at *
  generalize hkk : ((keysF l).length : Int) = kn at *
  have hgr : World.grownBy wc (((((((wc.setCell ⟨br, 0, none⟩ (.int .i64 win2)).setCell ⟨br, 1, none⟩ (.int .u64 tot)).setCell ⟨br, 2, none⟩ (.slice a1 n1 k1)).setCell ⟨br, 3, none⟩ (.int .u64 ov)).setCell ⟨br, 4, none⟩ (.int .i64 kn)).setCell ⟨br, 5, none⟩ (.int .u64 rst)).setCell ⟨br, 6, none⟩ (.slice a2 7 k2)) (some br) := grownBy_set (grownBy_set (grownBy_set (grownBy_set (grownBy_set (grownBy_set (grownBy_set (grownBy_refl _ _) _ _) _ _) _ _) _ _) _ _) _ _) _ _
  have hAr : Blk (((((((wc.setCell ⟨br, 0, none⟩ (.int .i64 win2)).setCell ⟨br, 1, none⟩ (.int .u64 tot)).setCell ⟨br, 2, none⟩ (.slice a1 n1 k1)).setCell ⟨br, 3, none⟩ (.int .u64 ov)).setCell ⟨br, 4, none⟩ (.int .i64 kn)).setCell ⟨br, 5, none⟩ (.int .u64 rst)).setCell ⟨br, 6, none⟩ (.slice a2 7 k2)) br #[.int .i64 win2, .int .u64 tot, .slice a1 n1 k1, .int .u64 ov, .int .i64 kn, .int .u64 rst, .slice a2 7 k2] := ((((((Ac.set_ 0 _ rfl).set_ 1 _ rfl).set_ 2 _ rfl).set_ 3 _ rfl).set_ 4 _ rfl).set_ 5 _ rfl).set_ 6 _ rfl
  generalize ((((((wc.setCell ⟨br, 0, none⟩ (.int .i64 win2)).setCell ⟨br, 1, none⟩ (.int .u64 tot)).setCell ⟨br, 2, none⟩ (.slice a1 n1 k1)).setCell ⟨br, 3, none⟩ (.int .u64 ov)).setCell ⟨br, 4, none⟩ (.int .i64 kn)).setCell ⟨br, 5, none⟩ (.int .u64 rst)).setCell ⟨br, 6, none⟩ (.slice a2 7 k2) = wd at *
  have FGd := (FGc.kept hgr hbrB).few
  have RAd := RAc.keptFrom hf1 hgr hbr8
  have RBd := RBc.keptFrom hf2 hgr hbr8
  have Kd := grownBy_new Kc hgr hwbr2
  have Bd := Bc.kept hgr (by simp; omega)
  obtain ⟨tb, fb, hbl, hba⟩ := Bd.block
  obtain ⟨td, hbd⟩ := hAr.blk
  have L1 := run_loadVar_row (P := Try.prog) wd w.heap.size tb 32 _ fb _ hbl Try.underlying32 rfl size_cfg
  have L2 := run_loadVar_row (P := Try.prog) wd br td 26 _ _ _ hbd Try.underlying26 rfl (by kernel_rfl)
  refine bodyPost_ret (v := .tuple #[c.val, .slice la l.length lcp, repV win2 tot (.slice a1 n1 k1) ov kn rst (.slice a2 7 k2)]) (by simp [results, Try.results14, asAddr, L1, L2, Cfg.val]) rfl ?_
  subst hov hrs htt hkk
  exact ⟨c, lc, t, _, l, win2, rej2, _, _, rfl, FGd, RAd, RBd, hc1, hc2, hw2, hq1, hq2, hq3, Kd⟩
end Go.Proofs.Ytiagjiaahnkefaa

/- A whole report: made, written, read, at once. -/
namespace Go.Proofs.Ytiagjiaahnkefaa
open Go.RowKit

theorem size_rep : (Try.prog.info? 26).map (·.size) = some 7 := by kernel_rfl
abbrev repA (win tot : Int) (vl : Value) (over trk rest : Int) (vr : Value) : Array Value := #[.int .i64 win, .int .u64 tot, vl, .int .u64 over, .int .i64 trk, .int .u64 rest, vr]
abbrev rep0 : Array Value := repA 0 0 (.slice none 0 0) 0 0 0 (.slice none 0 0)
theorem run_alloc_rep (w : World) : (Instr.alloc 26 true (.tuple #[])).run Try.prog w = .ok (.pointer (some ⟨w.heap.size, 0, none⟩)) (w.alloc (.cells rep0 26)) := by kernel_rfl
theorem alloc_rep {ops : Array Oper} {rest : List Oper} {o : Oper} {a : Act} {w : World} {Q : Exit → Act → World → Prop} (hgd : o.guard = none) (ho : o.op = .alloc 26)
    (h : ∀ w', Blk w' w.heap.size rep0 → w.grownBy w' none → w.heap.size < w'.heap.size → wpList Try.prog ops Q rest (a.put o.dst (.pointer (some ⟨w.heap.size, 0, none⟩))) w') : wpList Try.prog ops Q (o :: rest) a w :=
  wpList_plain hgd fun _ hK => by
    unfold Oper.wp execOp
    simp only [ho, run_alloc_rep, Sem.run_bind, Sem.run_pure, Result.andThen_ok]
    exact hK _ _ (h _ (Blk.new w _ _) (World.grownBy_alloc w _ _) (by simp))
theorem store_rep {ops : Array Oper} {rest : List Oper} {o : Oper} {a : Act} {w : World} {Q : Exit → Act → World → Prop} (hgd : o.guard = none) (x y : Operand) (ho : o.op = .store 26 x y)
    (b : Nat) (hx : a.eval x = .pointer (some ⟨b, 0, none⟩)) {win tot over trk rst : Int} {vl vr : Value} (hy : a.eval y = repV win tot vl over trk rst vr) (h1 : vl.oneCell' = true) (h2 : vr.oneCell' = true) (c0 : Array Value) (hs : c0.size = 7) (hb : Blk w b c0)
    (h : ∀ w', Blk w' b (repA win tot vl over trk rst vr) → w.grownBy w' (some b) → wpList Try.prog ops Q rest (a.put o.dst undef) w') : wpList Try.prog ops Q (o :: rest) a w := by
  obtain ⟨t, hbl⟩ := hb.blk
  have hst := run_storeCells_at Try.prog b 0 t (repA win tot vl over trk rst vr).toList 0 c0 w hbl (by simp [hs]) (by intro v hv; simp at hv; rcases hv with rfl | rfl | rfl | rfl | rfl | rfl | rfl <;> first | rfl | assumption)
  have hz : (sizeOf 26).run Try.prog w = .ok 7 w := by
    have := size_rep
    cases hq : Try.prog.info? 26 with
    | none => rw [hq] at this; simp at this
    | some i => rw [hq] at this; simp [sizeOf, typeInfo, hq]; simpa using this
  refine wpList_plain hgd fun _ hK => ?_
  unfold Oper.wp execOp
  simp only [ho, hx, hy, Instr.storeAt, Instr.sureAddr, storeVar, Sem.run_bind, Sem.run_pure, Result.andThen_ok, hz]
  simp only [Value.cells, List.size_toArray, List.length_cons, List.length_nil, Nat.reduceAdd, ne_eq, not_true_eq_false, if_false]
  rw [hst]
  refine hK _ _ (h _ ⟨t, ?_⟩ ⟨rfl, rfl, rfl, by simp, fun k _ hk => setRow_other w b k _ (fun e => hk (by simp [e]))⟩)
  rw [setRow_heap w b c0 _ t _ hbl]
  obtain ⟨l, rfl⟩ : ∃ l : List Value, c0 = l.toArray := ⟨c0.toList, by simp⟩
  match l, hs with
  | [_, _, _, _, _, _, _], _ => rfl
theorem load_rep {ops : Array Oper} {rest : List Oper} {o : Oper} {a : Act} {w : World} {Q : Exit → Act → World → Prop} (hgd : o.guard = none) (x : Operand) (ho : o.op = .load 26 x)
    (b : Nat) (hx : a.eval x = .pointer (some ⟨b, 0, none⟩)) {win tot over trk rst : Int} {vl vr : Value} (hb : Blk w b (repA win tot vl over trk rst vr)) (h : wpList Try.prog ops Q rest (a.put o.dst (repV win tot vl over trk rst vr)) w) : wpList Try.prog ops Q (o :: rest) a w := by
  obtain ⟨t, hbl⟩ := hb.blk
  exact wpList_load_row hgd _ x ho b hx t _ _ _ hbl Try.underlying26 rfl size_rep h
end Go.Proofs.Ytiagjiaahnkefaa

/- The built report is accepted: plain laws. The lower bounds of all lines add up to the total at most; the listed lines stand in their order. -/
namespace Go.Proofs.Ytiagjiaahnkefaa
open Go.RowKit Go.Sort

/-! ### The order -/
theorem bef_trans {x y z : Ln} (h1 : befB x y = true) (h2 : befB y z = true) : befB x z = true := by
  simp only [befB, Bool.or_eq_true, Bool.and_eq_true, decide_eq_true_eq] at h1 h2 ⊢
  rcases h1 with h1 | ⟨h1, k1⟩ <;> rcases h2 with h2 | ⟨h2, k2⟩
  · left; omega
  · left; omega
  · left; omega
  · exact .inr ⟨by omega, List.lt_trans k1 k2⟩
theorem bef_total {x y : Ln} (hk : x.key.data.toList ≠ y.key.data.toList) (h : befB x y = false) : befB y x = true := by
  by_cases e : x.hi < y.hi
  · simp [befB, e]
  · by_cases e2 : y.hi < x.hi
    · simp [befB, e2] at h
    · have e3 : x.hi = y.hi := by omega
      by_cases e4 : x.key.data.toList < y.key.data.toList
      · simp [befB, e3, e4] at h
      · have e5 : y.key.data.toList < x.key.data.toList := by
          by_cases e6 : y.key.data.toList < x.key.data.toList
          · exact e6
          · exact absurd (List.le_antisymm (List.not_lt.1 e6) (List.not_lt.1 e4)) hk
        simp [befB, e3, e5]
theorem insK_spec (x : Ln) (L : List Ln) : ∀ k, k ≤ L.length → (∀ j (hj : j < L.length), insK x L k ≤ j → j < k → befB x L[j] = true) ∧ ∀ m (hm : m < L.length), insK x L k = m + 1 → befB x L[m] = false
  | 0, _ => ⟨fun j _ _ h => absurd h (by omega), fun m _ h => by simp [insK] at h⟩
  | k + 1, hk => by
    have hlt : k < L.length := by omega
    obtain ⟨h1, h2⟩ := insK_spec x L k (by omega)
    have e : insK x L (k + 1) = if befB x L[k] = true then insK x L k else k + 1 := by
      rw [insK, List.getElem?_eq_getElem hlt]; rfl
    by_cases hb : befB x L[k] = true
    · rw [e, if_pos hb]
      refine ⟨fun j hj ha hjk => ?_, h2⟩
      by_cases hjk2 : j < k
      · exact h1 j hj ha hjk2
      · obtain rfl : j = k := by omega
        exact hb
    · rw [e, if_neg hb]
      refine ⟨fun j hj ha hjk => absurd ha (by omega), fun m hm hme => ?_⟩
      obtain rfl : m = k := by omega
      simpa using hb
theorem insL_sorted {L : List Ln} {x : Ln} (h : L.Pairwise fun a b => befB a b = true) (hk : ∀ y ∈ L, x.key.data.toList ≠ y.key.data.toList) : (insL L x).Pairwise fun a b => befB a b = true := by
  obtain ⟨h1, h2⟩ := insK_spec x L L.length (Nat.le_refl _)
  have hle := insK_le x L L.length
  unfold insL
  generalize insK x L L.length = p at *
  have hpre : ∀ j (hj : j < L.length), j < p → befB L[j] x = true := by
    intro j hj hjp
    obtain ⟨m, rfl⟩ : ∃ m, p = m + 1 := ⟨p - 1, by omega⟩
    have hm : m < L.length := by omega
    have hx := bef_total (hk _ (List.getElem_mem hm)) (h2 m hm rfl)
    by_cases e : j = m
    · subst e; exact hx
    · exact bef_trans (List.pairwise_iff_getElem.1 h j m hj hm (by omega)) hx
  have htd : L.take p ++ L.drop p = L := List.take_append_drop p L
  have h' := h
  rw [← htd, List.pairwise_append] at h'
  obtain ⟨a1, a2, a3⟩ := h'
  rw [List.append_assoc, List.pairwise_append]
  refine ⟨a1, ?_, ?_⟩
  · rw [List.singleton_append, List.pairwise_cons]
    refine ⟨fun y hy => ?_, a2⟩
    obtain ⟨i, hi, rfl⟩ := List.getElem_of_mem hy
    rw [List.getElem_drop]
    rw [List.length_drop] at hi
    exact h1 (p + i) (by omega) (by omega) (by omega)
  · intro a ha b hb
    rw [List.singleton_append, List.mem_cons] at hb
    rcases hb with rfl | hb
    · obtain ⟨i, hi, rfl⟩ := List.getElem_of_mem ha
      rw [List.getElem_take]
      rw [List.length_take] at hi
      exact hpre i (by omega) (by omega)
    · exact a3 a ha b hb
theorem sortLn_sorted {l : List Ln} (h : (keysN l).Nodup) : (sortLn l).Pairwise fun a b => befB a b = true := by
  have : ∀ (l a : List Ln), (a.Pairwise fun x y => befB x y = true) → (keysN (a ++ l)).Nodup → ((l.foldl insL a).Pairwise fun x y => befB x y = true) := by
    intro l
    induction l with
    | nil => intro a ha _; exact ha
    | cons x l ih =>
      intro a ha hn
      simp only [List.foldl_cons]
      refine ih _ (insL_sorted ha fun y hy e => ?_) ?_
      · unfold keysN at hn
        rw [List.map_append, List.nodup_append] at hn
        exact hn.2.2 _ (List.mem_map.2 ⟨y, hy, rfl⟩) _ (List.mem_map.2 ⟨x, by simp, rfl⟩) e.symm
      · have hp : (keysN (insL a x ++ l)).Perm (keysN (a ++ x :: l)) := by
          unfold keysN
          refine List.Perm.map _ ?_
          have := (insL_perm a x).append_right l
          simpa using this
        exact hp.nodup_iff.2 hn
  exact this l [] (by simp) (by simpa using h)

/-! ### The sums -/
def sumB (g : Bytes → Int) (K : List Bytes) : Int := (K.map g).foldl (· + ·) 0
theorem sumB_cons (g : Bytes → Int) (b : Bytes) (K : List Bytes) : sumB g (b :: K) = g b + sumB g K := by
  have : ∀ (l : List Int) (a : Int), l.foldl (· + ·) a = a + l.foldl (· + ·) 0 := by
    intro l
    induction l with
    | nil => intro a; simp
    | cons x l ih => intro a; simp only [List.foldl_cons]; rw [ih (a + x), ih (0 + x)]; omega
  unfold sumB
  simp only [List.map_cons, List.foldl_cons]
  rw [this]; omega
theorem sumB_nil (g : Bytes → Int) : sumB g [] = 0 := rfl
theorem sumB_le {f g : Bytes → Int} : ∀ {K : List Bytes}, (∀ b ∈ K, f b ≤ g b) → sumB f K ≤ sumB g K
  | [], _ => Int.le_refl _
  | b :: K, h => by
    rw [sumB_cons, sumB_cons]
    have := sumB_le fun x hx => h x (List.mem_cons_of_mem b hx)
    have := h b (by simp)
    omega
theorem sumB_add (f g : Bytes → Int) : ∀ K : List Bytes, sumB (fun b => f b + g b) K = sumB f K + sumB g K
  | [] => rfl
  | b :: K => by rw [sumB_cons, sumB_cons, sumB_cons, sumB_add f g K]; omega
theorem sumI_add (f g : Int → Int) : ∀ is : List Int, sumI (fun i => f i + g i) is = sumI f is + sumI g is
  | [] => rfl
  | i :: is => by rw [sumI_cons, sumI_cons, sumI_cons, sumI_add f g is]; omega
theorem sumI_zero : ∀ is : List Int, sumI (fun _ => 0) is = 0
  | [] => rfl
  | i :: is => by rw [sumI_cons, sumI_zero is]; omega
theorem sum_swap (f : Bytes → Int → Int) (is : List Int) : ∀ K : List Bytes, sumB (fun b => sumI (f b) is) K = sumI (fun i => sumB (fun b => f b i) K) is
  | [] => (sumI_zero is).symm
  | b :: K => by
    rw [sumB_cons, sum_swap f is K, ← sumI_add]
    congr 1
    funext i
    rw [sumB_cons]
theorem sumB_zero {g : Bytes → Int} : ∀ {K : List Bytes}, (∀ b ∈ K, g b = 0) → sumB g K = 0
  | [], _ => rfl
  | b :: K, h => by rw [sumB_cons, sumB_zero fun x hx => h x (List.mem_cons_of_mem b hx), h b (by simp)]; rfl
theorem loSum_all (c : Cfg) (t : List Int) (l : List Summ) : ∀ K : List Bytes, loSum (K.map (lnOf c t l)) = sumB (fun b => (lineF c t l (bA b)).1) K
  | [] => rfl
  | b :: K => by rw [List.map_cons, loSum_cons, loSum_all c t l K, sumB_cons]; rfl
theorem loSum_perm {l l' : List Ln} (h : l.Perm l') : loSum l = loSum l' := by
  induction h with
  | nil => rfl
  | cons x _ ih => rw [loSum_cons, loSum_cons, ih]
  | swap x y l => rw [loSum_cons, loSum_cons, loSum_cons, loSum_cons]; omega
  | trans _ _ ih1 ih2 => exact ih1.trans ih2

def ownSum (es : List Ent) : Int := es.foldl (fun a e => a + e.own) 0
theorem ownSum_from : ∀ (es : List Ent) (a : Int), es.foldl (fun a e => a + e.own) a = a + ownSum es
  | [], a => by simp [ownSum]
  | e :: es, a => by
    unfold ownSum
    simp only [List.foldl_cons]
    rw [ownSum_from es (a + e.own), ownSum_from es (0 + e.own)]
    omega
theorem ownSum_cons (e : Ent) (es : List Ent) : ownSum (e :: es) = e.own + ownSum es := by
  show (e :: es).foldl (fun a e => a + e.own) 0 = _
  simp only [List.foldl_cons]
  rw [ownSum_from]; omega
theorem ownF_min : ∀ (es : List Ent) (a : Int), (∀ e ∈ es, 0 ≤ e.own) → a ≤ 18446744073709551615 → es.foldl (fun n e => satA n e.own) a = min (a + ownSum es) 18446744073709551615
  | [], a, _, ha => by simp [ownSum]; omega
  | e :: es, a, h, ha => by
    have h0 := h e (by simp)
    simp only [List.foldl_cons]
    have hs : 0 ≤ ownSum es := by
      have : ∀ es : List Ent, (∀ e ∈ es, 0 ≤ e.own) → 0 ≤ ownSum es := by
        intro es
        induction es with
        | nil => intro _; simp [ownSum]
        | cons x es ih =>
          intro h
          rw [ownSum_cons]
          have := ih fun y hy => h y (List.mem_cons_of_mem x hy)
          have := h x (by simp)
          omega
      exact this es fun y hy => h y (List.mem_cons_of_mem e hy)
    rw [ownF_min es _ (fun y hy => h y (List.mem_cons_of_mem e hy)) (by unfold satA; split <;> omega), ownSum_cons]
    unfold satA
    split <;> omega
theorem keyEq_iff (b : Bytes) (e : Ent) : keyEq (bA b) e = true ↔ b = entK e := by
  unfold keyEq entK bA
  rw [beq_iff_eq, ByteArray.toList_eq, ByteArray.toList_eq]
  exact eq_comm
/-- Over different keys, each entry counts once at most. -/
theorem own_once (un : Int) : ∀ (es : List Ent) (K : List Bytes), K.Nodup → (∀ e ∈ es, 0 ≤ e.own) → sumB (fun b => (bndE es un (bA b)).1) K ≤ ownSum es
  | [], K, _, _ => by
    exact Int.le_of_eq ((sumB_zero fun b _ => rfl).trans rfl)
  | e :: es, K, hK, h => by
    have h0 := h e (by simp)
    have hr := own_once un es K hK fun y hy => h y (List.mem_cons_of_mem e hy)
    have hp : ∀ k, 0 ≤ (bndE es un k).1 := by
      intro k
      unfold bndE
      split
      · rename_i x hx
        exact h x (List.mem_cons_of_mem e (List.mem_of_find?_eq_some hx))
      · exact Int.le_refl _
    have h1 : sumB (fun b => (bndE (e :: es) un (bA b)).1) K ≤ sumB (fun b => (if b = entK e then e.own else 0) + (bndE es un (bA b)).1) K := by
      refine sumB_le fun b _ => ?_
      by_cases hb : b = entK e
      · rw [if_pos hb]
        have : (bndE (e :: es) un (bA b)).1 = e.own := by
          unfold bndE
          rw [List.find?_cons_of_pos ((keyEq_iff b e).2 hb)]
        have := hp (bA b)
        omega
      · rw [if_neg hb]
        have : (bndE (e :: es) un (bA b)).1 = (bndE es un (bA b)).1 := by
          unfold bndE
          rw [List.find?_cons_of_neg (fun hq => hb ((keyEq_iff b e).1 hq))]
        omega
    rw [sumB_add] at h1
    have h2 : sumB (fun b => if b = entK e then e.own else 0) K ≤ e.own := by
      have : ∀ K : List Bytes, K.Nodup → sumB (fun b => if b = entK e then e.own else 0) K ≤ e.own := by
        intro K
        induction K with
        | nil => intro _; exact h0
        | cons b K ih =>
          intro hn
          rw [List.nodup_cons] at hn
          rw [sumB_cons]
          by_cases hb : b = entK e
          · rw [if_pos hb, sumB_zero fun x hx => if_neg fun he => hn.1 (by rw [hb, ← he]; exact hx)]
            omega
          · rw [if_neg hb]
            have := ih hn.2
            omega
      exact this K hK
    rw [ownSum_cons]
    omega

section
variable {c : Cfg} {lc : List (Int × Int)} {t : List Int} {lv : Value} {l : List Summ} {w : World}
def ownAt (l : List Summ) (k : ByteArray) (i : Int) : Int := match l[i.toNat]? with
  | some s => (bndE s.es s.untr k).1
  | none => 0
theorem own_tot {s : Summ} (h : SummG c s) : ownSum s.es ≤ s.total ∧ ∀ e ∈ s.es, 0 ≤ e.own := by
  have h1 : ∀ e ∈ s.es, 0 ≤ e.own := fun e he => (h.num.es e he).1.1
  refine ⟨?_, h1⟩
  have h2 : ownF s.es ≤ s.total := by
    have he := h.err
    unfold sumErr at he
    by_cases a1 : 9223372036854775808 < s.total ∨ s.total < s.untr
    · rw [if_pos a1] at he; cases he
    rw [if_neg a1] at he
    by_cases a2 : 96 < s.es.length
    · rw [if_pos a2] at he; cases he
    rw [if_neg a2] at he
    by_cases a3 : entsErr s.total s.es ≠ 0
    · rw [if_pos a3] at he; exact absurd he a3
    rw [if_neg a3] at he
    by_cases a4 : s.total < ownF s.es
    · rw [if_pos a4] at he; cases he
    · omega
  have h3 : s.total ≤ 9223372036854775808 := by
    have he := h.err
    unfold sumErr at he
    by_cases a1 : 9223372036854775808 < s.total ∨ s.total < s.untr
    · rw [if_pos a1] at he; cases he
    · omega
  have h4 : ownF s.es = min (0 + ownSum s.es) 18446744073709551615 := ownF_min s.es 0 h1 (by omega)
  omega
theorem bP_12 (h : Few c lc t lv l w) (k : ByteArray) (i : Int) : (bP c t l k i).1 ≤ (bP c t l k i).2 ∧ (bP c t l k i).1 ≤ ownAt l k i := by
  have e : bP c t l k i = bP c t l k (i.toNat : Int) := by unfold bP; rw [Int.toNat_natCast]
  have e2 : ownAt l k i = ownAt l k (i.toNat : Int) := by unfold ownAt; rw [Int.toNat_natCast]
  rw [e, e2]
  by_cases hi : i.toNat < l.length
  · refine ⟨(bP_cap (t := t) (k := k) hi (h.good _ (List.getElem_mem hi)) h.nums.shards.1).1, ?_⟩
    rw [bP_get hi]
    unfold ownAt
    rw [Int.toNat_natCast, List.getElem?_eq_getElem hi]
    exact Int.min_le_left _ _
  · have hn : l[i.toNat]? = none := by simp; omega
    unfold bP ownAt
    rw [Int.toNat_natCast, hn]
    exact ⟨Int.le_refl _, Int.le_refl _⟩
theorem ownAt_pos (h : Few c lc t lv l w) (k : ByteArray) (i : Int) : 0 ≤ ownAt l k i := by
  have := (bP_w (c := c) (t := t) h.ok k i).1.1
  have := (bP_12 (t := t) h k i).2
  omega
theorem line_own (h : Few c lc t lv l w) (k : ByteArray) : (lineF c t l k).1 ≤ sumI (ownAt l k) (rangeI l.length) := by
  have hs := h.nums.shards
  have hp := h.nums.spread
  have hl := h.len
  obtain ⟨h1, h2⟩ := homeF_bd c t k hs.1
  rw [lineF_all hs.1 h.len, (foldB_2 k _).1]
  have hb : ∀ i, 0 ≤ (bP c t l k i).1 := fun i => (bP_w (c := c) (t := t) h.ok k i).1.1
  obtain ⟨h3, _⟩ := few_set h (f := fun i => (bP c t l k i).1) (fun i => ⟨hb i, Int.le_trans (bP_12 (t := t) h k i).1 (bP_tot (t := t) h k i).2⟩) h1 h2
  have h3' : (setF c t k).foldl (fun a i => satA a (bP c t l k i).1) 0 = sumI (fun i => (bP c t l k i).1) (setN (homeF c t k) c.Shards c.Spread.toNat) := h3
  rw [h3']
  have hn : (setN (homeF c t k) c.Shards c.Spread.toNat).Nodup := setN_nodup h1 h2 (by omega) (by omega)
  refine Int.le_trans (sumI_le (n := l.length) hn (fun i hi => by have := setN_in hs.1 i hi; omega) fun i _ => hb i) ?_
  exact sumI_mono fun i _ => (bP_12 (t := t) h k i).2
/-- The lower bounds of all lines. -/
theorem lo_total (h : Few c lc t lv l w) : loSum (allF c t l) ≤ totalF l := by
  unfold allF
  rw [loSum_all]
  refine Int.le_trans (sumB_le fun b _ => line_own h (bA b)) ?_
  rw [sum_swap (fun b => ownAt l (bA b)), (few_sum h).1]
  refine sumI_mono fun i _ => ?_
  unfold ownAt totAt
  cases e : l[i.toNat]? with
  | none =>
    show sumB (fun _ => 0) _ ≤ _
    rw [sumB_zero fun _ _ => rfl]
    exact Int.le_refl _
  | some s =>
    have hg := h.good s (List.mem_of_getElem? e)
    obtain ⟨h1, h2⟩ := own_tot hg
    exact Int.le_trans (own_once s.untr s.es (keysF l) (keysF_nodup l) h2) h1
theorem keysN_all (c : Cfg) (t : List Int) (l : List Summ) : keysN (allF c t l) = keysF l := by
  unfold keysN allF
  rw [List.map_map]
  exact List.map_id'' (fun b => rfl) _
theorem keys_sorted (c : Cfg) (t : List Int) (l : List Summ) : (keysN (sortLn (allF c t l))).Nodup := by
  have : (keysN (sortLn (allF c t l))).Perm (keysN (allF c t l)) := (sortLn_perm _).map _
  rw [this.nodup_iff, keysN_all]
  exact keysF_nodup l
theorem mem_all (h : Few c lc t lv l w) {x : Ln} (hx : x ∈ allF c t l) : x.key.size = 1 ∧ x.lo ≤ x.hi ∧ x.hi ≤ totalF l ∧ 0 ≤ x.lo := by
  obtain ⟨b, hb, rfl⟩ := List.mem_map.1 hx
  refine ⟨?_, ?_, line_tot h (bA b), (allF_w h _ hx).lo.1⟩
  · obtain ⟨s, hs, e, he, rfl⟩ := mem_keysF hb
    obtain ⟨n, hn, _⟩ := (h.good s hs).keys e he
    show (entK e).toArray.size = 1
    unfold entK
    rw [hn]; rfl
  · have hs := h.nums.shards
    show (lineF c t l (bA b)).1 ≤ (lineF c t l (bA b)).2
    rw [lineF_all hs.1 h.len, (foldB_2 _ _).1, (foldB_2 _ _).2]
    have : ∀ (is : List Int) (a a' : Int), a ≤ a' → is.foldl (fun a i => satA a (bP c t l (bA b) i).1) a ≤ is.foldl (fun a i => satA a (bP c t l (bA b) i).2) a' := by
      intro is
      induction is with
      | nil => intro a a' h; exact h
      | cons i is ih =>
        intro a a' haa
        simp only [List.foldl_cons]
        refine ih _ _ ?_
        have := (bP_12 (t := t) h (bA b) i).1
        unfold satA
        split <;> split <;> omega
    exact this _ 0 0 (Int.le_refl _)
theorem hiMax_le {ls : List Ln} {un M : Int} (h : ∀ x ∈ ls, x.hi ≤ M) (hu : un ≤ M) : hiMax ls un ≤ M := by
  have : ∀ (ls : List Int) (a : Int), (∀ x ∈ ls, x ≤ M) → a ≤ M → ls.foldl max a ≤ M := by
    intro ls
    induction ls with
    | nil => intro a _ h; exact h
    | cons x ls ih => intro a h ha; simp only [List.foldl_cons]; exact ih _ (fun y hy => h y (List.mem_cons_of_mem x hy)) (by have := h x (by simp); omega)
  exact this _ _ (fun x hx => by obtain ⟨y, hy, rfl⟩ := List.mem_map.1 hx; exact h y hy) hu
theorem hiMax_ge (ls : List Ln) (un : Int) : un ≤ hiMax ls un ∧ ∀ x ∈ ls, x.hi ≤ hiMax ls un := by
  have : ∀ (ls : List Int) (a : Int), a ≤ ls.foldl max a ∧ ∀ x ∈ ls, x ≤ ls.foldl max a := by
    intro ls
    induction ls with
    | nil => intro a; exact ⟨Int.le_refl _, by simp⟩
    | cons x ls ih =>
      intro a
      simp only [List.foldl_cons]
      obtain ⟨h1, h2⟩ := ih (max a x)
      exact ⟨by omega, fun y hy => by
        rcases List.mem_cons.1 hy with rfl | hy
        · omega
        · exact h2 y hy⟩
  obtain ⟨h1, h2⟩ := this (ls.map (·.hi)) un
  exact ⟨h1, fun x hx => h2 _ (List.mem_map.2 ⟨x, hx, rfl⟩)⟩
theorem restI_pos (m : Int) (n : Nat) (l : List Summ) : ∀ k, 0 ≤ restI m n l k
  | 0 => Int.le_refl _
  | k + 1 => by rw [restI_succ]; have := restI_pos m n l k; omega
theorem rest_pos (h : Few c lc t lv l w) : 0 ≤ restF c l := by
  rw [few_rest h]
  exact restI_pos _ _ _ _
theorem mem_bLs {x : Ln} (h : x ∈ bLs c t l) : x ∈ allF c t l := mem_sortLn (List.mem_of_mem_take h)
theorem mem_bOm {x : Ln} (h : x ∈ bOm c t l) : x ∈ allF c t l := mem_sortLn (List.mem_of_mem_drop h)
theorem bRest_bd (h : Few c lc t lv l w) : 0 ≤ bRest c t l ∧ bRest c t l ≤ totalF l ∧ restF c l ≤ bRest c t l := by
  have h1 := hiMax_ge (bOm c t l) (restF c l)
  have h2 := rest_pos h
  refine ⟨by unfold bRest; omega, hiMax_le (fun x hx => (mem_all h (mem_bOm hx)).2.2.1) (rest_tot h), h1.1⟩
theorem bLs_len (h : Few c lc t lv l w) : ((bLs c t l).length : Int) = min c.Top (keysF l).length := by
  have := h.nums.top
  unfold bLs selN
  rw [List.length_take, sortLn_len, allF_len]
  omega
theorem bLs_lo (h : Few c lc t lv l w) : 0 ≤ loSum (bLs c t l) ∧ loSum (bLs c t l) ≤ totalF l := by
  have hp : ∀ x ∈ sortLn (allF c t l), 0 ≤ x.lo := fun x hx => (mem_all h (mem_sortLn hx)).2.2.2
  have h1 := loSum_take_le hp (selN c.Top (allF c t l))
  rw [loSum_perm (sortLn_perm (allF c t l))] at h1
  have h2 := lo_total (t := t) h
  exact ⟨loSum_pos fun x hx => (mem_all h (mem_bLs hx)).2.2.2, Int.le_trans h1 h2⟩
theorem bOver_eq (h : Few c lc t lv l w) : bOver c t l + loSum (bLs c t l) = totalF l ∧ 0 ≤ bOver c t l := by
  obtain ⟨h1, h2⟩ := bLs_lo (t := t) h
  have h3 := (few_sum h).2
  have e : satL (loSum (bLs c t l)) = loSum (bLs c t l) := by unfold satL; rw [if_pos (by omega)]
  unfold bOver
  rw [e]
  unfold subF
  rw [if_neg (by omega)]
  omega
/-- The built report passes the check. -/
theorem built_ok (h : Few c lc t lv l w) {win : Int} (hw : 0 ≤ win ∧ win ≤ 1099511627776) {rej : List Int} (hr : rej.length = 7) (hr0 : rej[0]? = some 0) (vl vr : Value) :
    repErr ⟨win, totalF l, vl, bOver c t l, (keysF l).length, bRest c t l, vr, bLs c t l, rej⟩ = 0 := by
  have ht := (few_sum h).2
  obtain ⟨hb0, hb1, _⟩ := bRest_bd (t := t) h
  have hl := bLs_len (t := t) h
  have hk := keysF_few h
  have htop := h.nums.top
  obtain ⟨ho, _⟩ := bOver_eq (t := t) h
  have hsort := sortLn_sorted (l := allF c t l) (by rw [keysN_all]; exact keysF_nodup l)
  have hs2 : (bLs c t l).Pairwise fun a b => befB a b = true := List.Pairwise.sublist (List.take_sublist _ _) hsort
  have hkn : (keysN (bLs c t l)).Nodup := by
    have := keys_sorted c t l
    unfold keysN bLs at *
    rw [List.map_take]
    exact List.Nodup.sublist (List.take_sublist _ _) this
  have hln : linesErr (totalF l) (bLs c t l) = 0 := by
    refine lines_no fun i hi => ?_
    unfold lnErrAt
    rw [List.getElem?_eq_getElem hi]
    obtain ⟨m1, m2, m3, m4⟩ := mem_all h (mem_bLs (List.getElem_mem hi))
    show lnErr (totalF l) (prevL (bLs c t l) i) (bLs c t l)[i] = 0
    unfold lnErr
    rw [if_neg (by omega), if_neg (by omega), if_neg (by omega)]
    cases i with
    | zero => rfl
    | succ m =>
      have hm : m < (bLs c t l).length := by omega
      have := List.pairwise_iff_getElem.1 hs2 m (m + 1) hm hi (by omega)
      simp [prevL, List.getElem?_eq_getElem hm, this]
  unfold repErr
  simp only
  rw [if_neg (by omega), if_neg (by omega), if_neg (by rw [hln]; simp), if_neg (by simpa using hkn), if_neg (by omega), if_neg (by rw [hr, hr0]; simp)]
/-- The numbers of the built report fit. -/
theorem built_w (h : Few c lc t lv l w) {win : Int} (hw : 0 ≤ win ∧ win ≤ 1099511627776) {rej : List Int} (hr : ∀ n ∈ rej, W64 n) (vl vr : Value) :
    RepW ⟨win, totalF l, vl, bOver c t l, (keysF l).length, bRest c t l, vr, bLs c t l, rej⟩ := by
  have ht := (few_sum h).2
  have ht0 := (totalF_w h).1
  obtain ⟨hb0, hb1, _⟩ := bRest_bd (t := t) h
  have hk := keysF_few h
  obtain ⟨ho, ho2⟩ := bOver_eq (t := t) h
  have := (bLs_lo (t := t) h).1
  exact ⟨show I64 win from ⟨by omega, by omega⟩, totalF_w h, show W64 (bOver c t l) from ⟨ho2, by omega⟩, show I64 ((keysF l).length : Int) from ⟨by omega, by omega⟩, show W64 (bRest c t l) from ⟨by omega, by omega⟩, bLs_w h, hr⟩
/-- A key that is not listed weighs at most the rest. -/
theorem rest_law (h : Few c lc t lv l w) {k : ByteArray} (hn : ∀ x ∈ bLs c t l, x.key ≠ k) : (lineF c t l k).2 ≤ bRest c t l := by
  by_cases hk : k.data.toList ∈ keysL l
  · have h1 : k.data.toList ∈ keysF l := ((ascF_ok _).2 _).2 hk
    have e : bA k.data.toList = k := by unfold bA; simp
    have h2 : lnOf c t l k.data.toList ∈ sortLn (allF c t l) := (sortLn_perm _).mem_iff.2 (List.mem_map.2 ⟨_, h1, rfl⟩)
    rw [← List.take_append_drop (selN c.Top (allF c t l)) (sortLn (allF c t l)), List.mem_append] at h2
    rcases h2 with h2 | h2
    · exact absurd e (hn _ h2)
    · have := (hiMax_ge (bOm c t l) (restF c l)).2 _ h2
      have e2 : (lnOf c t l k.data.toList).hi = (lineF c t l k).2 := by show (lineF c t l (bA k.data.toList)).2 = _; rw [e]
      rw [e2] at this
      exact this
  · exact Int.le_trans (line_rest h hk).2 (hiMax_ge (bOm c t l) (restF c l)).1
end
end Go.Proofs.Ytiagjiaahnkefaa
