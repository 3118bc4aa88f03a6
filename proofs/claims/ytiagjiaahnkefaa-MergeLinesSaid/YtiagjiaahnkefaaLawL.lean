/- The walk of the law MergeLines. -/
import Derived.Test.YtiagjiaahnkefaaRall
import Derived.Test.YtiagjiaahnkefaaLawP
namespace Go.Proofs.Ytiagjiaahnkefaa
open Go.RowKit
attribute [local go_sem ↓] exec_load_cfg
attribute [local go_sem] run_loadCfgS

theorem SumsRd.dropS {w : World} {g off cap : Nat} {l : List Summ} (h : SumsRd w (.slice (some ⟨g, off, none⟩) l.length cap) l) {k : Nat} (hk : k ≤ l.length) (hcap : l.length ≤ cap) (c : Nat) :
    SumsRd w (.slice (if cap = k then some ⟨g, off, none⟩ else some ⟨g, off + k * 4, none⟩) (l.length - k) c) (l.drop k) :=
  ⟨h.rd.dropS sumF_len hk hcap c, fun s hs => h.all s (List.mem_of_mem_drop hs), fun s hs => h.wf s (List.mem_of_mem_drop hs)⟩
theorem SumsOk.drop {l : List Summ} (h : SumsOk l) (k : Nat) : SumsOk (l.drop k) := ⟨fun s hs => h.wf s (List.mem_of_mem_drop hs), fun s hs => h.rows s (List.mem_of_mem_drop hs), fun s hs => h.len s (List.mem_of_mem_drop hs)⟩
theorem ln_same (k : ByteArray) (lo hi : Int) (w : World) : (Op.equalIn 10000 71 (.agg #[.string k, .int .u64 lo, .int .u64 hi]) (.agg #[.string k, .int .u64 lo, .int .u64 hi])).run Try.prog w = .ok true w := same_line ⟨k, lo, hi⟩ w

set_option maxHeartbeats 1600000 in
set_option maxRecDepth 100000 in
theorem lines_w (sv pv : Value) (xs P : List Int) (n : Nat) (key : ByteArray) (w : World) (hsv : Rd w 1 sv n (xs.map (fun x => Value.int .i64 x))) (hpv : RdL intF 1 w pv P) :
    Calls Try.prog 10 #[sv, pv, .string key] w (RetBool true w) := by
  have HS := Lib.hid hsv
  have HP := Lib.hid hpv
  obtain ⟨sa, sc, rfl⟩ := hsv.shape
  obtain ⟨pa, pc, rfl⟩ := hpv.shape
  clear hsv hpv
  by_cases hk : 300 < key.size
  · go_enter Try.func10, Try.ntmps10
    go_wp2_with (go_at_call 27; refine (awake_c _).mono ?_; rintro e w6 ⟨rfl, G6⟩)
    go_ret
    exact retBool rfl G6
  · have hk2 : (key.size : Int) ≤ 300 := by omega
    go_enter Try.func10, Try.ntmps10
    go_upto_region 6 with (first | (go_at_call 28; refine (new_c _ _ _ _ HS.out).mono ?_; rintro e w1 ⟨rfl, D1, G1⟩) | (go_at_call 29; refine (config2_c _ _ D1 (Nat.le_refl _)).mono ?_; rintro e w2 ⟨c, lc, t, rfl, N2, M2, D2, G2, T2, C2⟩; have z12 := G2.size; replace G2 := grownBy_new G1 G2 (Nat.le_refl _); have oc1 := M2.one1; have oc2 := M2.one2) | (refine alloc_cfg rfl rfl ?_; intro w3 B3 G3 z3) | (refine store_cfg rfl _ _ rfl _ rfl c rfl oc1 oc2 Cfg.zero (by assumption) ?_; intro w4 B4 G4; have D4 := D2.kept (grownBy_new G3 G4 (Nat.le_refl _)) (by simp); have M4 := M2.same (grownBy_new G3 G4 (Nat.le_refl _)); have z14 := Nat.le_trans z12 (grownBy_new G3 G4 (Nat.le_refl _)).size; replace G4 := grownBy_new (grownBy_trans G2 G3) G4 G2.size) | (refine load_cfg rfl _ rfl _ rfl c (by assumption) ?_) | (go_at_call 30; refine (dsums_c _ c _ D4 z14 ⟨N2.shards.1, by have := N2.shards.2; omega⟩ ⟨by have := N2.depth.1; omega, by have := N2.depth.2; omega⟩ ⟨by have := N2.width.1; omega, by have := N2.width.2; omega⟩).mono ?_; rintro e w5 ⟨lv, l, rfl, S5, hl5, D5, G5⟩; have F5 : Few c lc t lv l w5 := ⟨N2, M4.off G5 (fun k e => by cases e; exact D1.below) T2 C2, S5.rd, fun s hs => (S5.all s hs).2.2.1, hl5⟩; have B5 := B4.kept G5 (by have := D1.below; simp; omega); have K5 := grownBy_new G4 G5 (Nat.le_refl _)))
    have hlen := F5.len
    have hsh := F5.nums.shards
    have hl1 : 1 ≤ l.length := by omega
    obtain ⟨gl, ol, cl, hv, hgl, hcs⟩ := F5.sums.at_ (show 0 < l.length by omega)
    subst hv
    have HF := Lib.hid F5
    have P5 := Lib.hid (RdL.same HP.out K5)
    have hcl : l.length ≤ cl := (S5.own).cap
    clear hgl hcs S5 hl5 D5 G5 F5 B4 D4 M4 z14 G4 oc1 oc2 B3 G3 z3 M2 D2 T2 C2 z12 G2 D1 G1 N2 HS HP
    generalize w2.heap.size = cb at *
    have kf := Lib.hid (keysL_few HF.out)
    have C1 := Lib.hid fun w' (h : World.grownBy w5 w' none) => line_c c t _ l key _ P w' (HF.out.same h).rcfg (HF.out.same h).sums HF.out.ok (RdL.same P5.out h) (by omega)
    have C2 := Lib.hid fun w' (h : World.grownBy w5 w' none) => rline_c c t _ l key w' (HF.out.same h).rcfg (HF.out.same h).sums HF.out.ok (by omega)
    have C3 := Lib.hid fun w' (h : World.grownBy w5 w' none) => line_c c t _ l ⟨#[99]⟩ _ P w' (HF.out.same h).rcfg (HF.out.same h).sums HF.out.ok (RdL.same P5.out h) (by show (1 : Nat) ≤ _; omega)
    have C4 := Lib.hid fun w' (h : World.grownBy w5 w' none) => rline_c c t _ l ⟨#[99]⟩ w' (HF.out.same h).rcfg (HF.out.same h).sums HF.out.ok (by show (1 : Nat) ≤ _; omega)
    have S5 := Lib.hid fun w' (h : World.grownBy w5 w' none) => (HF.out.same h).sums.dropS hl1 hcl (cl - 1)
    have C5g := Lib.hid fun A nn cc (hs : ∀ w', World.grownBy w5 w' none → SumsRd w' (.slice A nn cc) (l.drop 1)) w' (h : World.grownBy w5 w' none) => line_c c t _ (l.drop 1) ⟨#[99]⟩ _ P w' (HF.out.same h).rcfg (hs w' h) (HF.out.ok.drop 1) (RdL.same P5.out h) (by show (1 : Nat) ≤ _; omega)
    have C6g := Lib.hid fun A nn cc (hs : ∀ w', World.grownBy w5 w' none → SumsRd w' (.slice A nn cc) (l.drop 1)) w' (h : World.grownBy w5 w' none) => rline_c c t _ (l.drop 1) ⟨#[99]⟩ w' (HF.out.same h).rcfg (hs w' h) (HF.out.ok.drop 1) (by show (1 : Nat) ≤ _; omega)
    have C7 := Lib.hid fun w' (h : World.grownBy w5 w' none) => mall_c c t _ l _ P w' (HF.out.same h).rcfg (HF.out.same h).sums HF.out.ok (by have := kf.out; omega) (key_few HF.out) (RdL.same P5.out h)
    have C8 := Lib.hid fun w' (h : World.grownBy w5 w' none) => rall_c c t _ l w' (HF.out.same h).rcfg (HF.out.same h).sums HF.out.ok (by have := kf.out; omega) (key_few HF.out)
    have C9 := Lib.hid fun w' (h : World.grownBy w5 w' none) => awake_c w'
    clear HF P5 kf
    generalize allF c t l = AL at *
    generalize (lineF c t l key).1 = lo1 at *
    generalize (lineF c t l key).2 = hi1 at *
    generalize (lineF c t l ⟨#[99]⟩).1 = lo2 at *
    generalize (lineF c t l ⟨#[99]⟩).2 = hi2 at *
    generalize (lineF c t (l.drop 1) ⟨#[99]⟩).1 = lo3 at *
    generalize (lineF c t (l.drop 1) ⟨#[99]⟩).2 = hi3 at *
    have s0 := guard_line
    have s1 := fun w => ln_same key lo1 hi1 w
    have s2 := fun w => ln_same ⟨#[99]⟩ lo2 hi2 w
    have s3 := fun w => ln_same ⟨#[99]⟩ lo3 hi3 w
    have hl0 : (1 : Int) ≤ (l.length : Int) := by omega
    have hl2 : (l.length : Int) ≤ (cl : Int) := by omega
    have B6 := B5.same (w' := w5.drew) (by (repeat (first | exact grownBy_refl _ _ | assumption | refine grownBy_new_block ?_ _ | refine grownBy_drew ?_ | refine grownBy_drewN ?_ _ | refine grownBy_setNew ?_ (by first | (simp; done) | omega | (simp; omega)) _)))
    have K6 : World.grownBy w5 w5.drew none := (by (repeat (first | exact grownBy_refl _ _ | assumption | refine grownBy_new_block ?_ _ | refine grownBy_drew ?_ | refine grownBy_drewN ?_ _ | refine grownBy_setNew ?_ (by first | (simp; done) | omega | (simp; omega)) _)))
    by_cases hc1 : cl = 1
    · subst hc1
      have C5 := Lib.hid (C5g.out (some ⟨gl, ol, none⟩) 0 0 (fun w' h => by have := S5.out w' h; rw [if_pos rfl, show l.length - 1 = 0 by omega] at this; exact this))
      have C6 := Lib.hid (C6g.out (some ⟨gl, ol, none⟩) 0 0 (fun w' h => by have := S5.out w' h; rw [if_pos rfl, show l.length - 1 = 0 by omega] at this; exact this))
      clear C5g C6g S5
      (refine Rg.wp_region_rgZ 45 #[] (fun w w' => World.grownBy w w' none) (fun k _ w v w' => match k with | 4 => v = lineV key lo1 hi1 ∧ World.grownBy w w' none | 8 => v = lineV key lo1 hi1 ∧ World.grownBy w w' none | 14 => v = lineV ⟨#[99]⟩ lo2 hi2 ∧ World.grownBy w w' none | 17 => v = lineV ⟨#[99]⟩ lo2 hi2 ∧ World.grownBy w w' none | 25 => v = lineV ⟨#[99]⟩ lo3 hi3 ∧ World.grownBy w w' none | 29 => v = lineV ⟨#[99]⟩ lo3 hi3 ∧ World.grownBy w w' none | 36 => RdL lnF 3 w' v AL ∧ World.grownBy w w' none | 39 => RdL lnF 3 w' v AL ∧ World.grownBy w w' none | 40 => v = .bool true ∧ World.grownBy w w' none | 43 => v = .bool true ∧ World.grownBy w w' none | _ => False) (by kernel_rfl) (by kernel_rfl) (fun w => grownBy_refl w none) (fun _ _ _ h k => grownBy_trans h k) (fun _ _ _ _ _ h => h) ?_; simp only [List.take, List.drop])
      generalize w5.drew = w6 at *
      ((refine Rg.tree_op rfl rfl ?_; intro x0 mx0 dx0); clear dx0; have BX := B6.same mx0; go_wp2_with (refine load_cfg rfl _ rfl _ rfl c (by assumption) ?_); refine ⟨grownBy_refl _ _, ?_⟩; clear BX)
      (refine Rg.tree_quiet 3 rfl (by first | exact Or.inl rfl | exact Or.inr rfl) ?_; simp only [List.take, List.drop, List.length_cons, List.length_nil, List.replicate, Nat.reduceAdd]; (try simp only [List.cons_append]); (try simp only [List.nil_append]); (repeat (go_big_quiet_step (fail))); refine wpQuiet_nil ?_)
      ((refine Rg.tree_call rfl rfl rfl ?_; intro x4 mx4 dx4; refine ⟨?_, ?_⟩; · (unfold Rg.callSpec; go_simp; (refine (C1.out x4 (grownBy_trans K6 mx4)).mono ?_; rintro e w' ⟨rfl, g⟩; exact ⟨_, rfl, rfl, g⟩))); clear dx4; rintro v y ⟨rfl, g⟩; refine ⟨g, ?_⟩; clear g; simp only [Act.put, List.setIfInBounds_toArray, List.set_cons_zero, List.set_cons_succ])
      ((refine Rg.tree_op rfl rfl ?_; intro x5 mx5 dx5); clear dx5; have BX := B6.same mx5; go_wp2_with (refine load_cfg rfl _ rfl _ rfl c (by assumption) ?_); refine ⟨grownBy_refl _ _, ?_⟩; clear BX)
      (refine Rg.tree_quiet 2 rfl (by first | exact Or.inl rfl | exact Or.inr rfl) ?_; simp only [List.take, List.drop, List.length_cons, List.length_nil, List.replicate, Nat.reduceAdd]; (try simp only [List.cons_append]); (try simp only [List.nil_append]); (repeat (go_big_quiet_step (fail))); refine wpQuiet_nil ?_)
      ((refine Rg.tree_call rfl rfl rfl ?_; intro x8 mx8 dx8; refine ⟨?_, ?_⟩; · (unfold Rg.callSpec; go_simp; (refine (C2.out x8 (grownBy_trans K6 mx8)).mono ?_; rintro e w' ⟨rfl, g⟩; exact ⟨_, rfl, rfl, g⟩))); clear dx8; rintro v y ⟨rfl, g⟩; refine ⟨g, ?_⟩; clear g; simp only [Act.put, List.setIfInBounds_toArray, List.set_cons_zero, List.set_cons_succ])
      (refine Rg.tree_quiet 2 rfl (by first | exact Or.inl rfl | exact Or.inr rfl) ?_; simp only [List.take, List.drop, List.length_cons, List.length_nil, List.replicate, Nat.reduceAdd]; (try simp only [List.cons_append]); (try simp only [List.nil_append]); (repeat (go_big_quiet_step (fail))); refine wpQuiet_nil ?_)
      ((refine Rg.tree_op rfl rfl ?_; intro x11 mx11 dx11); clear dx11; have BX := B6.same mx11; go_wp2_with (refine load_cfg_if rfl _ rfl _ rfl c (by assumption) ?_); refine ⟨grownBy_refl _ _, ?_⟩; clear BX)
      (refine Rg.tree_quiet 2 rfl (by first | exact Or.inl rfl | exact Or.inr rfl) ?_; simp only [List.take, List.drop, List.length_cons, List.length_nil, List.replicate, Nat.reduceAdd]; (try simp only [List.cons_append]); (try simp only [List.nil_append]); (repeat (go_big_quiet_step (fail))); refine wpQuiet_nil ?_)
      ((refine Rg.tree_callG rfl rfl rfl ?_; intro x14 mx14 dx14; refine ⟨?_, ?_⟩; · (unfold Rg.callSpec; go_simp; (refine (C3.out x14 (grownBy_trans K6 mx14)).mono ?_; rintro e w' ⟨rfl, g⟩; exact ⟨_, rfl, rfl, g⟩))); clear dx14; rintro v y ⟨rfl, g⟩; refine ⟨g, ?_⟩; clear g; simp only [Act.put, List.setIfInBounds_toArray, List.set_cons_zero, List.set_cons_succ])
      ((refine Rg.tree_op rfl rfl ?_; intro x15 mx15 dx15); clear dx15; have BX := B6.same mx15; go_wp2_with (refine load_cfg_if rfl _ rfl _ rfl c (by assumption) ?_); refine ⟨grownBy_refl _ _, ?_⟩; clear BX)
      (refine Rg.tree_quiet 1 rfl (by first | exact Or.inl rfl | exact Or.inr rfl) ?_; simp only [List.take, List.drop, List.length_cons, List.length_nil, List.replicate, Nat.reduceAdd]; (try simp only [List.cons_append]); (try simp only [List.nil_append]); (repeat (go_big_quiet_step (fail))); refine wpQuiet_nil ?_)
      ((refine Rg.tree_callG rfl rfl rfl ?_; intro x17 mx17 dx17; refine ⟨?_, ?_⟩; · (unfold Rg.callSpec; go_simp; (refine (C4.out x17 (grownBy_trans K6 mx17)).mono ?_; rintro e w' ⟨rfl, g⟩; exact ⟨_, rfl, rfl, g⟩))); clear dx17; rintro v y ⟨rfl, g⟩; refine ⟨g, ?_⟩; clear g; simp only [Act.put, List.setIfInBounds_toArray, List.set_cons_zero, List.set_cons_succ])
      (refine Rg.tree_quiet 3 rfl (by first | exact Or.inl rfl | exact Or.inr rfl) ?_; simp only [List.take, List.drop, List.length_cons, List.length_nil, List.replicate, Nat.reduceAdd]; (try simp only [List.cons_append]); (try simp only [List.nil_append]); (repeat (go_big_quiet_step (fail))); refine wpQuiet_nil ?_)
      ((refine Rg.tree_op rfl rfl ?_; intro x21 mx21 dx21); clear dx21; have BX := B6.same mx21; go_wp2_with (refine load_cfg_if rfl _ rfl _ rfl c (by assumption) ?_); refine ⟨grownBy_refl _ _, ?_⟩; clear BX)
      (refine Rg.tree_quiet 3 rfl (by first | exact Or.inl rfl | exact Or.inr rfl) ?_; simp only [List.take, List.drop, List.length_cons, List.length_nil, List.replicate, Nat.reduceAdd]; (try simp only [List.cons_append]); (try simp only [List.nil_append]); (repeat (go_big_quiet_step (fail))); refine wpQuiet_nil ?_)
      ((refine Rg.tree_callG rfl rfl rfl ?_; intro x25 mx25 dx25; refine ⟨?_, ?_⟩; · (unfold Rg.callSpec; go_simp; (refine (C5.out x25 (grownBy_trans K6 mx25)).mono ?_; rintro e w' ⟨rfl, g⟩; exact ⟨_, rfl, rfl, g⟩))); clear dx25; rintro v y ⟨rfl, g⟩; refine ⟨g, ?_⟩; clear g; simp only [Act.put, List.setIfInBounds_toArray, List.set_cons_zero, List.set_cons_succ])
      ((refine Rg.tree_op rfl rfl ?_; intro x26 mx26 dx26); clear dx26; have BX := B6.same mx26; go_wp2_with (refine load_cfg_if rfl _ rfl _ rfl c (by assumption) ?_); refine ⟨grownBy_refl _ _, ?_⟩; clear BX)
      (refine Rg.tree_quiet 2 rfl (by first | exact Or.inl rfl | exact Or.inr rfl) ?_; simp only [List.take, List.drop, List.length_cons, List.length_nil, List.replicate, Nat.reduceAdd]; (try simp only [List.cons_append]); (try simp only [List.nil_append]); (repeat (go_big_quiet_step (fail))); refine wpQuiet_nil ?_)
      ((refine Rg.tree_callG rfl rfl rfl ?_; intro x29 mx29 dx29; refine ⟨?_, ?_⟩; · (unfold Rg.callSpec; go_simp; (refine (C6.out x29 (grownBy_trans K6 mx29)).mono ?_; rintro e w' ⟨rfl, g⟩; exact ⟨_, rfl, rfl, g⟩))); clear dx29; rintro v y ⟨rfl, g⟩; refine ⟨g, ?_⟩; clear g; simp only [Act.put, List.setIfInBounds_toArray, List.set_cons_zero, List.set_cons_succ])
      (refine Rg.tree_quiet 3 rfl (by first | exact Or.inl rfl | exact Or.inr rfl) ?_; simp only [List.take, List.drop, List.length_cons, List.length_nil, List.replicate, Nat.reduceAdd]; (try simp only [List.cons_append]); (try simp only [List.nil_append]); (repeat (go_big_quiet_step (fail))); refine wpQuiet_nil ?_)
      ((refine Rg.tree_op rfl rfl ?_; intro x33 mx33 dx33); clear dx33; have BX := B6.same mx33; go_wp2_with (refine load_cfg_if rfl _ rfl _ rfl c (by assumption) ?_); refine ⟨grownBy_refl _ _, ?_⟩; clear BX)
      (refine Rg.tree_quiet 2 rfl (by first | exact Or.inl rfl | exact Or.inr rfl) ?_; simp only [List.take, List.drop, List.length_cons, List.length_nil, List.replicate, Nat.reduceAdd]; (try simp only [List.cons_append]); (try simp only [List.nil_append]); (repeat (go_big_quiet_step (fail))); refine wpQuiet_nil ?_)
      (refine Rg.tree_callG rfl rfl rfl ?_; intro x36 mx36 dx36; refine ⟨?_, ?_⟩; · (unfold Rg.callSpec; go_simp; (refine (C7.out x36 (grownBy_trans K6 mx36)).mono ?_; rintro e w' ⟨v, rfl, o, g⟩; exact ⟨v, rfl, o.rd, g⟩)))
      clear dx36
      rintro v36 y36 ⟨R36, g36⟩
      refine ⟨g36, ?_⟩
      simp only [Act.put, List.setIfInBounds_toArray, List.set_cons_zero, List.set_cons_succ]
      ((refine Rg.tree_op rfl rfl ?_; intro x37 mx37 dx37); clear dx37; have BX := B6.same mx37; go_wp2_with (refine load_cfg_if rfl _ rfl _ rfl c (by assumption) ?_); refine ⟨grownBy_refl _ _, ?_⟩; clear BX)
      (refine Rg.tree_quiet 1 rfl (by first | exact Or.inl rfl | exact Or.inr rfl) ?_; simp only [List.take, List.drop, List.length_cons, List.length_nil, List.replicate, Nat.reduceAdd]; (try simp only [List.cons_append]); (try simp only [List.nil_append]); (repeat (go_big_quiet_step (fail))); refine wpQuiet_nil ?_)
      (refine Rg.tree_callG rfl rfl rfl ?_; intro x39 mx39 dx39; refine ⟨?_, ?_⟩; · (unfold Rg.callSpec; go_simp; (refine (C8.out x39 (grownBy_trans K6 mx39)).mono ?_; rintro e w' ⟨v, rfl, o, g⟩; exact ⟨v, rfl, o.rd, g⟩)))
      clear dx39
      rintro v39 y39 ⟨R39, g39⟩
      refine ⟨g39, ?_⟩
      simp only [Act.put, List.setIfInBounds_toArray, List.set_cons_zero, List.set_cons_succ]
      (refine Rg.tree_callG rfl rfl rfl ?_; intro x40 mx40 dx40; refine ⟨?_, ?_⟩; · (unfold Rg.callSpec; go_simp; (refine (sameLines_c v36 v39 AL x40 (RdL.same R36 (dx40.out 36 (by omega) (by kernel_rfl))) (RdL.same R39 (dx40.out 39 (by omega) (by kernel_rfl)))).mono ?_; rintro e w' ⟨rfl, g⟩; exact ⟨_, rfl, rfl, g⟩)))
      clear dx40
      rintro v40 y40 ⟨rfl, g40⟩
      refine ⟨g40, ?_⟩
      simp only [Act.put, List.setIfInBounds_toArray, List.set_cons_zero, List.set_cons_succ]
      (refine Rg.tree_quiet 2 rfl (by first | exact Or.inl rfl | exact Or.inr rfl) ?_; simp only [List.take, List.drop, List.length_cons, List.length_nil, List.replicate, Nat.reduceAdd]; (try simp only [List.cons_append]); (try simp only [List.nil_append]); (repeat (go_big_quiet_step (fail))); refine wpQuiet_nil ?_)
      ((refine Rg.tree_callG rfl rfl rfl ?_; intro x43 mx43 dx43; refine ⟨?_, ?_⟩; · (unfold Rg.callSpec; go_simp; (refine (C9.out x43 (grownBy_trans K6 mx43)).mono ?_; rintro e w' ⟨rfl, g⟩; exact ⟨_, rfl, rfl, g⟩))); clear dx43; rintro v y ⟨rfl, g⟩; refine ⟨g, ?_⟩; clear g; simp only [Act.put, List.setIfInBounds_toArray, List.set_cons_zero, List.set_cons_succ])
      (refine Rg.tree_quiet 1 rfl (by first | exact Or.inl rfl | exact Or.inr rfl) ?_; simp only [List.take, List.drop, List.length_cons, List.length_nil, List.replicate, Nat.reduceAdd]; (try simp only [List.cons_append]); (try simp only [List.nil_append]); (repeat (go_big_quiet_step (fail))); refine wpQuiet_nil ?_)
      (refine Rg.tree_nil ?_; intro xz mxz dxz cxz)
      have KZ := grownBy_trans K5 (grownBy_trans K6 mxz)
      clear dxz cxz B6 B5
      go_wp2_with fail
      go_ret
      exact retBool rfl KZ
    · have C5 := Lib.hid (C5g.out (some ⟨gl, ol + 4, none⟩) (l.length - 1) (cl - 1) (fun w' h => by have := S5.out w' h; rw [if_neg hc1] at this; exact this))
      have C6 := Lib.hid (C6g.out (some ⟨gl, ol + 4, none⟩) (l.length - 1) (cl - 1) (fun w' h => by have := S5.out w' h; rw [if_neg hc1] at this; exact this))
      clear C5g C6g S5
      (refine Rg.wp_region_rgZ 45 #[] (fun w w' => World.grownBy w w' none) (fun k _ w v w' => match k with | 4 => v = lineV key lo1 hi1 ∧ World.grownBy w w' none | 8 => v = lineV key lo1 hi1 ∧ World.grownBy w w' none | 14 => v = lineV ⟨#[99]⟩ lo2 hi2 ∧ World.grownBy w w' none | 17 => v = lineV ⟨#[99]⟩ lo2 hi2 ∧ World.grownBy w w' none | 25 => v = lineV ⟨#[99]⟩ lo3 hi3 ∧ World.grownBy w w' none | 29 => v = lineV ⟨#[99]⟩ lo3 hi3 ∧ World.grownBy w w' none | 36 => RdL lnF 3 w' v AL ∧ World.grownBy w w' none | 39 => RdL lnF 3 w' v AL ∧ World.grownBy w w' none | 40 => v = .bool true ∧ World.grownBy w w' none | 43 => v = .bool true ∧ World.grownBy w w' none | _ => False) (by kernel_rfl) (by kernel_rfl) (fun w => grownBy_refl w none) (fun _ _ _ h k => grownBy_trans h k) (fun _ _ _ _ _ h => h) ?_; simp only [List.take, List.drop])
      generalize w5.drew = w6 at *
      ((refine Rg.tree_op rfl rfl ?_; intro x0 mx0 dx0); clear dx0; have BX := B6.same mx0; go_wp2_with (refine load_cfg rfl _ rfl _ rfl c (by assumption) ?_); refine ⟨grownBy_refl _ _, ?_⟩; clear BX)
      (refine Rg.tree_quiet 3 rfl (by first | exact Or.inl rfl | exact Or.inr rfl) ?_; simp only [List.take, List.drop, List.length_cons, List.length_nil, List.replicate, Nat.reduceAdd]; (try simp only [List.cons_append]); (try simp only [List.nil_append]); (repeat (go_big_quiet_step (fail))); refine wpQuiet_nil ?_)
      ((refine Rg.tree_call rfl rfl rfl ?_; intro x4 mx4 dx4; refine ⟨?_, ?_⟩; · (unfold Rg.callSpec; go_simp; (refine (C1.out x4 (grownBy_trans K6 mx4)).mono ?_; rintro e w' ⟨rfl, g⟩; exact ⟨_, rfl, rfl, g⟩))); clear dx4; rintro v y ⟨rfl, g⟩; refine ⟨g, ?_⟩; clear g; simp only [Act.put, List.setIfInBounds_toArray, List.set_cons_zero, List.set_cons_succ])
      ((refine Rg.tree_op rfl rfl ?_; intro x5 mx5 dx5); clear dx5; have BX := B6.same mx5; go_wp2_with (refine load_cfg rfl _ rfl _ rfl c (by assumption) ?_); refine ⟨grownBy_refl _ _, ?_⟩; clear BX)
      (refine Rg.tree_quiet 2 rfl (by first | exact Or.inl rfl | exact Or.inr rfl) ?_; simp only [List.take, List.drop, List.length_cons, List.length_nil, List.replicate, Nat.reduceAdd]; (try simp only [List.cons_append]); (try simp only [List.nil_append]); (repeat (go_big_quiet_step (fail))); refine wpQuiet_nil ?_)
      ((refine Rg.tree_call rfl rfl rfl ?_; intro x8 mx8 dx8; refine ⟨?_, ?_⟩; · (unfold Rg.callSpec; go_simp; (refine (C2.out x8 (grownBy_trans K6 mx8)).mono ?_; rintro e w' ⟨rfl, g⟩; exact ⟨_, rfl, rfl, g⟩))); clear dx8; rintro v y ⟨rfl, g⟩; refine ⟨g, ?_⟩; clear g; simp only [Act.put, List.setIfInBounds_toArray, List.set_cons_zero, List.set_cons_succ])
      (refine Rg.tree_quiet 2 rfl (by first | exact Or.inl rfl | exact Or.inr rfl) ?_; simp only [List.take, List.drop, List.length_cons, List.length_nil, List.replicate, Nat.reduceAdd]; (try simp only [List.cons_append]); (try simp only [List.nil_append]); (repeat (go_big_quiet_step (fail))); refine wpQuiet_nil ?_)
      ((refine Rg.tree_op rfl rfl ?_; intro x11 mx11 dx11); clear dx11; have BX := B6.same mx11; go_wp2_with (refine load_cfg_if rfl _ rfl _ rfl c (by assumption) ?_); refine ⟨grownBy_refl _ _, ?_⟩; clear BX)
      (refine Rg.tree_quiet 2 rfl (by first | exact Or.inl rfl | exact Or.inr rfl) ?_; simp only [List.take, List.drop, List.length_cons, List.length_nil, List.replicate, Nat.reduceAdd]; (try simp only [List.cons_append]); (try simp only [List.nil_append]); (repeat (go_big_quiet_step (fail))); refine wpQuiet_nil ?_)
      ((refine Rg.tree_callG rfl rfl rfl ?_; intro x14 mx14 dx14; refine ⟨?_, ?_⟩; · (unfold Rg.callSpec; go_simp; (refine (C3.out x14 (grownBy_trans K6 mx14)).mono ?_; rintro e w' ⟨rfl, g⟩; exact ⟨_, rfl, rfl, g⟩))); clear dx14; rintro v y ⟨rfl, g⟩; refine ⟨g, ?_⟩; clear g; simp only [Act.put, List.setIfInBounds_toArray, List.set_cons_zero, List.set_cons_succ])
      ((refine Rg.tree_op rfl rfl ?_; intro x15 mx15 dx15); clear dx15; have BX := B6.same mx15; go_wp2_with (refine load_cfg_if rfl _ rfl _ rfl c (by assumption) ?_); refine ⟨grownBy_refl _ _, ?_⟩; clear BX)
      (refine Rg.tree_quiet 1 rfl (by first | exact Or.inl rfl | exact Or.inr rfl) ?_; simp only [List.take, List.drop, List.length_cons, List.length_nil, List.replicate, Nat.reduceAdd]; (try simp only [List.cons_append]); (try simp only [List.nil_append]); (repeat (go_big_quiet_step (fail))); refine wpQuiet_nil ?_)
      ((refine Rg.tree_callG rfl rfl rfl ?_; intro x17 mx17 dx17; refine ⟨?_, ?_⟩; · (unfold Rg.callSpec; go_simp; (refine (C4.out x17 (grownBy_trans K6 mx17)).mono ?_; rintro e w' ⟨rfl, g⟩; exact ⟨_, rfl, rfl, g⟩))); clear dx17; rintro v y ⟨rfl, g⟩; refine ⟨g, ?_⟩; clear g; simp only [Act.put, List.setIfInBounds_toArray, List.set_cons_zero, List.set_cons_succ])
      (refine Rg.tree_quiet 3 rfl (by first | exact Or.inl rfl | exact Or.inr rfl) ?_; simp only [List.take, List.drop, List.length_cons, List.length_nil, List.replicate, Nat.reduceAdd]; (try simp only [List.cons_append]); (try simp only [List.nil_append]); (repeat (go_big_quiet_step (fail))); refine wpQuiet_nil ?_)
      ((refine Rg.tree_op rfl rfl ?_; intro x21 mx21 dx21); clear dx21; have BX := B6.same mx21; go_wp2_with (refine load_cfg_if rfl _ rfl _ rfl c (by assumption) ?_); refine ⟨grownBy_refl _ _, ?_⟩; clear BX)
      (refine Rg.tree_quiet 3 rfl (by first | exact Or.inl rfl | exact Or.inr rfl) ?_; simp only [List.take, List.drop, List.length_cons, List.length_nil, List.replicate, Nat.reduceAdd]; (try simp only [List.cons_append]); (try simp only [List.nil_append]); (repeat (go_big_quiet_step (fail))); refine wpQuiet_nil ?_)
      ((refine Rg.tree_callG rfl rfl rfl ?_; intro x25 mx25 dx25; refine ⟨?_, ?_⟩; · (unfold Rg.callSpec; go_simp; (refine (C5.out x25 (grownBy_trans K6 mx25)).mono ?_; rintro e w' ⟨rfl, g⟩; exact ⟨_, rfl, rfl, g⟩))); clear dx25; rintro v y ⟨rfl, g⟩; refine ⟨g, ?_⟩; clear g; simp only [Act.put, List.setIfInBounds_toArray, List.set_cons_zero, List.set_cons_succ])
      ((refine Rg.tree_op rfl rfl ?_; intro x26 mx26 dx26); clear dx26; have BX := B6.same mx26; go_wp2_with (refine load_cfg_if rfl _ rfl _ rfl c (by assumption) ?_); refine ⟨grownBy_refl _ _, ?_⟩; clear BX)
      (refine Rg.tree_quiet 2 rfl (by first | exact Or.inl rfl | exact Or.inr rfl) ?_; simp only [List.take, List.drop, List.length_cons, List.length_nil, List.replicate, Nat.reduceAdd]; (try simp only [List.cons_append]); (try simp only [List.nil_append]); (repeat (go_big_quiet_step (fail))); refine wpQuiet_nil ?_)
      ((refine Rg.tree_callG rfl rfl rfl ?_; intro x29 mx29 dx29; refine ⟨?_, ?_⟩; · (unfold Rg.callSpec; go_simp; (refine (C6.out x29 (grownBy_trans K6 mx29)).mono ?_; rintro e w' ⟨rfl, g⟩; exact ⟨_, rfl, rfl, g⟩))); clear dx29; rintro v y ⟨rfl, g⟩; refine ⟨g, ?_⟩; clear g; simp only [Act.put, List.setIfInBounds_toArray, List.set_cons_zero, List.set_cons_succ])
      (refine Rg.tree_quiet 3 rfl (by first | exact Or.inl rfl | exact Or.inr rfl) ?_; simp only [List.take, List.drop, List.length_cons, List.length_nil, List.replicate, Nat.reduceAdd]; (try simp only [List.cons_append]); (try simp only [List.nil_append]); (repeat (go_big_quiet_step (fail))); refine wpQuiet_nil ?_)
      ((refine Rg.tree_op rfl rfl ?_; intro x33 mx33 dx33); clear dx33; have BX := B6.same mx33; go_wp2_with (refine load_cfg_if rfl _ rfl _ rfl c (by assumption) ?_); refine ⟨grownBy_refl _ _, ?_⟩; clear BX)
      (refine Rg.tree_quiet 2 rfl (by first | exact Or.inl rfl | exact Or.inr rfl) ?_; simp only [List.take, List.drop, List.length_cons, List.length_nil, List.replicate, Nat.reduceAdd]; (try simp only [List.cons_append]); (try simp only [List.nil_append]); (repeat (go_big_quiet_step (fail))); refine wpQuiet_nil ?_)
      (refine Rg.tree_callG rfl rfl rfl ?_; intro x36 mx36 dx36; refine ⟨?_, ?_⟩; · (unfold Rg.callSpec; go_simp; (refine (C7.out x36 (grownBy_trans K6 mx36)).mono ?_; rintro e w' ⟨v, rfl, o, g⟩; exact ⟨v, rfl, o.rd, g⟩)))
      clear dx36
      rintro v36 y36 ⟨R36, g36⟩
      refine ⟨g36, ?_⟩
      simp only [Act.put, List.setIfInBounds_toArray, List.set_cons_zero, List.set_cons_succ]
      ((refine Rg.tree_op rfl rfl ?_; intro x37 mx37 dx37); clear dx37; have BX := B6.same mx37; go_wp2_with (refine load_cfg_if rfl _ rfl _ rfl c (by assumption) ?_); refine ⟨grownBy_refl _ _, ?_⟩; clear BX)
      (refine Rg.tree_quiet 1 rfl (by first | exact Or.inl rfl | exact Or.inr rfl) ?_; simp only [List.take, List.drop, List.length_cons, List.length_nil, List.replicate, Nat.reduceAdd]; (try simp only [List.cons_append]); (try simp only [List.nil_append]); (repeat (go_big_quiet_step (fail))); refine wpQuiet_nil ?_)
      (refine Rg.tree_callG rfl rfl rfl ?_; intro x39 mx39 dx39; refine ⟨?_, ?_⟩; · (unfold Rg.callSpec; go_simp; (refine (C8.out x39 (grownBy_trans K6 mx39)).mono ?_; rintro e w' ⟨v, rfl, o, g⟩; exact ⟨v, rfl, o.rd, g⟩)))
      clear dx39
      rintro v39 y39 ⟨R39, g39⟩
      refine ⟨g39, ?_⟩
      simp only [Act.put, List.setIfInBounds_toArray, List.set_cons_zero, List.set_cons_succ]
      (refine Rg.tree_callG rfl rfl rfl ?_; intro x40 mx40 dx40; refine ⟨?_, ?_⟩; · (unfold Rg.callSpec; go_simp; (refine (sameLines_c v36 v39 AL x40 (RdL.same R36 (dx40.out 36 (by omega) (by kernel_rfl))) (RdL.same R39 (dx40.out 39 (by omega) (by kernel_rfl)))).mono ?_; rintro e w' ⟨rfl, g⟩; exact ⟨_, rfl, rfl, g⟩)))
      clear dx40
      rintro v40 y40 ⟨rfl, g40⟩
      refine ⟨g40, ?_⟩
      simp only [Act.put, List.setIfInBounds_toArray, List.set_cons_zero, List.set_cons_succ]
      (refine Rg.tree_quiet 2 rfl (by first | exact Or.inl rfl | exact Or.inr rfl) ?_; simp only [List.take, List.drop, List.length_cons, List.length_nil, List.replicate, Nat.reduceAdd]; (try simp only [List.cons_append]); (try simp only [List.nil_append]); (repeat (go_big_quiet_step (fail))); refine wpQuiet_nil ?_)
      ((refine Rg.tree_callG rfl rfl rfl ?_; intro x43 mx43 dx43; refine ⟨?_, ?_⟩; · (unfold Rg.callSpec; go_simp; (refine (C9.out x43 (grownBy_trans K6 mx43)).mono ?_; rintro e w' ⟨rfl, g⟩; exact ⟨_, rfl, rfl, g⟩))); clear dx43; rintro v y ⟨rfl, g⟩; refine ⟨g, ?_⟩; clear g; simp only [Act.put, List.setIfInBounds_toArray, List.set_cons_zero, List.set_cons_succ])
      (refine Rg.tree_quiet 1 rfl (by first | exact Or.inl rfl | exact Or.inr rfl) ?_; simp only [List.take, List.drop, List.length_cons, List.length_nil, List.replicate, Nat.reduceAdd]; (try simp only [List.cons_append]); (try simp only [List.nil_append]); (repeat (go_big_quiet_step (fail))); refine wpQuiet_nil ?_)
      (refine Rg.tree_nil ?_; intro xz mxz dxz cxz)
      have KZ := grownBy_trans K5 (grownBy_trans K6 mxz)
      clear dxz cxz B6 B5
      go_wp2_with fail
      go_ret
      exact retBool rfl KZ
end Go.Proofs.Ytiagjiaahnkefaa
