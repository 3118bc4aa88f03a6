/- Bounds: sums, caps, of entries; the program's and the references'. -/
import Derived.Test.YtiagjiaahnkefaaSat
import Derived.WalkLawsBesides
import Derived.Test.YtiagjiaahnkefaaTail
import Derived.Deep.RegionHeld3
import Derived.Lib.QuietBelow
namespace Go.Proofs.Ytiagjiaahnkefaa
open Go.RowKit

abbrev bndV (lo hi : Int) : Value := .agg #[.int .u64 lo, .int .u64 hi]
abbrev entV (k : ByteArray) (own slack : Int) : Value := .agg #[.string k, .int .u64 own, .int .u64 slack]

theorem bOf_c (k : ByteArray) (own slack : Int) (w : World) (h1 : W64 own) (h2 : W64 slack) : Calls Try.prog 75 #[entV k own slack] w (RetVal (bndV own (satA own slack)) w) := by
  go_enter Try.func75, Try.ntmps75
  go_wp2_with (go_at_call 52; refine (satAdd_c own slack _ h1 h2).mono ?_; rintro e w' ⟨rfl, rfl⟩)
  refine bodyPost_ret (v := bndV own (satA own slack)) (by simp [results, Try.results75, go_sem]) rfl ?_
  exact retVal rfl (by (repeat (first | exact grownBy_refl _ _ | assumption | refine grownBy_new_block ?_ _ | refine grownBy_drew ?_ | refine grownBy_drewN ?_ _ | refine grownBy_setNew ?_ (by first | (simp; done) | omega | (simp; omega)) _)))

theorem rOf_c (k : ByteArray) (own slack : Int) (w : World) (h1 : W64 own) (h2 : W64 slack) : Calls Try.prog 116 #[entV k own slack] w (RetVal (bndV own (satA own slack)) w) := by
  go_enter Try.func116, Try.ntmps116
  go_wp2_with fail
  (refine Tail.wp_region_tail_drawn 8 (by kernel_rfl) (by kernel_rfl) ?_; simp only [List.take, List.drop]; (repeat (go_big_quiet_step ((go_at_call 84; exact Calls.quiet_of_same ((rsum_c own slack _ h1 h2).mono fun _ _ ⟨he, hw⟩ => ⟨he, hw.symm⟩))))); refine wpQuiet_nil ?_; rintro _ ⟨nq, rfl⟩)
  go_wp2_with fail
  refine bodyPost_ret (v := bndV own (satA own slack)) (by simp [results, Try.results116, go_sem]) rfl ?_
  exact retVal rfl (by (repeat (first | exact grownBy_refl _ _ | assumption | refine grownBy_new_block ?_ _ | refine grownBy_drew ?_ | refine grownBy_drewN ?_ _ | refine grownBy_setNew ?_ (by first | (simp; done) | omega | (simp; omega)) _)))

theorem bCap_c (lo hi m : Int) (w : World) : Calls Try.prog 76 #[bndV lo hi, .int .u64 m] w (RetVal (bndV (min lo m) (min hi m)) w) := by
  go_enter Try.func76, Try.ntmps76
  go_wp2
  refine bodyPost_ret (v := bndV (min lo m) (min hi m)) (by simp [results, Try.results76, go_sem]) rfl ?_
  exact retVal rfl (by (repeat (first | exact grownBy_refl _ _ | assumption | refine grownBy_new_block ?_ _ | refine grownBy_drew ?_ | refine grownBy_drewN ?_ _ | refine grownBy_setNew ?_ (by first | (simp; done) | omega | (simp; omega)) _)))
theorem rCap_c (lo hi m : Int) (w : World) : Calls Try.prog 115 #[bndV lo hi, .int .u64 m] w (RetVal (bndV (min lo m) (min hi m)) w) := by
  go_enter Try.func115, Try.ntmps115
  go_wp2
  refine bodyPost_ret (v := bndV (min lo m) (min hi m)) (by simp [results, Try.results115, go_sem]) rfl ?_
  exact retVal rfl (by (repeat (first | exact grownBy_refl _ _ | assumption | refine grownBy_new_block ?_ _ | refine grownBy_drew ?_ | refine grownBy_drewN ?_ _ | refine grownBy_setNew ?_ (by first | (simp; done) | omega | (simp; omega)) _)))

theorem bAdd_c (lo hi lo' hi' : Int) (w : World) (h1 : W64 lo) (h2 : W64 hi) (h3 : W64 lo') (h4 : W64 hi') : Calls Try.prog 80 #[bndV lo hi, bndV lo' hi'] w (RetVal (bndV (satA lo lo') (satA hi hi')) w) := by
  go_enter Try.func80, Try.ntmps80
  go_wp2_with (first | (go_at_call_of 52 (Value.int IntKind.u64 lo); refine (satAdd_c lo lo' _ h1 h3).mono ?_; rintro e w' ⟨rfl, rfl⟩) | (go_at_call_of 52 (Value.int IntKind.u64 hi); refine (satAdd_c hi hi' _ h2 h4).mono ?_; rintro e w' ⟨rfl, rfl⟩))
  refine bodyPost_ret (v := bndV (satA lo lo') (satA hi hi')) (by simp [results, Try.results80, go_sem]) rfl ?_
  exact retVal rfl (by (repeat (first | exact grownBy_refl _ _ | assumption | refine grownBy_new_block ?_ _ | refine grownBy_drew ?_ | refine grownBy_drewN ?_ _ | refine grownBy_setNew ?_ (by first | (simp; done) | omega | (simp; omega)) _)))
theorem rAdd_c (lo hi lo' hi' : Int) (w : World) (h1 : W64 lo) (h2 : W64 hi) (h3 : W64 lo') (h4 : W64 hi') : Calls Try.prog 90 #[bndV lo hi, bndV lo' hi'] w (RetVal (bndV (satA lo lo') (satA hi hi')) w) := by
  go_enter Try.func90, Try.ntmps90
  go_wp2_with fail
  have r4 := fun w => rsum_c lo lo' w h1 h3
  have r5 := fun w => rsum_c hi hi' w h2 h4
  (refine Tail.wp_region_tail_drawn 11 (by kernel_rfl) (by kernel_rfl) ?_; simp only [List.take, List.drop]; (repeat (go_big_quiet_step (first | (with_reducible exact Calls.quiet_of_same ((r4 _).mono fun _ _ ⟨he, hw⟩ => ⟨he, hw.symm⟩)) | (with_reducible exact Calls.quiet_of_same ((r5 _).mono fun _ _ ⟨he, hw⟩ => ⟨he, hw.symm⟩))))); refine wpQuiet_nil ?_; rintro _ ⟨nq, rfl⟩)
  clear r4 r5
  go_wp2_with fail
  refine bodyPost_ret (v := bndV (satA lo lo') (satA hi hi')) (by simp [results, Try.results90, go_sem]) rfl ?_
  exact retVal rfl (by (repeat (first | exact grownBy_refl _ _ | assumption | refine grownBy_new_block ?_ _ | refine grownBy_drew ?_ | refine grownBy_drewN ?_ _ | refine grownBy_setNew ?_ (by first | (simp; done) | omega | (simp; omega)) _)))

def exactB (own slack m : Int) : Bool := decide (own + slack ≤ m)
theorem rExact_c (own slack m : Int) (w : World) (h1 : W64 own) (h2 : W64 slack) (h3 : W64 m) : Calls Try.prog 111 #[.int .u64 own, .int .u64 slack, .int .u64 m] w (RetBool (exactB own slack m) w) := by
  by_cases hle : own ≤ m
  · have d1 : decide (own ≤ m) = true := decide_eq_true hle
    have hw : IntKind.u64.wrap (m - own) = m - own := IntWalk.u64_in _ (by unfold W64 at *; omega)
    have hx : exactB own slack m = decide (slack ≤ m - own) := by unfold exactB; rw [Bool.eq_iff_iff]; simp; omega
    have Hx := Lib.hid hx
    clear hx hle h1 h2 h3
    go_enter Try.func111, Try.ntmps111
    go_wp2
    go_ret
    exact retBool Hx.out (grownBy_refl _ _)
  · have d1 : decide (own ≤ m) = false := decide_eq_false hle
    have hx : exactB own slack m = false := by unfold exactB; unfold W64 at *; simp; omega
    have Hx := Lib.hid hx
    clear hx hle h1 h2 h3
    go_enter Try.func111, Try.ntmps111
    go_wp2
    go_ret
    exact retBool Hx.out (grownBy_refl _ _)

/-- A line: a key with bounds. -/
abbrev lineV (k : ByteArray) (lo hi : Int) : Value := .agg #[.string k, .int .u64 lo, .int .u64 hi]
def beforeB (k : ByteArray) (hi : Int) (k' : ByteArray) (hi' : Int) : Bool := decide (hi' < hi) || (hi == hi' && Op.bytesLess k.toList k'.toList)
theorem before_1 {k k' : ByteArray} {hi hi' : Int} (h : hi' < hi) : beforeB k hi k' hi' = true := by unfold beforeB; rw [decide_eq_true h]; rfl
theorem before_2 {k k' : ByteArray} {hi hi' : Int} (h : hi ≤ hi') (h2 : ¬ hi = hi') : beforeB k hi k' hi' = false := by unfold beforeB; rw [decide_eq_false (by omega), beq_eq_false_iff_ne.2 h2]; rfl
theorem before_3 {k k' : ByteArray} {hi hi' : Int} (h2 : hi = hi') : beforeB k hi k' hi' = Op.bytesLess k.toList k'.toList := by unfold beforeB; rw [decide_eq_false (by omega), beq_iff_eq.2 h2]; simp
theorem bBefore_c (k k' : ByteArray) (lo hi lo' hi' : Int) (w : World) : Calls Try.prog 95 #[lineV k lo hi, lineV k' lo' hi'] w (RetBool (beforeB k hi k' hi') w) := by
  go_enter Try.func95, Try.ntmps95
  go_wp2
  all_goals go_ret
  · exact retBool (before_3 (by assumption)) (by (repeat (first | exact grownBy_refl _ _ | assumption | refine grownBy_new_block ?_ _ | refine grownBy_drew ?_ | refine grownBy_drewN ?_ _ | refine grownBy_setNew ?_ (by first | (simp; done) | omega | (simp; omega)) _)))
  · exact retBool ((before_2 (by assumption) (by assumption)).trans (decide_eq_false (by omega)).symm) (by (repeat (first | exact grownBy_refl _ _ | assumption | refine grownBy_new_block ?_ _ | refine grownBy_drew ?_ | refine grownBy_drewN ?_ _ | refine grownBy_setNew ?_ (by first | (simp; done) | omega | (simp; omega)) _)))
  · exact retBool (before_1 (by assumption)) (by (repeat (first | exact grownBy_refl _ _ | assumption | refine grownBy_new_block ?_ _ | refine grownBy_drew ?_ | refine grownBy_drewN ?_ _ | refine grownBy_setNew ?_ (by first | (simp; done) | omega | (simp; omega)) _)))
theorem rBefore_c (k k' : ByteArray) (lo hi lo' hi' : Int) (w : World) : Calls Try.prog 53 #[lineV k lo hi, lineV k' lo' hi'] w (RetBool (beforeB k hi k' hi') w) := by
  go_enter Try.func53, Try.ntmps53
  go_wp2
  all_goals go_ret
  · exact retBool (before_3 (by assumption)) (by (repeat (first | exact grownBy_refl _ _ | assumption | refine grownBy_new_block ?_ _ | refine grownBy_drew ?_ | refine grownBy_drewN ?_ _ | refine grownBy_setNew ?_ (by first | (simp; done) | omega | (simp; omega)) _)))
  · exact retBool ((before_2 (by assumption) (by assumption)).trans (decide_eq_false (by omega)).symm) (by (repeat (first | exact grownBy_refl _ _ | assumption | refine grownBy_new_block ?_ _ | refine grownBy_drew ?_ | refine grownBy_drewN ?_ _ | refine grownBy_setNew ?_ (by first | (simp; done) | omega | (simp; omega)) _)))
  · exact retBool (before_1 (by assumption)) (by (repeat (first | exact grownBy_refl _ _ | assumption | refine grownBy_new_block ?_ _ | refine grownBy_drew ?_ | refine grownBy_drewN ?_ _ | refine grownBy_setNew ?_ (by first | (simp; done) | omega | (simp; omega)) _)))
end Go.Proofs.Ytiagjiaahnkefaa
