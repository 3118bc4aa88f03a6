/- The walks of the four laws of the clock. -/
import Derived.Test.YtahpenpgpnggcaaMake
import Derived.Test.YtahpenpgpnggcaaClk
namespace Go.Proofs.Ytahpenpgpnggcaa
open Go.RowKit

attribute [local go_sem ↓] exec_load_cfg
attribute [local go_sem] run_loadCfgS

abbrev awk : Cfg := ⟨10, 5, 2, 0, 0, 0, 0, 0, 0, 0, 0, 0, 0, 0, .slice none 0 0, .slice none 0 0, 0⟩

set_option maxHeartbeats 1000000 in
theorem awake25_c (w : World) : Calls Try.prog 11 #[] w (RetBool true w) := by
  have e1 : lowV awk 14 = 0 := by decide
  have e2 : lowV awk 15 = 1 := by decide
  have e3 : verV awk 15 9 = 3 := by decide
  have e4 : verV awk 15 29 = 0 := by decide
  have e5 : verV awk 15 30 = 4 := by decide
  have E1 := Lib.hid e1
  have E2 := Lib.hid e2
  have E3 := Lib.hid e3
  have E4 := Lib.hid e4
  have E5 := Lib.hid e5
  clear e1 e2 e3 e4 e5
  go_enter Try.func11, Try.ntmps11
  go_wp2_with (first | (refine alloc_cfg rfl rfl ?_; intro w1 B1 G1 z1) | (refine store_cfg rfl _ _ rfl _ rfl awk rfl rfl rfl Cfg.zero (by assumption) ?_; intro w2 B2 G2; replace G2 := grownBy_new G1 G2 (Nat.le_refl _)) | (refine load_cfg rfl _ rfl _ rfl awk (by assumption) ?_) | (refine load_cfg_if rfl _ rfl _ rfl awk (by assumption) ?_) | (go_at_call_of 9 (Value.int IntKind.i64 14); refine (clow_c awk _ _).mono ?_; rw [E1.out]; rintro e w3 ⟨rfl, G3⟩; have B3 := B2.same G3) | (go_at_call_of 9 (Value.int IntKind.i64 15); refine (clow_c awk _ _).mono ?_; rw [E2.out]; rintro e w4 ⟨rfl, G4⟩; have B4 := B3.same G4) | (go_at_call_of 10 (Value.int IntKind.i64 9); refine (cver_c awk _ _ _).mono ?_; rw [E3.out]; rintro e w5 ⟨rfl, G5⟩; have B5 := B4.same G5) | (go_at_call_of 10 (Value.int IntKind.i64 29); refine (cver_c awk _ _ _).mono ?_; rw [E4.out]; rintro e w6 ⟨rfl, G6⟩; have B6 := B5.same G6) | (go_at_call_of 10 (Value.int IntKind.i64 30); refine (cver_c awk _ _ _).mono ?_; rw [E5.out]; rintro e w7 ⟨rfl, G7⟩))
  go_ret
  exact ⟨rfl, grownBy_trans G2 (grownBy_trans G3 (grownBy_trans G4 (grownBy_trans G5 (grownBy_trans G6 G7))))⟩

theorem CfgMem.one1 {c : Cfg} {l : List (Int × Int)} {t : List Int} {w : World} (h : CfgMem c l t w) : c.Classes.oneCell' = true := by obtain ⟨a, cap, hv⟩ := h.classes.shape; rw [hv]; rfl
theorem CfgMem.one2 {c : Cfg} {l : List (Int × Int)} {t : List Int} {w : World} (h : CfgMem c l t w) : c.Table.oneCell' = true := by obtain ⟨a, cap, hv⟩ := h.table.shape; rw [hv]; rfl
theorem CfgNums.cok {c : Cfg} (h : CfgNums c) : cok c = true := decide_eq_true ⟨h.length.1, h.length.2, h.lateness.1, h.lateness.2, h.windows.1, h.windows.2⟩
theorem tok_of {n : Int} (h0 : 0 ≤ n) (h1 : n ≤ 1099511627776) : tok n = true := decide_eq_true ⟨h0, h1⟩

theorem lowV_eq {c : Cfg} (hc : cok c = true) {m : Int} (h0 : 0 ≤ m) (h1 : m ≤ 1099511627776) : lowV c m = max (m - c.Lateness) 0 / c.Length := by
  unfold lowV; rw [hc, tok_of h0 h1]; rfl
theorem winV_eq {c : Cfg} (hc : cok c = true) {m : Int} (h0 : 0 ≤ m) (h1 : m ≤ 1099511627776) : winV c m = m / c.Length := by
  unfold winV; rw [hc, tok_of h0 h1]; rfl
theorem lowV_mono {c : Cfg} (hc : cok c = true) {m m' : Int} (h0 : 0 ≤ m) (h : m ≤ m') (h1 : m' ≤ 1099511627776) : lowV c m ≤ lowV c m' := by
  rw [lowV_eq hc h0 (by omega), lowV_eq hc (by omega) h1]
  obtain ⟨⟨l0, _⟩, _⟩ := numsV hc
  exact Int.ediv_le_ediv (by omega) (by omega)
theorem verV_eq {c : Cfg} (hc : cok c = true) {m n : Int} (h0 : 0 ≤ m) (h1 : m ≤ 1099511627776) (h2 : 0 ≤ n) (h3 : n ≤ 1099511627776) :
    verV c m n = if winV c n < lowV c m then 3 else if lowV c m + c.Windows ≤ winV c n then 4 else 0 := verV_yes (by rw [hc, tok_of h0 h1, tok_of h2 h3]; rfl)
theorem late_stays {c : Cfg} (hc : cok c = true) {m m' n : Int} (h0 : 0 ≤ m) (h : m ≤ m') (h1 : m' ≤ 1099511627776) (h2 : 0 ≤ n) (h3 : n ≤ 1099511627776) (hv : verV c m n = 3) : verV c m' n = 3 := by
  have hm := lowV_mono hc h0 h h1
  rw [verV_eq hc h0 (by omega) h2 h3] at hv
  rw [verV_eq hc (by omega) h1 h2 h3]
  have : winV c n < lowV c m := by
    by_cases h : winV c n < lowV c m
    · exact h
    · rw [if_neg h] at hv; split at hv <;> omega
  rw [if_pos (by omega)]
theorem ok_no_early {c : Cfg} (hc : cok c = true) {m m' n : Int} (h0 : 0 ≤ m) (h : m ≤ m') (h1 : m' ≤ 1099511627776) (h2 : 0 ≤ n) (h3 : n ≤ 1099511627776) (hv : verV c m n = 0) : verV c m' n ≠ 4 := by
  have hm := lowV_mono hc h0 h h1
  rw [verV_eq hc h0 (by omega) h2 h3] at hv
  rw [verV_eq hc (by omega) h1 h2 h3]
  by_cases h4 : winV c n < lowV c m
  · rw [if_pos h4] at hv; omega
  · rw [if_neg h4] at hv
    by_cases h5 : lowV c m + c.Windows ≤ winV c n
    · rw [if_pos h5] at hv; omega
    · split
      · omega
      · rw [if_neg (by omega)]; omega

set_option maxHeartbeats 2000000 in
theorem rises_w (sv : Value) (n : Nat) (xs : List Int) (a b d : Int) (w : World) (hsv : Rd w 1 sv n (xs.map (fun x => Value.int .i64 x))) (ha : 0 ≤ a ∧ a ≤ 4294967295) (hb : 0 ≤ b ∧ b ≤ 4294967295) (hd : 0 ≤ d ∧ d ≤ 4294967295) :
    Calls Try.prog 3 #[sv, .int .u32 a, .int .u32 b, .int .u32 d] w (RetBool true w) := by
  obtain ⟨a0, a1⟩ := ha
  obtain ⟨b0, b1⟩ := hb
  obtain ⟨d0, d1⟩ := hd
  go_enter Try.func3, Try.ntmps3
  go_upto_region 2 with (first | (go_at_call 7; refine (new_c sv n xs _ hsv).mono ?_; rintro e w1 ⟨rfl, D1, G1⟩) | (go_at_call 8; refine (config_c _ _ D1 (Nat.le_refl _)).mono ?_; rintro e w2 ⟨c, l, t, rfl, N2, M2, _, G2⟩; replace G2 := grownBy_new G1 G2 (Nat.le_refl _); have oc1 := M2.one1; have oc2 := M2.one2) | (refine alloc_cfg rfl rfl ?_; intro w3 B3 G3 z3) | (refine store_cfg rfl _ _ rfl _ rfl c rfl oc1 oc2 Cfg.zero (by assumption) ?_; intro w4 B4 G4; replace G4 := grownBy_new (grownBy_trans G2 G3) G4 G2.size))
  simp only [Act.put, List.setIfInBounds_toArray, List.set_cons_zero, List.set_cons_succ]
  have hc := N2.cok
  obtain ⟨r1, r2, r3⟩ := B4.re
  have r4 := call_re (w := w4) fun w' _ => clow_c c a w'
  have r5 := call_re (w := w4) fun w' _ => clow_c c (a + b) w'
  have i1 : IntKind.i64.wrap a = a := IntWalk.i64_in _ (by omega)
  have i2 : IntKind.i64.wrap b = b := IntWalk.i64_in _ (by omega)
  have i3 : IntKind.i64.wrap (a + b) = a + b := IntWalk.i64_in _ (by omega)
  refine Tail.wp_region_tail_grown 13 (by kernel_rfl) (by kernel_rfl) ?_
  simp only [List.take, List.drop]
  repeat (go_big_quiet_step (first | (with_reducible exact r4 _ _) | (with_reducible exact r5 _ _)))
  refine wpQuiet_nil ?_
  rintro _ ⟨⟨d5, os5⟩, rfl⟩
  have B5 := B4.same (grown_re w4 d5 os5)
  have G5 := grownBy_trans G4 (grown_re w4 d5 os5)
  clear r1 r2 r3 r4 r5 i1 i2 i3
  generalize Go.Sort.grow (redrawn w4 d5) os5 = w5 at *
  go_upto_region 3 with fail
  obtain ⟨r1, r2, r3⟩ := B5.re
  have r4 := call_re (w := w5) fun w' _ => cver_c c a d w'
  have r5 := call_re (w := w5) fun w' _ => cver_c c (a + b) d w'
  have i1 : IntKind.i64.wrap a = a := IntWalk.i64_in _ (by omega)
  have i2 : IntKind.i64.wrap b = b := IntWalk.i64_in _ (by omega)
  have i3 : IntKind.i64.wrap (a + b) = a + b := IntWalk.i64_in _ (by omega)
  have i4 : IntKind.i64.wrap d = d := IntWalk.i64_in _ (by omega)
  refine Tail.wp_region_tail_grown 17 (by kernel_rfl) (by kernel_rfl) ?_
  simp only [List.take, List.drop]
  repeat (go_big_quiet_step (first | (with_reducible exact r4 _ _) | (with_reducible exact r5 _ _)))
  refine wpQuiet_nil ?_
  rintro _ ⟨⟨d6, os6⟩, rfl⟩
  have G6 := grownBy_trans G5 (grown_re w5 d6 os6)
  clear r1 r2 r3 r4 r5 i1 i2 i3 i4
  generalize Go.Sort.grow (redrawn w5 d6) os6 = w6 at *
  have q1 : decide (lowV c a ≤ lowV c (a + b)) = true := decide_eq_true (lowV_mono hc a0 (by omega) (by omega))
  have Q2 := Lib.hid (late_stays (n := d) hc a0 (show a ≤ a + b by omega) (by omega) d0 (by omega))
  have Q3 := Lib.hid (ok_no_early (n := d) hc a0 (show a ≤ a + b by omega) (by omega) d0 (by omega))
  generalize verV c a d = v1 at *
  generalize verV c (a + b) d = v2 at *
  have q2 : ∃ x y, (v1 != 3) = x ∧ (v2 == 3) = y ∧ (x || y) = true := by
    refine ⟨_, _, rfl, rfl, ?_⟩
    by_cases h : v1 = 3
    · rw [Q2.out h, h]; rfl
    · simp [h]
  have q3 : ∃ x y, (v1 != 0) = x ∧ (v2 != 4) = y ∧ (x || y) = true := by
    refine ⟨_, _, rfl, rfl, ?_⟩
    by_cases h : v1 = 0
    · have := Q3.out h; simp [this]
    · simp [h]
  clear Q2 Q3 N2 M2 hc
  obtain ⟨x1, y1, k1, k2, k3⟩ := q2
  obtain ⟨x2, y2, k4, k5, k6⟩ := q3
  cases x1 <;> cases y1 <;> simp only [Bool.or_self, Bool.or_true, Bool.true_or, Bool.false_eq_true] at k3 <;> cases x2 <;> cases y2 <;> simp only [Bool.or_self, Bool.or_true, Bool.true_or, Bool.false_eq_true] at k6
  all_goals
    go_wp2_with (go_at_call 11; refine (awake25_c _).mono ?_; rintro e w7 ⟨rfl, G7⟩)
    go_ret
    exact ⟨rfl, grownBy_trans G6 G7⟩

theorem div_in {c : Cfg} (hc : cok c = true) {t u : Int} (h0 : 0 ≤ t) (h1 : t ≤ 1099511627776) :
    winV c t * c.Length ≤ t ∧ t < (winV c t + 1) * c.Length := by
  obtain ⟨⟨l0, _⟩, _⟩ := numsV hc
  rw [winV_eq hc h0 h1]
  have e := Int.emod_add_mul_ediv t c.Length
  have a := Int.emod_nonneg t (show c.Length ≠ 0 by omega)
  have b := Int.emod_lt_of_pos t (show 0 < c.Length by omega)
  have e2 : t / c.Length * c.Length = c.Length * (t / c.Length) := Int.mul_comm _ _
  have e3 : (t / c.Length + 1) * c.Length = t / c.Length * c.Length + c.Length := by rw [Int.add_mul]; omega
  omega
theorem spanF {c : Cfg} (hc : cok c = true) {k : Int} (h0 : 0 ≤ k) (h1 : k ≤ 1099511627776) : fromV c k = k * c.Length := by unfold fromV; rw [hc, tok_of h0 h1]; rfl
theorem spanT {c : Cfg} (hc : cok c = true) {k : Int} (h0 : 0 ≤ k) (h1 : k ≤ 1099511627776) : toV c k = (k + 1) * c.Length := by unfold toV; rw [hc, tok_of h0 h1]; rfl
/-- A time lies in the span of a window just if it is its window. -/
theorem in_span {c : Cfg} (hc : cok c = true) {t o : Int} (h0 : 0 ≤ t) (h1 : t ≤ 1099511627776) (h2 : 0 ≤ o) (h3 : o ≤ 1099511627776) :
    (decide (fromV c o ≤ t) && decide (t < toV c o)) = (winV c t == o) := by
  rw [spanF hc h2 h3, spanT hc h2 h3, Bool.eq_iff_iff]
  simp only [Bool.and_eq_true, decide_eq_true_eq, beq_iff_eq]
  obtain ⟨d1, d2⟩ := div_in hc (u := 0) h0 h1
  obtain ⟨⟨l0, _⟩, _⟩ := numsV hc
  constructor
  · rintro ⟨g1, g2⟩
    have q1 : o * c.Length < (winV c t + 1) * c.Length := by omega
    have q2 : winV c t * c.Length < (o + 1) * c.Length := by omega
    have r1 := Int.lt_of_mul_lt_mul_right q1 (by omega)
    have r2 := Int.lt_of_mul_lt_mul_right q2 (by omega)
    omega
  · intro e; rw [← e]; exact ⟨d1, d2⟩

set_option maxHeartbeats 2000000 in
theorem span_w (sv : Value) (n : Nat) (xs : List Int) (a b : Int) (w : World) (hsv : Rd w 1 sv n (xs.map (fun x => Value.int .i64 x))) (ha : 0 ≤ a ∧ a ≤ 4294967295) (hb : 0 ≤ b ∧ b ≤ 4294967295) :
    Calls Try.prog 5 #[sv, .int .u32 a, .int .u32 b] w (RetBool true w) := by
  obtain ⟨a0, a1⟩ := ha
  obtain ⟨b0, b1⟩ := hb
  go_enter Try.func5, Try.ntmps5
  go_upto_region 5 with (first | (go_at_call 7; refine (new_c sv n xs _ hsv).mono ?_; rintro e w1 ⟨rfl, D1, G1⟩) | (go_at_call 8; refine (config_c _ _ D1 (Nat.le_refl _)).mono ?_; rintro e w2 ⟨c, l, t, rfl, N2, M2, _, G2⟩; replace G2 := grownBy_new G1 G2 (Nat.le_refl _); have oc1 := M2.one1; have oc2 := M2.one2) | (refine alloc_cfg rfl rfl ?_; intro w3 B3 G3 z3) | (refine store_cfg rfl _ _ rfl _ rfl c rfl oc1 oc2 Cfg.zero (by assumption) ?_; intro w4 B4 G4; replace G4 := grownBy_new (grownBy_trans G2 G3) G4 G2.size) | (refine load_cfg rfl _ rfl _ rfl c (by assumption) ?_) | (go_at_call 17; refine (cwin_c c a _).mono ?_; rintro e w5 ⟨rfl, G5⟩; have B5 := B4.same G5; have K5 := grownBy_trans G4 G5) | (go_at_call_of 15 (Value.int IntKind.i64 (winV c a)); refine (cspan_c c (winV c a) _).mono ?_; rintro e w6 ⟨rfl, G6⟩; have B6 := B5.same G6; have K6 := grownBy_trans K5 G6) | (go_at_call_of 15 (Value.int IntKind.i64 b); refine (cspan_c c b _).mono ?_; rintro e w7 ⟨rfl, G7⟩; have B7 := B6.same G7; have K7 := grownBy_trans K6 G7))
  have hc := N2.cok
  obtain ⟨wb0, wb1⟩ := winV_bd c a
  have s1 := in_span hc a0 (show a ≤ 1099511627776 by omega) wb0 wb1
  have s2 := in_span hc a0 (show a ≤ 1099511627776 by omega) b0 (show b ≤ 1099511627776 by omega)
  obtain ⟨d1, d2⟩ := div_in (u := 0) hc a0 (show a ≤ 1099511627776 by omega)
  have f1 := spanF hc wb0 wb1
  have f2 := spanT hc wb0 wb1
  have f3 : toV c (winV c a) - fromV c (winV c a) = c.Length := by rw [f1, f2, Int.add_mul]; omega
  have p1 : decide (fromV c (winV c a) ≤ a) = true := decide_eq_true (by rw [f1]; exact d1)
  have p2 : decide (a < toV c (winV c a)) = true := decide_eq_true (by rw [f2]; exact d2)
  have p0 : 0 ≤ fromV c (winV c a) := by rw [f1]; exact Int.mul_nonneg wb0 (by have := N2.length; omega)
  have p3 : fromV c (winV c a) ≤ 4294967295 := by rw [f1]; omega
  have p4 : toV c (winV c a) ≤ 4297000000 := by have := N2.length; omega
  have p6 : fromV c (winV c a) ≤ toV c (winV c a) := by have := N2.length; omega
  have p5 : ((toV c (winV c a) - fromV c (winV c a)) == c.Length) = true := by rw [f3]; simp
  have hb7 := B7.cell
  generalize winV c a = W at *
  generalize fromV c W = F at *
  generalize toV c W = T at *
  generalize fromV c b = F2 at *
  generalize toV c b = T2 at *
  have s3 : ∃ x y, decide (F2 ≤ a) = x ∧ decide (a < T2) = y ∧ (x && y) = (W == b) := ⟨_, _, rfl, rfl, s2⟩
  clear s1 s2 f1 f2 f3 d1 d2 hc N2 M2
  obtain ⟨x, y, g1, g2, g3⟩ := s3
  cases hwb : (W == b) <;> cases x <;> cases y <;> simp only [hwb, Bool.and_self, Bool.and_true, Bool.true_and, Bool.and_false, Bool.false_and, Bool.false_eq_true, Bool.true_eq_false, reduceCtorEq] at g3
  all_goals
    clear g3
    go_wp2_with (go_at_call 11; refine (awake25_c _).mono ?_; rintro e w8 ⟨rfl, G8⟩)
    go_ret
    exact ⟨rfl, grownBy_trans K7 G8⟩
end Go.Proofs.Ytahpenpgpnggcaa
