/- The walk of the law ClockCloses. -/
import Derived.Test.YtahpenpgpnggcaaLaw25
namespace Go.Proofs.Ytahpenpgpnggcaa
open Go.RowKit

attribute [local go_sem ↓] exec_load_cfg
attribute [local go_sem] run_loadCfgS

theorem low_before {c : Cfg} (hc : cok c = true) {k : Int} (h0 : 0 ≤ k) (h1 : (k + 1) * c.Length + c.Lateness ≤ 1099511627776) : lowV c ((k + 1) * c.Length + c.Lateness - 1) = k := by
  obtain ⟨⟨l0, _⟩, ⟨l2, _⟩, _⟩ := numsV hc
  have e3 : (k + 1) * c.Length = k * c.Length + c.Length := by rw [Int.add_mul]; omega
  have e0 : 0 ≤ k * c.Length := Int.mul_nonneg h0 (by omega)
  rw [lowV_eq hc (by omega) (by omega), show (k + 1) * c.Length + c.Lateness - 1 - c.Lateness = k * c.Length + (c.Length - 1) by omega, Int.max_eq_left (by omega)]
  rw [Int.mul_comm, Int.mul_add_ediv_left _ _ (by omega), Int.ediv_eq_zero_of_lt (by omega) (by omega)]; omega
theorem low_after {c : Cfg} (hc : cok c = true) {k : Int} (h0 : 0 ≤ k) (h1 : (k + 1) * c.Length + c.Lateness ≤ 1099511627776) : lowV c ((k + 1) * c.Length + c.Lateness) = k + 1 := by
  obtain ⟨⟨l0, _⟩, ⟨l2, _⟩, _⟩ := numsV hc
  have e0 : 0 ≤ (k + 1) * c.Length := Int.mul_nonneg (by omega) (by omega)
  rw [lowV_eq hc (by omega) (by omega), show (k + 1) * c.Length + c.Lateness - c.Lateness = (k + 1) * c.Length by omega, Int.max_eq_left (by omega)]
  rw [Int.mul_ediv_cancel _ (by omega)]
/-- The verdict on the first time of a window. -/
theorem ver_first {c : Cfg} (hc : cok c = true) {k j : Int} (h0 : 0 ≤ k) (h1 : (k + 1) * c.Length + c.Lateness ≤ 1099511627776) (h2 : 0 ≤ j) (h3 : j * c.Length ≤ 1099511627776) :
    (verV c ((k + 1) * c.Length + c.Lateness) (j * c.Length) == 0) = decide (k + 1 ≤ j ∧ j < k + 1 + c.Windows) := by
  obtain ⟨⟨l0, _⟩, ⟨l2, _⟩, _⟩ := numsV hc
  have e0 : 0 ≤ (k + 1) * c.Length := Int.mul_nonneg (by omega) (by omega)
  have e1 : 0 ≤ j * c.Length := Int.mul_nonneg h2 (by omega)
  rw [verV_eq hc (by omega) h1 e1 h3, low_after hc h0 h1, winV_eq hc e1 h3, Int.mul_ediv_cancel _ (by omega)]
  by_cases g1 : j < k + 1
  · rw [if_pos g1, decide_eq_false (by omega)]; rfl
  · rw [if_neg g1]
    by_cases g2 : k + 1 + c.Windows ≤ j
    · rw [if_pos g2, decide_eq_false (by omega)]; rfl
    · rw [if_neg g2, decide_eq_true (by omega)]; rfl

set_option maxHeartbeats 2000000 in
theorem closes_w (sv : Value) (n : Nat) (xs : List Int) (k : Int) (w : World) (hsv : Rd w 1 sv n (xs.map (fun x => Value.int .i64 x))) (hk : 0 ≤ k ∧ k ≤ 65535) :
    Calls Try.prog 6 #[sv, .int .u16 k] w (RetBool true w) := by
  obtain ⟨k0, k1⟩ := hk
  go_enter Try.func6, Try.ntmps6
  go_upto_region 4 with (first | (go_at_call 7; refine (new_c sv n xs _ hsv).mono ?_; rintro e w1 ⟨rfl, D1, G1⟩) | (go_at_call 8; refine (config_c _ _ D1 (Nat.le_refl _)).mono ?_; rintro e w2 ⟨c, l, t, rfl, N2, M2, _, G2⟩; replace G2 := grownBy_new G1 G2 (Nat.le_refl _); have oc1 := M2.one1; have oc2 := M2.one2) | (refine alloc_cfg rfl rfl ?_; intro w3 B3 G3 z3) | (refine store_cfg rfl _ _ rfl _ rfl c rfl oc1 oc2 Cfg.zero (by assumption) ?_; intro w4 B4 G4; replace G4 := grownBy_new (grownBy_trans G2 G3) G4 G2.size) | (refine load_cfg rfl _ rfl _ rfl c (by assumption) ?_) | (go_at_call 15; refine (cspan_c c k _).mono ?_; rintro e w5 ⟨rfl, G5⟩; have B5 := B4.same G5; have K5 := grownBy_trans G4 G5))
  have hc := N2.cok
  obtain ⟨l0, l1⟩ := N2.length
  obtain ⟨l2, l3⟩ := N2.lateness
  obtain ⟨l4, l5⟩ := N2.windows
  have t1 : toV c k = (k + 1) * c.Length := spanT hc k0 (by omega)
  generalize toV c k = T at *
  have t2 : (k + 1) * c.Length ≤ 65536 * 1048576 := Int.mul_le_mul (by omega) l1 (by omega) (by omega)
  have t3 : 0 ≤ (k + 1) * c.Length := Int.mul_nonneg (by omega) (by omega)
  have f1 : lowV c (T + c.Lateness - 1) = k := by rw [t1]; exact low_before hc k0 (by omega)
  have f2 : lowV c (T + c.Lateness) = k + 1 := by rw [t1]; exact low_after hc k0 (by omega)
  have F3 : Hid (∀ j, 0 ≤ j → j ≤ 65560 → (verV c (T + c.Lateness) (fromV c j) == 0) = decide (k + 1 ≤ j ∧ j < k + 1 + c.Windows)) := Lib.hid fun j j0 j1 => by
    rw [t1, spanF hc j0 (by omega)]
    refine ver_first hc k0 (by omega) j0 ?_
    have := Int.mul_le_mul j1 l1 (by omega) (by omega)
    omega
  have t4 : 1 ≤ T + c.Lateness := by
    have : 1 * 1 ≤ (k + 1) * c.Length := Int.mul_le_mul (by omega) l0 (by omega) (by omega)
    omega
  have t5 : T ≤ 68719476736 := by omega
  have t6 : 0 ≤ T := by omega
  have F1 := Lib.hid f1
  have F2 := Lib.hid f2
  clear f1 f2 t1 t2 t3 hc N2 M2
  have b5 := B5.cell
  have hne : (k != k) = false := by simp
  go_wp2_with (first | (refine load_cfg rfl _ rfl _ rfl c (by assumption) ?_) | (refine load_cfg_if rfl _ rfl _ rfl c (by assumption) ?_))
  refine (clow_c c (T + c.Lateness - 1) _).mono ?_
  rw [F1.out]
  rintro e w6 ⟨rfl, G6⟩
  have B6 := B5.same G6
  have b6 := B6.cell
  go_wp2_with (first | (refine load_cfg rfl _ rfl _ rfl c (by assumption) ?_) | (refine load_cfg_if rfl _ rfl _ rfl c (by assumption) ?_))
  refine (clow_c c (T + c.Lateness) _).mono ?_
  rw [F2.out]
  rintro e w7 ⟨rfl, G7⟩
  have B7 := B6.same G7
  have b7 := B7.cell
  have K7 := grownBy_trans K5 (grownBy_trans G6 G7)
  clear b5 b6
  go_wp2_with fail
  go_loopw [9, 10] (fun s9 s10 wr => ∃ i : Int, s10 = .int .i64 i ∧ s9 = .int .i64 (max 0 (min i c.Windows)) ∧ -2 ≤ i ∧ i ≤ c.Windows + 3 ∧ BoxAt wr w2.heap.size c ∧ w.grownBy wr none) (fun _ s10 _ => (c.Windows + 3 - intOf s10).toNat)
  case atStart => exact ⟨-2, rfl, by rw [Int.max_eq_left (by omega)], by omega, by omega, B7, K7⟩
  case round =>
    obtain ⟨i, rfl, rfl, i0, i1, B8, K8⟩ := hrel
    have b8 := B8.cell
    clear b7
    by_cases hlt : i < c.Windows + 3
    · have hm : 0 ≤ max (k + 1 + i) 0 ∧ max (k + 1 + i) 0 ≤ 65560 := by omega
      have F4 := F3.out _ hm.1 hm.2
      by_cases hin : 0 ≤ i ∧ i < c.Windows
      · have g1 : (verV c (T + c.Lateness) (fromV c (max (k + 1 + i) 0)) == 0) = true := by rw [F4]; exact decide_eq_true (by omega)
        have g2 : decide (0 ≤ k + 1 + i) = true := decide_eq_true (by omega)
        have g3 : max 0 (min (i + 1) c.Windows) = max 0 (min i c.Windows) + 1 := by omega
        have Hg3 := Lib.hid g3
        have g4 : 0 ≤ max 0 (min i c.Windows) ∧ max 0 (min i c.Windows) ≤ 8 := by omega
        generalize max 0 (min i c.Windows) = M at *
        obtain ⟨g5, g6⟩ := g4
        clear F4 g3 hm
        go_wp2_with (first | (refine load_cfg rfl _ rfl _ rfl c (by assumption) ?_) | (refine load_cfg_if rfl _ rfl _ rfl c (by assumption) ?_) | (go_at_call 15; refine (cspan_c c _ _).mono ?_; rintro e w9 ⟨rfl, G9⟩; have B9 := B8.same G9; have b9 := B9.cell; have K9 := grownBy_trans K8 G9) | (go_at_call 10; refine (cver_c c _ _ _).mono ?_; rintro e w10 ⟨rfl, G10⟩; have B10 := B9.same G10; have K10 := grownBy_trans K9 G10))
        exact ⟨⟨i + 1, rfl, by rw [Hg3.out], by omega, by omega, B10, K10⟩, by simp [intOf]; omega⟩
      · have g1 : (verV c (T + c.Lateness) (fromV c (max (k + 1 + i) 0)) == 0) = decide (k + 1 ≤ max (k + 1 + i) 0 ∧ max (k + 1 + i) 0 < k + 1 + c.Windows) := F4
        have g3 : max 0 (min (i + 1) c.Windows) = max 0 (min i c.Windows) := by omega
        have Hg3 := Lib.hid g3
        by_cases hneg : 0 ≤ k + 1 + i
        · have g2 : decide (0 ≤ k + 1 + i) = true := decide_eq_true hneg
          have g4 : (verV c (T + c.Lateness) (fromV c (max (k + 1 + i) 0)) == 0) = false := by rw [g1]; exact decide_eq_false (by omega)
          clear F4 g1 g3 hm hneg hin
          generalize max 0 (min i c.Windows) = M at *
          go_wp2_with (first | (refine load_cfg rfl _ rfl _ rfl c (by assumption) ?_) | (refine load_cfg_if rfl _ rfl _ rfl c (by assumption) ?_) | (go_at_call 15; refine (cspan_c c _ _).mono ?_; rintro e w9 ⟨rfl, G9⟩; have B9 := B8.same G9; have b9 := B9.cell; have K9 := grownBy_trans K8 G9) | (go_at_call 10; refine (cver_c c _ _ _).mono ?_; rintro e w10 ⟨rfl, G10⟩; have B10 := B9.same G10; have K10 := grownBy_trans K9 G10))
          exact ⟨⟨i + 1, rfl, by rw [Hg3.out], by omega, by omega, B10, K10⟩, by simp [intOf]; omega⟩
        · have g2 : decide (0 ≤ k + 1 + i) = false := decide_eq_false hneg
          clear F4 g1 g3 hm hneg hin
          generalize max 0 (min i c.Windows) = M at *
          go_upto_region 11 with (first | (refine load_cfg rfl _ rfl _ rfl c (by assumption) ?_) | (go_at_call 15; refine (cspan_c c _ _).mono ?_; rintro e w9 ⟨rfl, G9⟩; have B9 := B8.same G9; have b9 := B9.cell; have K9 := grownBy_trans K8 G9))
          clear F3 F1 F2 G2 G4 G5 G6 G7 B5 B6 B7 K5 K7 B8 b8
          go_upto_region 12 with fail
          exact ⟨⟨i + 1, rfl, by rw [Hg3.out], by omega, by omega, B9, K9⟩, by simp [intOf]; omega⟩
    · have g3 : max 0 (min i c.Windows) = c.Windows := by omega
      rw [g3]
      have g4 : (c.Windows == c.Windows) = true := by simp
      clear g3
      go_wp2_with (go_at_call 11; refine (awake25_c _).mono ?_; rintro e w11 ⟨rfl, G11⟩)
      go_ret
      exact ⟨rfl, grownBy_trans K8 G11⟩
end Go.Proofs.Ytahpenpgpnggcaa
