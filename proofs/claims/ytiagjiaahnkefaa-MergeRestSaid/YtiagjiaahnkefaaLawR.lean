/- The walk of the law MergeRest. -/
import Derived.Test.YtiagjiaahnkefaaRestP
import Derived.Test.YtiagjiaahnkefaaRkeys
import Derived.Test.YtiagjiaahnkefaaLawC
namespace Go.Proofs.Ytiagjiaahnkefaa
open Go.RowKit Go.Sort
attribute [local go_sem ↓] exec_load_cfg
attribute [local go_sem] run_loadCfgS

theorem mem_keysF_iff (l : List Summ) (x : Bytes) : x ∈ keysF l ↔ x ∈ keysL l := (ascF_ok (keysL l)).2 x
theorem mem_take_step (K : List Bytes) (x : Bytes) {m : Nat} (h : m < K.length) : decide (x ∈ K.take (m + 1)) = (decide (x ∈ K.take m) || decide (K[m] = x)) := by
  rw [take_succ h, Bool.eq_iff_iff]
  simp only [decide_eq_true_eq, Bool.or_eq_true, List.mem_append, List.mem_singleton]
  constructor
  · rintro (h | h)
    · exact .inl h
    · exact .inr h.symm
  · rintro (h | h)
    · exact .inl h
    · exact .inr h.symm

set_option maxHeartbeats 1000000 in
set_option maxRecDepth 100000 in
theorem restlaw_w (sv pv : Value) (xs P : List Int) (n : Nat) (key : ByteArray) (w : World) (hsv : Rd w 1 sv n (xs.map (fun x => Value.int .i64 x))) (hpv : RdL intF 1 w pv P) :
    Calls Try.prog 9 #[sv, pv, .string key] w (RetBool true w) := by
  have HS := Lib.hid hsv
  have HP := Lib.hid hpv
  obtain ⟨sa, sc, rfl⟩ := hsv.shape
  obtain ⟨pa, pc, rfl⟩ := hpv.shape
  clear hsv hpv
  by_cases hk : 300 < key.size
  · go_enter Try.func9, Try.ntmps9
    go_wp2_with (go_at_call 27; refine (awake_c _).mono ?_; rintro e w6 ⟨rfl, G6⟩)
    go_ret
    exact retBool rfl G6
  · have hk2 : (key.size : Int) ≤ 300 := by omega
    go_enter Try.func9, Try.ntmps9
    go_upto_region 6 with (first | (go_at_call 28; refine (new_c _ _ _ _ HS.out).mono ?_; rintro e w1 ⟨rfl, D1, G1⟩) | (go_at_call 29; refine (config2_c _ _ D1 (Nat.le_refl _)).mono ?_; rintro e w2 ⟨c, lc, t, rfl, N2, M2, D2, G2, T2, C2⟩; have z12 := G2.size; replace G2 := grownBy_new G1 G2 (Nat.le_refl _); have oc1 := M2.one1; have oc2 := M2.one2) | (refine alloc_cfg rfl rfl ?_; intro w3 B3 G3 z3) | (refine store_cfg rfl _ _ rfl _ rfl c rfl oc1 oc2 Cfg.zero (by assumption) ?_; intro w4 B4 G4; have D4 := D2.kept (grownBy_new G3 G4 (Nat.le_refl _)) (by simp); have M4 := M2.same (grownBy_new G3 G4 (Nat.le_refl _)); have z14 := Nat.le_trans z12 (grownBy_new G3 G4 (Nat.le_refl _)).size; replace G4 := grownBy_new (grownBy_trans G2 G3) G4 G2.size) | (refine load_cfg rfl _ rfl _ rfl c (by assumption) ?_) | (go_at_call 30; refine (dsums_c _ c _ D4 z14 ⟨N2.shards.1, by have := N2.shards.2; omega⟩ ⟨by have := N2.depth.1; omega, by have := N2.depth.2; omega⟩ ⟨by have := N2.width.1; omega, by have := N2.width.2; omega⟩).mono ?_; rintro e w5 ⟨lv, l, rfl, S5, hl5, D5, G5⟩; have F5 : Few c lc t lv l w5 := ⟨N2, M4.off G5 (fun k e => by cases e; exact D1.below) T2 C2, S5.rd, fun s hs => (S5.all s hs).2.2.1, hl5⟩; have B5 := B4.kept G5 (by have := D1.below; simp; omega); have K5 := grownBy_new G4 G5 (Nat.le_refl _)))
    have HF := Lib.hid F5
    have P5 := Lib.hid (RdL.same HP.out K5)
    obtain ⟨la, lcp, rfl⟩ := F5.sums.rd.shape
    clear S5 hl5 D5 G5 F5 B4 D4 M4 z14 G4 oc1 oc2 B3 G3 z3 M2 D2 T2 C2 z12 G2 D1 G1 N2 HS HP
    generalize w2.heap.size = cb at *
    have C1 := Lib.hid fun w' (h : World.grownBy w5 w' none) => rest_c c t _ l w' (HF.out.same h).rcfg (HF.out.same h).sums HF.out.small
    have C2 := Lib.hid fun w' (h : World.grownBy w5 w' none) => mtotal_c _ l w' (HF.out.same h).sums
    have C3 := Lib.hid fun w' (h : World.grownBy w5 w' none) => mkeys_c _ l w' (HF.out.same h).sums (by have := keysL_few HF.out; omega)
    have C4 := Lib.hid fun (k : ByteArray) (hk : k.size ≤ 300) w' (h : World.grownBy w5 w' none) => line_c c t _ l k _ P w' (HF.out.same h).rcfg (HF.out.same h).sums HF.out.ok (RdL.same P5.out h) (by omega)
    have F1 := Lib.hid fun k => line_tot HF.out k
    have F2 := Lib.hid fun k hk => line_rest HF.out (k := k) hk
    have hrt := rest_tot HF.out
    have HK := Lib.hid (mem_keysF_iff l)
    have HKl := Lib.hid (Nat.le_trans (keysF_len l) (keysL_few HF.out))
    clear HF P5
    generalize restF c l = rs at *
    generalize totalF l = tt at *
    generalize keysF l = K at *
    have BX := B5
    have GX : World.grownBy w5 w5 none := grownBy_refl _ _
    go_upto_region 7 with (first | (refine load_cfg rfl _ rfl _ rfl c (by assumption) ?_) | (go_at_call 41; refine (C1.out _ (grownBy_refl _ _)).mono ?_; rintro e y1 ⟨rfl, g1⟩; have B6 := B5.same g1) | (go_at_call 36; refine (C2.out _ g1).mono ?_; rintro e y2 ⟨rfl, g2⟩; have B7 := B6.same g2; have G7 := grownBy_trans g1 g2))
    clear BX GX C1 C2 B6 g1 g2
    have K7 := grownBy_trans K5 G7
    clear B5
    go_upto_region 8 with fail
    have B8 := B7.same (World.grownBy_alloc y2 (.cells #[.string key, .string ⟨#[122, 122]⟩, .string ⟨#[113]⟩] 9) none)
    have Z8 := Blk.new y2 #[.string key, .string ⟨#[122, 122]⟩, .string ⟨#[113]⟩] 9
    have K8 := grownBy_new_block K7 (.cells #[.string key, .string ⟨#[122, 122]⟩, .string ⟨#[113]⟩] 9)
    have G8 := grownBy_new_block G7 (.cells #[.string key, .string ⟨#[122, 122]⟩, .string ⟨#[113]⟩] 9)
    generalize y2.alloc (.cells #[.string key, .string ⟨#[122, 122]⟩, .string ⟨#[113]⟩] 9) = w6 at *
    generalize y2.heap.size = kb at *
    clear B7 K7 G7 K5
    go_loopw [37] (fun s37 wk => ∃ j : Nat, j ≤ 3 ∧ s37 = .int .i64 j ∧ w6.grownBy wk none) (fun s37 _ => 3 - (intOf s37).toNat)
    case atStart => exact ⟨0, by omega, rfl, grownBy_refl _ _⟩
    case round =>
      obtain ⟨j, hj, rfl, hg⟩ := hrel
      have B9 := B8.same hg
      have Z9 := Z8.same hg
      by_cases hjl : j < 3
      · obtain ⟨kk, hkk, hks⟩ : ∃ kk : ByteArray, wr.cell? ⟨kb, j, none⟩ = some (.string kk) ∧ kk.size ≤ 300 := by
          rw [Z9.cell j]
          have : j = 0 ∨ j = 1 ∨ j = 2 := by omega
          rcases this with rfl | rfl | rfl
          · exact ⟨key, rfl, by omega⟩
          · exact ⟨⟨#[122, 122]⟩, rfl, by show 2 ≤ 300; omega⟩
          · exact ⟨⟨#[113]⟩, rfl, by show 1 ≤ 300; omega⟩
        have G9 := grownBy_trans G8 hg
        have Hin := Lib.hid (HK.out kk.data.toList)
        have f1 := F1.out kk
        have F2k := Lib.hid (F2.out kk)
        have C4k := Lib.hid (C4.out kk hks)
        clear C4 F1 F2
        go_upto_region 12 with (go_at_call 39; refine (C3.out _ G9).mono ?_; rintro e y3 ⟨v3, rfl, o3, g3⟩; have R3 := o3.rd; obtain ⟨ka, kc, rfl⟩ := R3.shape)
        have Bt := B9.same g3
        have Gt := grownBy_trans G9 g3
        have HR3 := Lib.hid R3
        have hkm := R3.2.1
        clear R3 o3 B9 C3 hkk
        go_loopw [14, 44] (fun s14 s44 wk => ∃ m : Nat, m ≤ K.length ∧ s44 = .int .i64 m ∧ s14 = .bool (decide (kk.data.toList ∈ K.take m)) ∧ y3.grownBy wk none) (fun _ s44 _ => K.length - (intOf s44).toNat)
        case atStart => exact ⟨0, Nat.zero_le _, rfl, by simp, grownBy_refl _ _⟩
        case round =>
          obtain ⟨m, hm, rfl, rfl, hg2⟩ := hrel
          by_cases hml : m < K.length
          · obtain ⟨gx, ox, cx, hv, hgx, cx0⟩ := (HR3.out.same hg2).one strB_one hml
            cases hv
            have hst := Lib.hid (mem_take_step K kk.data.toList hml)
            have hbe := be_of K[m] kk
            generalize decide (kk.data.toList ∈ K.take m) = bt at *
            generalize K[m] = x at *
            cases hd : decide (x = kk.data.toList)
            · rw [hd] at hbe hst
              clear hd
              cases bt
              · go_wp2_with fail
                exact ⟨⟨m + 1, by omega, by go_num, by rw [hst.out]; rfl, hg2⟩, by simp [intOf]; omega⟩
              · go_wp2_with fail
                exact ⟨⟨m + 1, by omega, by go_num, by rw [hst.out]; rfl, hg2⟩, by simp [intOf]; omega⟩
            · rw [hd] at hbe hst
              clear hd
              cases bt
              · go_wp2_with fail
                exact ⟨⟨m + 1, by omega, by go_num, by rw [hst.out]; rfl, hg2⟩, by simp [intOf]; omega⟩
              · go_wp2_with fail
                exact ⟨⟨m + 1, by omega, by go_num, by rw [hst.out]; rfl, hg2⟩, by simp [intOf]; omega⟩
          · have hme : K.take m = K := List.take_of_length_le (by omega)
            rw [hme]
            have Bu := Bt.same hg2
            have Gu := grownBy_trans Gt hg2
            clear Bt
            by_cases htr : kk.data.toList ∈ K
            · rw [decide_eq_true htr]
              clear htr hme
              generalize (lineF c t l kk).1 = lo at *
              generalize (lineF c t l kk).2 = hi at *
              have f3 : hi ≤ tt := f1
              go_upto_region 17 with (first | (refine load_cfg rfl _ rfl _ rfl c (by assumption) ?_) | (go_at_call 33; refine (C4k.out _ Gu).mono ?_; rintro e y5 ⟨rfl, g5⟩))
              go_wp2_with fail
              exact ⟨⟨j + 1, by omega, by go_num, grownBy_new_block (grownBy_trans hg (grownBy_trans g3 (grownBy_trans hg2 g5))) _⟩, by simp [intOf]; omega⟩
            · rw [decide_eq_false htr]
              obtain ⟨e1, e2⟩ := F2k.out fun h => htr (Hin.out.2 h)
              rw [e1] at C4k
              clear htr hme e1
              generalize (lineF c t l kk).2 = hi at *
              have f3 : hi ≤ tt := f1
              have f4 : hi ≤ rs := e2
              go_upto_region 17 with (first | (refine load_cfg rfl _ rfl _ rfl c (by assumption) ?_) | (go_at_call 33; refine (C4k.out _ Gu).mono ?_; rintro e y5 ⟨rfl, g5⟩))
              go_wp2_with fail
              exact ⟨⟨j + 1, by omega, by go_num, grownBy_new_block (grownBy_trans hg (grownBy_trans g3 (grownBy_trans hg2 g5))) _⟩, by simp [intOf]; omega⟩
      · go_wp2_with (go_at_call 27; refine (awake_c _).mono ?_; rintro e w9 ⟨rfl, G9⟩)
        go_ret
        exact retBool rfl (grownBy_trans K8 (grownBy_trans hg G9))
end Go.Proofs.Ytiagjiaahnkefaa
