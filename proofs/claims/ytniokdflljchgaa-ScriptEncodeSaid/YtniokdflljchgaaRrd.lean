/- Numbers read from bytes: the reference. -/
import Derived.Test.YtniokdflljchgaaRd
namespace Go.Proofs.Ytniokdflljchgaa
open Go.RowKit Go.Sort

theorem valU_drop (l : List UInt8) (k : Nat) : valU (l.drop k) ≤ valU l := by
  induction l generalizing k with
  | nil => simp
  | cons b l ih =>
    cases k with
    | zero => simp
    | succ k =>
      have := ih k
      simp only [List.drop_succ_cons, valU]; omega

set_option maxHeartbeats 1000000 in
set_option maxRecDepth 100000 in
theorem rread_c (v : Value) (l : List UInt8) (w : World) (h : RdL byF 1 w v l) : Calls Try.prog 88 #[v] w (RetVal (.tuple #[.int .u64 (readF l).1, .int .i64 (readF l).2.1, .int .i64 (readF l).2.2]) w) := by
  obtain ⟨a, c, rfl⟩ := h.shape
  have hm := h.2.1
  have H := Lib.hid h
  have hM := bigs_le 10 l
  have HT := Lib.hid (readF_ten (l := l))
  have HSh := Lib.hid (readF_short (l := l))
  have HBd := Lib.hid (readF_bad (l := l))
  have HOk := Lib.hid (readF_ok (l := l))
  have HW := Lib.hid (readF_w l)
  have HL := Lib.hid fun i (h1 : i < bigs 10 l) (h2 : i < l.length) => bigs_lt h1 h2
  have HA := Lib.hid fun (h1 : bigs 10 l < 10) (h2 : bigs 10 l < l.length) => bigs_at h1 h2
  clear h
  generalize readF l = F at *
  generalize bigs 10 l = M at *
  go_enter Try.func88, Try.ntmps88
  go_wp2
  go_loopw [5] (fun s5 wk => ∃ i : Nat, i ≤ M ∧ s5 = .int .i64 i ∧ w.grownBy wk none) (fun s5 _ => 10 - (intOf s5).toNat)
  case atStart => exact ⟨0, Nat.zero_le _, rfl, grownBy_refl _ _⟩
  case round =>
    obtain ⟨i, hi, rfl, hg⟩ := hrel
    by_cases hiM : i < M
    · have hil : i < l.length := by omega
      obtain ⟨g, off, cap, hv, hgl, ci⟩ := (RdL.same H.out hg).one by_one hil
      cases hv
      have hb := HL.out i hiM hil
      have hb2 : (128 : Int) ≤ (l[i].toNat : Int) := by omega
      generalize l[i] = b at *
      have hi0 : (0 : Int) ≤ (i : Int) := by omega
      have hil2 : (i : Int) < (l.length : Int) := by omega
      have hi102 : (i : Int) < 10 := by omega
      go_wp2_with fail
      exact ⟨⟨i + 1, by omega, by go_num, hg⟩, by simp [intOf]; omega⟩
    · obtain rfl : i = M := by omega
      by_cases h10 : i = 10
      · have HF := Lib.hid (HT.out h10)
        subst h10
        by_cases hl : 10 < l.length
        · have hl2 : (10 : Int) < (l.length : Int) := by omega
          go_wp2_with fail
          go_ret3
          exact retVal (by rw [HF.out]; rfl) hg
        · have hl2 : ¬ (10 : Int) < (l.length : Int) := by omega
          go_wp2_with fail
          go_ret3
          exact retVal (by rw [HF.out]; rfl) hg
      · by_cases hil : i < l.length
        · obtain ⟨g, off, cap, hv, hgl, ci⟩ := (RdL.same H.out hg).one by_one hil
          cases hv
          have hb := HA.out (by omega) hil
          have hb2 : (l[i].toNat : Int) < 128 := by omega
          have hb0 : (0 : Int) ≤ (l[i].toNat : Int) := by omega
          by_cases hbad : (i = 9 ∧ 1 < l[i].toNat) ∨ (0 < i ∧ l[i].toNat = 0)
          · have HF := Lib.hid (HBd.out (by omega) hil hbad)
            rcases hbad with ⟨h9, h1⟩ | ⟨h0, h1⟩
            · subst h9
              have h1' : (1 : Int) < (l[9].toNat : Int) := by omega
              have hl9 : (9 : Int) < (l.length : Int) := by omega
              clear h10 hb h1 HW HOk HBd HA HL HSh HT
              generalize l[9] = b at *
              go_wp2_with fail
              go_ret3
              exact retVal (by rw [HF.out]; rfl) hg
            · have h1' : (l[i].toNat : Int) ≤ 0 := by omega
              have hbz : ((l[i].toNat : Int) == 0) = true := by rw [beq_iff_eq]; omega
              have hi0 : (0 : Int) < (i : Int) := by omega
              have hil2 : (i : Int) < (l.length : Int) := by omega
              have hi102 : (i : Int) < 10 := by omega
              clear h10 hb h1 HW HOk HBd HA HL HSh HT
              by_cases h9 : i = 9
              · subst h9
                generalize l[9] = b at *
                go_wp2_with fail
                go_ret3
                exact retVal (by rw [HF.out]; rfl) hg
              · have h9' : ¬ ((i : Int) = 9) := by omega
                generalize l[i] = b at *
                go_wp2_with fail
                go_ret3
                exact retVal (by rw [HF.out]; rfl) hg
          · have hil2 : (i : Int) < (l.length : Int) := by omega
            have hi102 : (i : Int) < 10 := by omega
            by_cases h9 : i = 9
            · subst h9
              have h1' : ¬ (1 : Int) < (l[9].toNat : Int) := by omega
              have h1'' : ((l[9].toNat : Int) == 0) = false := by rw [beq_eq_false_iff_ne]; omega
              have HF := Lib.hid (HOk.out (by omega) hil (by omega))
              have hTw := HW.out
              rw [HF.out] at hTw
              have HTw := Lib.hid (show valU (l.take (9 + 1)) < 18446744073709551616 from hTw)
              clear hTw
              go_wp2_with fail
              go_loopw [2, 6] (fun s2 s6 wk => ∃ j : Nat, j ≤ 9 + 1 ∧ s6 = .int .i64 ((9 : Nat) - (j : Int)) ∧ s2 = .int .u64 (valU ((l.take (9 + 1)).drop (9 + 1 - j))) ∧ w.grownBy wk none) (fun _ s6 _ => ((intOf s6) + 1).toNat)
              case atStart => exact ⟨0, Nat.zero_le _, by go_num, by rw [List.drop_of_length_le (by rw [List.length_take]; omega)]; rfl, hg⟩
              case round =>
                obtain ⟨j, hj, rfl, rfl, hgj⟩ := hrel
                by_cases hjM : j ≤ 9
                · have hk : 9 - j < l.length := by omega
                  obtain ⟨g2, off2, cap2, hv2, hgl2, cj⟩ := (RdL.same H.out hgj).one by_one hk
                  cases hv2
                  have hst : (l.take (9 + 1)).drop (9 + 1 - (j + 1)) = l[9 - j] :: (l.take (9 + 1)).drop (9 + 1 - j) := by
                    rw [show 9 + 1 - (j + 1) = 9 - j by omega, List.drop_eq_getElem_cons (by rw [List.length_take]; omega)]
                    congr 1
                    · simp
                    · congr 1; omega
                  have hle := valU_drop (l.take (9 + 1)) (9 + 1 - (j + 1))
                  rw [hst] at hle
                  have HST := Lib.hid hst
                  have hTw := HTw.out
                  have hbt := (l[9 - j]).toNat_lt
                  simp only [valU] at hle
                  have hw1 : IntKind.u64.wrap (((l[9 - j]).toNat : Int) % 128) = ((l[9 - j]).toNat : Int) % 128 := IntWalk.u64_in _ (by omega)
                  have hw2 : IntKind.u64.wrap ((valU ((l.take (9 + 1)).drop (9 + 1 - j)) : Int) * 128) = (valU ((l.take (9 + 1)).drop (9 + 1 - j)) : Int) * 128 := IntWalk.u64_in _ (by omega)
                  have hw3 : IntKind.u64.wrap ((valU ((l.take (9 + 1)).drop (9 + 1 - j)) : Int) * 128 + ((l[9 - j]).toNat : Int) % 128) = (valU ((l.take (9 + 1)).drop (9 + 1 - j)) : Int) * 128 + ((l[9 - j]).toNat : Int) % 128 := IntWalk.u64_in _ (by omega)
                  have hij : ((9 : Nat) : Int) - (j : Int) = ((9 - j : Nat) : Int) := by omega
                  rw [hij]
                  have HIJ := Lib.hid hij
                  clear hst hle hTw hij
                  obtain ⟨V1, hV1⟩ : ∃ V1, valU ((l.take (9 + 1)).drop (9 + 1 - j)) = V1 := ⟨_, rfl⟩
                  rw [hV1] at hw2 hw3 ⊢
                  have HV1 := Lib.hid hV1
                  clear hV1
                  generalize l[9 - j] = b2 at *
                  (try rw [Nat.zero_sub, Nat.add_zero] at cj)
                  have hk0 : (0 : Int) ≤ ((9 - j : Nat) : Int) := by omega
                  have hk1 : ((9 - j : Nat) : Int) < (l.length : Int) := by omega
                  go_wp2_with fail
                  exact ⟨⟨j + 1, by omega, congrArg _ (by omega), congrArg _ (by rw [HST.out]; simp only [valU]; rw [HV1.out]; omega), hgj⟩, by simp [intOf] <;> omega⟩
                · obtain rfl : j = 9 + 1 := by omega
                  have hz : ((9 : Nat) : Int) - ((9 + 1 : Nat) : Int) = -1 := by omega
                  rw [hz]
                  clear hz
                  go_wp2_with fail
                  go_ret3
                  exact retVal (by rw [HF.out]; simp) hgj
            · have h9' : ¬ ((i : Int) = 9) := by omega
              by_cases h0 : i = 0
              · subst h0
                rw [Nat.add_zero] at ci
                have HF := Lib.hid (HOk.out (by omega) hil (by omega))
                have hTw := HW.out
                rw [HF.out] at hTw
                have HTw := Lib.hid (show valU (l.take (0 + 1)) < 18446744073709551616 from hTw)
                clear hTw
                go_wp2_with fail
                go_loopw [2, 6] (fun s2 s6 wk => ∃ j : Nat, j ≤ 0 + 1 ∧ s6 = .int .i64 ((0 : Nat) - (j : Int)) ∧ s2 = .int .u64 (valU ((l.take (0 + 1)).drop (0 + 1 - j))) ∧ w.grownBy wk none) (fun _ s6 _ => ((intOf s6) + 1).toNat)
                case atStart => exact ⟨0, Nat.zero_le _, by go_num, by rw [List.drop_of_length_le (by rw [List.length_take]; omega)]; rfl, hg⟩
                case round =>
                  obtain ⟨j, hj, rfl, rfl, hgj⟩ := hrel
                  by_cases hjM : j ≤ 0
                  · have hk : 0 - j < l.length := by omega
                    obtain ⟨g2, off2, cap2, hv2, hgl2, cj⟩ := (RdL.same H.out hgj).one by_one hk
                    cases hv2
                    have hst : (l.take (0 + 1)).drop (0 + 1 - (j + 1)) = l[0 - j] :: (l.take (0 + 1)).drop (0 + 1 - j) := by
                      rw [show 0 + 1 - (j + 1) = 0 - j by omega, List.drop_eq_getElem_cons (by rw [List.length_take]; omega)]
                      congr 1
                      · simp
                      · congr 1; omega
                    have hle := valU_drop (l.take (0 + 1)) (0 + 1 - (j + 1))
                    rw [hst] at hle
                    have HST := Lib.hid hst
                    have hTw := HTw.out
                    have hbt := (l[0 - j]).toNat_lt
                    simp only [valU] at hle
                    have hw1 : IntKind.u64.wrap (((l[0 - j]).toNat : Int) % 128) = ((l[0 - j]).toNat : Int) % 128 := IntWalk.u64_in _ (by omega)
                    have hw2 : IntKind.u64.wrap ((valU ((l.take (0 + 1)).drop (0 + 1 - j)) : Int) * 128) = (valU ((l.take (0 + 1)).drop (0 + 1 - j)) : Int) * 128 := IntWalk.u64_in _ (by omega)
                    have hw3 : IntKind.u64.wrap ((valU ((l.take (0 + 1)).drop (0 + 1 - j)) : Int) * 128 + ((l[0 - j]).toNat : Int) % 128) = (valU ((l.take (0 + 1)).drop (0 + 1 - j)) : Int) * 128 + ((l[0 - j]).toNat : Int) % 128 := IntWalk.u64_in _ (by omega)
                    have hij : ((0 : Nat) : Int) - (j : Int) = ((0 - j : Nat) : Int) := by omega
                    rw [hij]
                    have HIJ := Lib.hid hij
                    clear hst hle hTw hij
                    obtain ⟨V1, hV1⟩ : ∃ V1, valU ((l.take (0 + 1)).drop (0 + 1 - j)) = V1 := ⟨_, rfl⟩
                    rw [hV1] at hw2 hw3 ⊢
                    have HV1 := Lib.hid hV1
                    clear hV1
                    generalize l[0 - j] = b2 at *
                    (try rw [Nat.zero_sub, Nat.add_zero] at cj)
                    have hk0 : (0 : Int) ≤ ((0 - j : Nat) : Int) := by omega
                    have hk1 : ((0 - j : Nat) : Int) < (l.length : Int) := by omega
                    go_wp2_with fail
                    exact ⟨⟨j + 1, by omega, congrArg _ (by omega), congrArg _ (by rw [HST.out]; simp only [valU]; rw [HV1.out]; omega), hgj⟩, by simp [intOf] <;> omega⟩
                  · obtain rfl : j = 0 + 1 := by omega
                    have hz : ((0 : Nat) : Int) - ((0 + 1 : Nat) : Int) = -1 := by omega
                    rw [hz]
                    clear hz
                    go_wp2_with fail
                    go_ret3
                    exact retVal (by rw [HF.out]; simp) hgj
              · have h0' : (0 : Int) < (i : Int) := by omega
                have h1'' : ((l[i].toNat : Int) == 0) = false := by rw [beq_eq_false_iff_ne]; omega
                have HF := Lib.hid (HOk.out (by omega) hil (by omega))
                have hTw := HW.out
                rw [HF.out] at hTw
                have HTw := Lib.hid (show valU (l.take (i + 1)) < 18446744073709551616 from hTw)
                clear hTw
                go_wp2_with fail
                go_loopw [2, 6] (fun s2 s6 wk => ∃ j : Nat, j ≤ i + 1 ∧ s6 = .int .i64 ((i : Nat) - (j : Int)) ∧ s2 = .int .u64 (valU ((l.take (i + 1)).drop (i + 1 - j))) ∧ w.grownBy wk none) (fun _ s6 _ => ((intOf s6) + 1).toNat)
                case atStart => exact ⟨0, Nat.zero_le _, by go_num, by rw [List.drop_of_length_le (by rw [List.length_take]; omega)]; rfl, hg⟩
                case round =>
                  obtain ⟨j, hj, rfl, rfl, hgj⟩ := hrel
                  by_cases hjM : j ≤ i
                  · have hk : i - j < l.length := by omega
                    obtain ⟨g2, off2, cap2, hv2, hgl2, cj⟩ := (RdL.same H.out hgj).one by_one hk
                    cases hv2
                    have hst : (l.take (i + 1)).drop (i + 1 - (j + 1)) = l[i - j] :: (l.take (i + 1)).drop (i + 1 - j) := by
                      rw [show i + 1 - (j + 1) = i - j by omega, List.drop_eq_getElem_cons (by rw [List.length_take]; omega)]
                      congr 1
                      · simp
                      · congr 1; omega
                    have hle := valU_drop (l.take (i + 1)) (i + 1 - (j + 1))
                    rw [hst] at hle
                    have HST := Lib.hid hst
                    have hTw := HTw.out
                    have hbt := (l[i - j]).toNat_lt
                    simp only [valU] at hle
                    have hw1 : IntKind.u64.wrap (((l[i - j]).toNat : Int) % 128) = ((l[i - j]).toNat : Int) % 128 := IntWalk.u64_in _ (by omega)
                    have hw2 : IntKind.u64.wrap ((valU ((l.take (i + 1)).drop (i + 1 - j)) : Int) * 128) = (valU ((l.take (i + 1)).drop (i + 1 - j)) : Int) * 128 := IntWalk.u64_in _ (by omega)
                    have hw3 : IntKind.u64.wrap ((valU ((l.take (i + 1)).drop (i + 1 - j)) : Int) * 128 + ((l[i - j]).toNat : Int) % 128) = (valU ((l.take (i + 1)).drop (i + 1 - j)) : Int) * 128 + ((l[i - j]).toNat : Int) % 128 := IntWalk.u64_in _ (by omega)
                    have hij : ((i : Nat) : Int) - (j : Int) = ((i - j : Nat) : Int) := by omega
                    rw [hij]
                    have HIJ := Lib.hid hij
                    clear hst hle hTw hij
                    obtain ⟨V1, hV1⟩ : ∃ V1, valU ((l.take (i + 1)).drop (i + 1 - j)) = V1 := ⟨_, rfl⟩
                    rw [hV1] at hw2 hw3 ⊢
                    have HV1 := Lib.hid hV1
                    clear hV1
                    generalize l[i - j] = b2 at *
                    (try rw [Nat.zero_sub, Nat.add_zero] at cj)
                    have hk0 : (0 : Int) ≤ ((i - j : Nat) : Int) := by omega
                    have hk1 : ((i - j : Nat) : Int) < (l.length : Int) := by omega
                    go_wp2_with fail
                    exact ⟨⟨j + 1, by omega, congrArg _ (by omega), congrArg _ (by rw [HST.out]; simp only [valU]; rw [HV1.out]; omega), hgj⟩, by simp [intOf] <;> omega⟩
                  · obtain rfl : j = i + 1 := by omega
                    have hz : ((i : Nat) : Int) - ((i + 1 : Nat) : Int) = -1 := by omega
                    rw [hz]
                    clear hz
                    go_wp2_with fail
                    go_ret3
                    exact retVal (by rw [HF.out]; simp) hgj
        · have HF := Lib.hid (HSh.out (by omega) (by omega))
          obtain rfl : i = l.length := by omega
          have h10' : ¬ ((l.length : Int) = 10) := by omega
          go_wp2_with fail
          go_ret3
          exact retVal (by rw [HF.out]; rfl) hg
end Go.Proofs.Ytniokdflljchgaa
