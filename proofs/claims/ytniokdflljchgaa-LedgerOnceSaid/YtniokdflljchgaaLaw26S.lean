/- The walk of the law LedgerSteps. -/
import Derived.Test.YtniokdflljchgaaLaw26
import Derived.Test.YtniokdflljchgaaRled5
import Derived.Test.YtniokdflljchgaaBits
import Derived.Deep.CutBlock
namespace Go.Proofs.Ytniokdflljchgaa
open Go.RowKit Go.Maps Go.Sort

theorem Led.up {w : World} {b bm n : Nat} {L : List (Int × Int)} {acc : Int} {R : List Int} (h : Led w b bm n L acc R) : Led w b bm (n + 1) L acc R := by
  obtain ⟨D, h1, h2⟩ := h.own
  exact ⟨h.blk, ⟨D, h1.mono (Nat.le_succ n), h2⟩, h.asc, h.keys, h.vals, h.rl, h.rw, h.ne⟩
theorem s_base {w0 w w' : World} {S : Nat → Prop} (h : w0.grownBy w none) (k : GrownS S w w') (hS : ∀ i, S i → w0.heap.size ≤ i) : w0.grownBy w' none := k.base h hS
theorem ldPut_len (w n : Int) : ∀ L : List (Int × Int), (ldPut L w n).length ≤ L.length + 1
  | [] => by simp [ldPut]
  | p :: L => by
    simp only [ldPut]
    split
    · have := ldPut_len w n L; simp; omega
    · split <;> simp
theorem ldDel_len (L : List (Int × Int)) (w : Int) : (ldDel L w).length ≤ L.length := by
  induction L with
  | nil => simp [ldDel]
  | cons p L ih =>
    simp only [ldDel]
    split <;> simp <;> omega
theorem accL_len (L : List (Int × Int)) (w x : Int) : (accL L w x).length ≤ L.length + 1 := by
  unfold accL; split
  · exact ldPut_len w x L
  · omega
theorem sameInts_t (v v' : Value) (L : List Int) (w : World) (h : RdL intF 1 w v L) (h' : RdL intF 1 w v' L) : Calls Try.prog 34 #[v, v'] w (RetBool true w) := by
  have := sameInts_c v v' L L w h h'
  rwa [decide_eq_true rfl] at this
theorem sameWords_t (v v' : Value) (L : List Int) (w : World) (h : RdL wordF 1 w v L) (h' : RdL wordF 1 w v' L) : Calls Try.prog 38 #[v, v'] w (RetBool true w) := by
  have := sameWords_c v v' L L w h h'
  rwa [decide_eq_true rfl] at this
theorem accN_le (L : List (Int × Int)) (w x acc : Int) : acc ≤ accN L w x acc ∧ accN L w x acc ≤ acc + 1 := by
  unfold accN; split <;> omega

set_option maxHeartbeats 4000000 in
set_option maxRecDepth 100000 in
theorem steps_w (sv wv : Value) (ss ws : List Int) (raw : Int) (w : World) (hsv : RdL intF 1 w sv ss) (hwv : RdL wordF 1 w wv ws) (hws : ∀ x ∈ ws, W64 x) (hss : ∀ x ∈ ss, I64 x) (hraw : I64 raw) :
    Calls Try.prog 8 #[sv, wv, .int .i64 raw] w (RetBool true w) := by
  obtain ⟨sa, sc, rfl⟩ := hsv.shape
  obtain ⟨wa, wc, rfl⟩ := hwv.shape
  have hm1 := hsv.2.1
  have hm2 := hwv.2.1
  have HSV := Lib.hid hsv
  have HWV := Lib.hid hwv
  have HWS := Lib.hid hws
  have HSS := Lib.hid hss
  have HRW := Lib.hid hraw
  clear hsv hwv hws hss hraw
  go_enter Try.func8, Try.ntmps8
  go_upto_region 2 with (first
    | (go_at_call 19; refine (ledNew_c _).mono ?_; rintro e w1 ⟨b, bm, rfl, h1, hb, hbm, hb1, hbm1, g1⟩)
    | (go_at_call 27; refine (rledNew_c _).mono ?_; rintro e w2 ⟨q, rfl, q2, g2⟩))
  have H1 := Lib.hid (h1.same g2)
  have HQ1 := Lib.hid q2
  have HG1 := Lib.hid (grownBy_trans g1 g2)
  have HB1 := Lib.hid g2.size
  have hsz := g1.size
  clear h1 q2 g1 g2
  obtain ⟨B0, hB0⟩ : ∃ B0, w1.heap.size = B0 := ⟨_, rfl⟩
  rw [hB0] at HQ1 HB1 hb1 hbm1 hsz
  clear hB0
  obtain ⟨S, hSd⟩ : ∃ S : Nat → Prop, S = fun i => B0 ≤ i := ⟨_, rfl⟩
  rw [← hSd] at HQ1
  have HS := Lib.hid (show ∀ i, B0 ≤ i → S i by rw [hSd]; exact fun i h => h)
  have HS0 := Lib.hid (show ∀ i, S i → w.heap.size ≤ i by rw [hSd]; exact fun i h => Nat.le_trans hsz h)
  have HSb := Lib.hid (show ¬ S b ∧ ¬ S bm by rw [hSd]; exact ⟨by omega, by omega⟩)
  have HSB := Lib.hid (show ∀ i, S i → ¬ Two b bm i by rw [hSd]; rintro i h (rfl | rfl) <;> omega)
  clear hSd hb1 hbm1 hsz
  go_wp2_with fail
  go_loopw [9] (fun s9 wk => ∃ (k : Nat) (L : List (Int × Int)) (acc : Int) (R : List Int), k ≤ ss.length ∧ k ≤ 60 ∧ L.length ≤ k ∧ s9 = .int .i64 k ∧ 0 ≤ acc ∧ acc ≤ k ∧ Led wk b bm k L acc R ∧ RLed S wk q L acc R ∧ B0 ≤ wk.heap.size ∧ w.grownBy wk none) (fun s9 _ => ss.length - (Go.RowKit.intOf s9).toNat)
  case atStart => exact ⟨0, [], 0, _, Nat.zero_le _, by omega, by simp, rfl, by omega, by omega, H1.out, HQ1.out, HB1.out, HG1.out⟩
  case round =>
    obtain ⟨k, L, acc, R, hk, hk2, hLk, rfl, ha0, ha1, hL, hRL, hB, hg⟩ := hrel
    have HL := Lib.hid hL
    have HRL := Lib.hid hRL
    have HB := Lib.hid hB
    have HG := Lib.hid hg
    clear H1 HQ1 HG1 HB1 hL hRL hB hg
    by_cases hlt : k < ss.length ∧ k < 60
    · obtain ⟨hlt, hlt60⟩ := hlt
      obtain ⟨g, off, cap, hv, hgl, ck⟩ := (RdL.same HSV.out HG.out).one int_one hlt
      cases hv
      have hs := HSS.out _ (List.getElem_mem hlt)
      generalize ss[k] = s at *
      unfold I64 at hs
      have hlt2 : (k : Int) < (ss.length : Int) := by omega
      have hk0 : (0 : Int) ≤ (k : Int) := by omega
      have hlt3 : (k : Int) < 60 := by omega
      have hA : bits .and .i64 (s / 8) 7 = s / 8 % 8 := and_low _ 3 (by omega)
      have hA2 : bits .and .i64 (s / 64) 15 = s / 64 % 16 := and_low _ 4 (by omega)
      go_upto_if 44 with fail
      clear hA hA2 ck
      go_cut [11, 45] (fun s11 _ wx => (∃ win, s11 = .int .i64 win ∧ I64 win) ∧ wr = wx)
      case first =>
        by_cases hz : s / 64 % 16 = 0
        · go_wp2_with fail
          go_meet
          exact ⟨⟨raw, rfl, HRW.out⟩, rfl⟩
        · go_wp2_with fail
          go_meet
          exact ⟨⟨s / 8 % 8, rfl, by unfold I64; omega⟩, rfl⟩
      case rest =>
      obtain ⟨⟨win, rfl, hw⟩, rfl⟩ := hcut
      rename_i hK
      refine hK _ _ ?_
      clear hK
      have HI := Lib.hid hw
      have hA : bits .and .i64 (s / 1024) 255 = s / 1024 % 256 := and_low _ 8 (by omega)
      have hA2 : bits .and .i64 (s / 262144) 3 = s / 262144 % 4 := and_low _ 2 (by omega)
      have hwr : IntKind.u64.wrap (s / 1024 % 256) = s / 1024 % 256 := IntWalk.u64_in _ (by omega)
      have HX0 := Lib.hid (show W64 (s / 1024 % 256) by unfold W64; omega)
      generalize s / 1024 % 256 = x0 at *
      clear hw
      obtain ⟨c, hc⟩ : ∃ c : Bool, c = decide (k < ws.length ∧ s / 262144 % 4 = 0) := ⟨_, rfl⟩
      have Hc := Lib.hid hc
      clear hc
      go_upto_region 12 with fail
      go_cut [50, 51, 52, 53, 54, 55, 56, 57, 58, 59] (fun _ _ _ _ _ _ _ _ _ s59 wx => s59 = .bool c ∧ wr = wx)
      case first =>
        by_cases hkw : k < ws.length
        · have hkw2 : (k : Int) < (ws.length : Int) := by omega
          by_cases hz : s / 262144 % 4 = 0
          · go_wp2_with fail
            go_meet
            exact ⟨by rw [Hc.out, decide_eq_true ⟨hkw, hz⟩], rfl⟩
          · go_wp2_with fail
            go_meet
            exact ⟨by rw [Hc.out, decide_eq_false (fun h => hz h.2)]; simp [hz], rfl⟩
        · have hkw2 : ¬ ((k : Int) < (ws.length : Int)) := by omega
          go_wp2_with fail
          go_meet
          exact ⟨by rw [Hc.out, decide_eq_false (fun h => hkw h.1)], rfl⟩
      case rest =>
      obtain ⟨rfl, rfl⟩ := hcut
      rename_i hK
      refine hK _ _ ?_
      clear hK hA hA2 hwr
      go_upto_if 59 with fail
      go_cut [12, 60, 61, 62, 63] (fun s12 _ _ _ _ wx => (∃ x, s12 = .int .u64 x ∧ W64 x) ∧ wr = wx)
      case first =>
        cases c
        · go_wp2_with fail
          go_meet
          exact ⟨⟨x0, rfl, HX0.out⟩, rfl⟩
        · have hkw := (of_decide_eq_true Hc.out.symm).1
          obtain ⟨g2, off2, cap2, hv2, hgl2, ck2⟩ := (RdL.same HWV.out HG.out).one word_one hkw
          cases hv2
          have HX1 := Lib.hid (HWS.out _ (List.getElem_mem hkw))
          generalize ws[k] = x1 at *
          have hkw2 : (k : Int) < (ws.length : Int) := by omega
          go_wp2_with fail
          go_meet
          exact ⟨⟨x1, rfl, HX1.out⟩, rfl⟩
      case rest =>
      obtain ⟨⟨x, rfl, hx⟩, rfl⟩ := hcut
      apply_assumption
      clear HX0 Hc
      have HX := Lib.hid hx
      clear hx
      have hA : bits .and .i64 s 7 = s % 8 := and_low s 3 (by omega)
      obtain ⟨r, hr⟩ : ∃ r, s % 8 = r := ⟨_, rfl⟩
      rw [hr] at hA
      have hr8 : r = 0 ∨ r = 1 ∨ r = 2 ∨ r = 3 ∨ r = 4 ∨ r = 5 ∨ r = 6 ∨ r = 7 := by omega
      clear hr
      go_upto_block 2 with fail
      clear hA
      go_cut [13, 14, 15, 16] (fun _ _ _ _ wx => ∃ L' acc' R', Led wx b bm (k + 1) L' acc' R' ∧ RLed S wx q L' acc' R' ∧ B0 ≤ wx.heap.size ∧ w.grownBy wx none ∧ L'.length ≤ k + 1 ∧ 0 ≤ acc' ∧ acc' ≤ k + 1)
      case first =>
        rcases hr8 with rfl | rfl | rfl | rfl | rfl | rfl | rfl | rfl
        · have CF1 := Lib.hid (ledFits_c b bm k L acc R win x wr HL.out HI.out HX.out)
          have CF2 := Lib.hid fun w' (h : World.grownBy wr w' none) => rledFits_c S q L acc R win x w' (HRL.out.same h) HX.out
          have CC1 := Lib.hid fun w' (h : World.grownBy wr w' none) => ledAccept_c b bm k L acc R win x w' (HL.out.same h) HI.out HX.out (by omega) (by omega)
          have CC2 := Lib.hid fun w' (h : RLed S w' q L acc R) (hs : ∀ i, w'.heap.size ≤ i → S i) => rledAccept_c S q L acc R win x w' h hs HI.out HX.out (by omega) (by omega)
          have hlen := accL_len L win x
          have hacc := accN_le L win x acc
          obtain ⟨F, hF⟩ : ∃ F, fitsB (ldAt L win) x = F := ⟨_, rfl⟩
          rw [hF] at CF1 CF2 CC1 CC2
          have hFF : (F != F) = false := by cases F <;> rfl
          clear hF
          generalize accL L win x = L' at *
          generalize accN L win x acc = acc' at *
          go_wp2_with (first
            | (go_at_call 22; refine CF1.out.mono ?_; rintro e w2 ⟨rfl, g2⟩)
            | (go_at_call 28; refine (CF2.out _ g2).mono ?_; rintro e w3 ⟨rfl, g3⟩; have G3 := grownBy_trans g2 g3)
            | (go_at_call 23; refine (CC1.out _ G3).mono ?_; rintro e w4 ⟨rfl, h4, k4⟩; have r4 := (HRL.out.same G3).keptS k4 HSB.out; have z4 := Nat.le_trans HB.out (Nat.le_trans G3.size k4.size))
            | (go_at_call 29; refine (CC2.out _ r4 (fun i hi => HS.out i (Nat.le_trans z4 hi))).mono ?_; rintro e w5 ⟨rfl, h5, k5⟩))
          have HP := Lib.hid (h4.keptS k5 HSb.out.1 HSb.out.2)
          have HQ := Lib.hid h5
          replace HG := Lib.hid (s_base (two_base (grownBy_trans HG.out G3) k4 hb hbm) k5 HS0.out)
          replace HB := Lib.hid (Nat.le_trans z4 k5.size)
          clear CF1 CF2 CC1 CC2 h4 h5 k4 k5 r4 z4 g2 g3 G3
          go_meet
          exact ⟨L', acc', R, HP.out, HQ.out, HB.out, HG.out, by omega, by omega, by omega⟩
        · have CF1 := Lib.hid (ledFits_c b bm k L acc R win x wr HL.out HI.out HX.out)
          have CF2 := Lib.hid fun w' (h : World.grownBy wr w' none) => rledFits_c S q L acc R win x w' (HRL.out.same h) HX.out
          have CC1 := Lib.hid fun w' (h : World.grownBy wr w' none) => ledAccept_c b bm k L acc R win x w' (HL.out.same h) HI.out HX.out (by omega) (by omega)
          have CC2 := Lib.hid fun w' (h : RLed S w' q L acc R) (hs : ∀ i, w'.heap.size ≤ i → S i) => rledAccept_c S q L acc R win x w' h hs HI.out HX.out (by omega) (by omega)
          have hlen := accL_len L win x
          have hacc := accN_le L win x acc
          obtain ⟨F, hF⟩ : ∃ F, fitsB (ldAt L win) x = F := ⟨_, rfl⟩
          rw [hF] at CF1 CF2 CC1 CC2
          have hFF : (F != F) = false := by cases F <;> rfl
          clear hF
          generalize accL L win x = L' at *
          generalize accN L win x acc = acc' at *
          go_wp2_with (first
            | (go_at_call 22; refine CF1.out.mono ?_; rintro e w2 ⟨rfl, g2⟩)
            | (go_at_call 28; refine (CF2.out _ g2).mono ?_; rintro e w3 ⟨rfl, g3⟩; have G3 := grownBy_trans g2 g3)
            | (go_at_call 23; refine (CC1.out _ G3).mono ?_; rintro e w4 ⟨rfl, h4, k4⟩; have r4 := (HRL.out.same G3).keptS k4 HSB.out; have z4 := Nat.le_trans HB.out (Nat.le_trans G3.size k4.size))
            | (go_at_call 29; refine (CC2.out _ r4 (fun i hi => HS.out i (Nat.le_trans z4 hi))).mono ?_; rintro e w5 ⟨rfl, h5, k5⟩))
          have HP := Lib.hid (h4.keptS k5 HSb.out.1 HSb.out.2)
          have HQ := Lib.hid h5
          replace HG := Lib.hid (s_base (two_base (grownBy_trans HG.out G3) k4 hb hbm) k5 HS0.out)
          replace HB := Lib.hid (Nat.le_trans z4 k5.size)
          clear CF1 CF2 CC1 CC2 h4 h5 k4 k5 r4 z4 g2 g3 G3
          go_meet
          exact ⟨L', acc', R, HP.out, HQ.out, HB.out, HG.out, by omega, by omega, by omega⟩
        · have CF1 := Lib.hid (ledFits_c b bm k L acc R win x wr HL.out HI.out HX.out)
          have CF2 := Lib.hid fun w' (h : World.grownBy wr w' none) => rledFits_c S q L acc R win x w' (HRL.out.same h) HX.out
          have CC1 := Lib.hid fun w' (h : World.grownBy wr w' none) => ledAccept_c b bm k L acc R win x w' (HL.out.same h) HI.out HX.out (by omega) (by omega)
          have CC2 := Lib.hid fun w' (h : RLed S w' q L acc R) (hs : ∀ i, w'.heap.size ≤ i → S i) => rledAccept_c S q L acc R win x w' h hs HI.out HX.out (by omega) (by omega)
          have hlen := accL_len L win x
          have hacc := accN_le L win x acc
          obtain ⟨F, hF⟩ : ∃ F, fitsB (ldAt L win) x = F := ⟨_, rfl⟩
          rw [hF] at CF1 CF2 CC1 CC2
          have hFF : (F != F) = false := by cases F <;> rfl
          clear hF
          generalize accL L win x = L' at *
          generalize accN L win x acc = acc' at *
          go_wp2_with (first
            | (go_at_call 22; refine CF1.out.mono ?_; rintro e w2 ⟨rfl, g2⟩)
            | (go_at_call 28; refine (CF2.out _ g2).mono ?_; rintro e w3 ⟨rfl, g3⟩; have G3 := grownBy_trans g2 g3)
            | (go_at_call 23; refine (CC1.out _ G3).mono ?_; rintro e w4 ⟨rfl, h4, k4⟩; have r4 := (HRL.out.same G3).keptS k4 HSB.out; have z4 := Nat.le_trans HB.out (Nat.le_trans G3.size k4.size))
            | (go_at_call 29; refine (CC2.out _ r4 (fun i hi => HS.out i (Nat.le_trans z4 hi))).mono ?_; rintro e w5 ⟨rfl, h5, k5⟩))
          have HP := Lib.hid (h4.keptS k5 HSb.out.1 HSb.out.2)
          have HQ := Lib.hid h5
          replace HG := Lib.hid (s_base (two_base (grownBy_trans HG.out G3) k4 hb hbm) k5 HS0.out)
          replace HB := Lib.hid (Nat.le_trans z4 k5.size)
          clear CF1 CF2 CC1 CC2 h4 h5 k4 k5 r4 z4 g2 g3 G3
          go_meet
          exact ⟨L', acc', R, HP.out, HQ.out, HB.out, HG.out, by omega, by omega, by omega⟩
        · have CF1 := Lib.hid (ledFits_c b bm k L acc R win x wr HL.out HI.out HX.out)
          have CF2 := Lib.hid fun w' (h : World.grownBy wr w' none) => rledFits_c S q L acc R win x w' (HRL.out.same h) HX.out
          have CC1 := Lib.hid fun w' (h : World.grownBy wr w' none) => ledAccept_c b bm k L acc R win x w' (HL.out.same h) HI.out HX.out (by omega) (by omega)
          have CC2 := Lib.hid fun w' (h : RLed S w' q L acc R) (hs : ∀ i, w'.heap.size ≤ i → S i) => rledAccept_c S q L acc R win x w' h hs HI.out HX.out (by omega) (by omega)
          have hlen := accL_len L win x
          have hacc := accN_le L win x acc
          obtain ⟨F, hF⟩ : ∃ F, fitsB (ldAt L win) x = F := ⟨_, rfl⟩
          rw [hF] at CF1 CF2 CC1 CC2
          have hFF : (F != F) = false := by cases F <;> rfl
          clear hF
          generalize accL L win x = L' at *
          generalize accN L win x acc = acc' at *
          go_wp2_with (first
            | (go_at_call 22; refine CF1.out.mono ?_; rintro e w2 ⟨rfl, g2⟩)
            | (go_at_call 28; refine (CF2.out _ g2).mono ?_; rintro e w3 ⟨rfl, g3⟩; have G3 := grownBy_trans g2 g3)
            | (go_at_call 23; refine (CC1.out _ G3).mono ?_; rintro e w4 ⟨rfl, h4, k4⟩; have r4 := (HRL.out.same G3).keptS k4 HSB.out; have z4 := Nat.le_trans HB.out (Nat.le_trans G3.size k4.size))
            | (go_at_call 29; refine (CC2.out _ r4 (fun i hi => HS.out i (Nat.le_trans z4 hi))).mono ?_; rintro e w5 ⟨rfl, h5, k5⟩))
          have HP := Lib.hid (h4.keptS k5 HSb.out.1 HSb.out.2)
          have HQ := Lib.hid h5
          replace HG := Lib.hid (s_base (two_base (grownBy_trans HG.out G3) k4 hb hbm) k5 HS0.out)
          replace HB := Lib.hid (Nat.le_trans z4 k5.size)
          clear CF1 CF2 CC1 CC2 h4 h5 k4 k5 r4 z4 g2 g3 G3
          go_meet
          exact ⟨L', acc', R, HP.out, HQ.out, HB.out, HG.out, by omega, by omega, by omega⟩
        · have CC1 := Lib.hid (ledReject_c b bm k L acc R win wr HL.out)
          have CC2 := Lib.hid fun w' (h : RLed S w' q L acc R) => rledReject_c S q L acc R win w' h
          have hEE : (rejE win != rejE win) = false := by simp
          generalize rejE win = E at *
          generalize rejR R win = R' at *
          go_wp2_with (first
            | (go_at_call 25; refine CC1.out.mono ?_; rintro e w4 ⟨rfl, h4, k4⟩; have r4 := HRL.out.keptS k4 HSB.out; have z4 := Nat.le_trans HB.out k4.size)
            | (go_at_call 30; refine (CC2.out _ r4).mono ?_; rintro e w5 ⟨rfl, h5, k5⟩))
          have HP := Lib.hid ((h4.keptS k5 HSb.out.1 HSb.out.2).up)
          have HQ := Lib.hid h5
          replace HG := Lib.hid (s_base (two_base HG.out k4 hb hbm) k5 HS0.out)
          replace HB := Lib.hid (Nat.le_trans z4 k5.size)
          clear CC1 CC2 h4 h5 k4 k5 r4 z4 hEE
          go_meet
          exact ⟨L, acc, R', HP.out, HQ.out, HB.out, HG.out, by omega, by omega, by omega⟩
        · have CC1 := Lib.hid (ledReject_c b bm k L acc R win wr HL.out)
          have CC2 := Lib.hid fun w' (h : RLed S w' q L acc R) => rledReject_c S q L acc R win w' h
          have hEE : (rejE win != rejE win) = false := by simp
          generalize rejE win = E at *
          generalize rejR R win = R' at *
          go_wp2_with (first
            | (go_at_call 25; refine CC1.out.mono ?_; rintro e w4 ⟨rfl, h4, k4⟩; have r4 := HRL.out.keptS k4 HSB.out; have z4 := Nat.le_trans HB.out k4.size)
            | (go_at_call 30; refine (CC2.out _ r4).mono ?_; rintro e w5 ⟨rfl, h5, k5⟩))
          have HP := Lib.hid ((h4.keptS k5 HSb.out.1 HSb.out.2).up)
          have HQ := Lib.hid h5
          replace HG := Lib.hid (s_base (two_base HG.out k4 hb hbm) k5 HS0.out)
          replace HB := Lib.hid (Nat.le_trans z4 k5.size)
          clear CC1 CC2 h4 h5 k4 k5 r4 z4 hEE
          go_meet
          exact ⟨L, acc, R', HP.out, HQ.out, HB.out, HG.out, by omega, by omega, by omega⟩
        · have CC1 := Lib.hid (ledClose_c b bm k L acc R win wr HL.out HI.out)
          have CC2 := Lib.hid fun w' (h : RLed S w' q L acc R) (hs : ∀ i, w'.heap.size ≤ i → S i) => rledClose_c S q L acc R win w' h hs (by omega)
          have hlen := ldDel_len L win
          have hT2 : (ldAt L win != ldAt L win) = false := by simp
          have hH2 : (ldHas L win != ldHas L win) = false := by simp
          generalize ldAt L win = T2 at *
          generalize ldHas L win = F2 at *
          generalize ldDel L win = L' at *
          go_wp2_with (first
            | (go_at_call 31; refine CC1.out.mono ?_; rintro e w4 ⟨rfl, h4, k4⟩; have r4 := HRL.out.keptS k4 HSB.out; have z4 := Nat.le_trans HB.out k4.size)
            | (go_at_call 32; refine (CC2.out _ r4 (fun i hi => HS.out i (Nat.le_trans z4 hi))).mono ?_; rintro e w5 ⟨rfl, h5, k5⟩))
          have HP := Lib.hid ((h4.keptS k5 HSb.out.1 HSb.out.2).up)
          have HQ := Lib.hid h5
          replace HG := Lib.hid (s_base (two_base HG.out k4 hb hbm) k5 HS0.out)
          replace HB := Lib.hid (Nat.le_trans z4 k5.size)
          clear CC1 CC2 h4 h5 k4 k5 r4 z4 hT2 hH2
          go_meet
          exact ⟨L', acc, R, HP.out, HQ.out, HB.out, HG.out, by omega, by omega, by omega⟩
        · have CC1 := Lib.hid (ledClose_c b bm k L acc R win wr HL.out HI.out)
          have CC2 := Lib.hid fun w' (h : RLed S w' q L acc R) (hs : ∀ i, w'.heap.size ≤ i → S i) => rledClose_c S q L acc R win w' h hs (by omega)
          have hlen := ldDel_len L win
          have hT2 : (ldAt L win != ldAt L win) = false := by simp
          have hH2 : (ldHas L win != ldHas L win) = false := by simp
          generalize ldAt L win = T2 at *
          generalize ldHas L win = F2 at *
          generalize ldDel L win = L' at *
          go_wp2_with (first
            | (go_at_call 31; refine CC1.out.mono ?_; rintro e w4 ⟨rfl, h4, k4⟩; have r4 := HRL.out.keptS k4 HSB.out; have z4 := Nat.le_trans HB.out k4.size)
            | (go_at_call 32; refine (CC2.out _ r4 (fun i hi => HS.out i (Nat.le_trans z4 hi))).mono ?_; rintro e w5 ⟨rfl, h5, k5⟩))
          have HP := Lib.hid ((h4.keptS k5 HSb.out.1 HSb.out.2).up)
          have HQ := Lib.hid h5
          replace HG := Lib.hid (s_base (two_base HG.out k4 hb hbm) k5 HS0.out)
          replace HB := Lib.hid (Nat.le_trans z4 k5.size)
          clear CC1 CC2 h4 h5 k4 k5 r4 z4 hT2 hH2
          go_meet
          exact ⟨L', acc, R, HP.out, HQ.out, HB.out, HG.out, by omega, by omega, by omega⟩
      case rest =>
      obtain ⟨L', acc', R', h5, r5, hB5, hG5, hl5, ha5, ha6⟩ := hcut
      apply_assumption
      have HP := Lib.hid h5
      have HQ := Lib.hid r5
      replace HG := Lib.hid hG5
      replace HB := Lib.hid hB5
      clear h5 r5 hG5 hB5 HL HRL HX hr8
      obtain ⟨T, hT⟩ : ∃ T, ldAt L' win = T := ⟨_, rfl⟩
      have hTT : (T != T) = false := by simp
      have hAA : ((acc') != (acc')) = false := by simp
      have CT1 := Lib.hid fun w' (h : World.grownBy wc w' none) => ledTotal_c b bm (k + 1) (L') (acc') (R') win w' (HP.out.same h) HI.out
      have CT2 := Lib.hid fun w' (h : World.grownBy wc w' none) => rledTotal_c S q (L') (acc') (R') win w' (HQ.out.same h)
      rw [hT] at CT1 CT2
      have CW1 := Lib.hid fun w' (h : World.grownBy wc w' none) => ledWindows_c b bm (k + 1) (L') (acc') (R') w' (HP.out.same h) (by omega)
      have CW2 := Lib.hid fun w' (h : World.grownBy wc w' none) => rledWindows_c S q (L') (acc') (R') w' (HQ.out.same h) (by omega)
      have CA1 := Lib.hid fun w' (h : World.grownBy wc w' none) => ledAccepted_c b bm (k + 1) (L') (acc') (R') w' (HP.out.same h)
      have CA2 := Lib.hid fun w' (h : World.grownBy wc w' none) => rledAccepted_c S q (L') (acc') (R') w' (HQ.out.same h)
      have CR1 := Lib.hid fun w' (h : World.grownBy wc w' none) => ledRejects_c b bm (k + 1) (L') (acc') (R') w' (HP.out.same h)
      have CR2 := Lib.hid fun w' (h : World.grownBy wc w' none) => rledRejects_c S q (L') (acc') (R') w' (HQ.out.same h)
      clear hT
      generalize (L').map (·.1) = WL at *
      have K6 := grownBy_refl wc none
      go_wp2_with (first
        | (go_at_call 20; refine (CT1.out _ K6).mono ?_; rintro e w7 ⟨rfl, g7⟩; have K7 := grownBy_trans K6 g7)
        | (go_at_call 33; refine (CT2.out _ K7).mono ?_; rintro e w8 ⟨rfl, g8⟩; have K8 := grownBy_trans K7 g8)
        | (go_at_call 35; refine (CW1.out _ K8).mono ?_; rintro e w9 ⟨v9, rfl, o9, g9⟩; have K9 := grownBy_trans K8 g9)
        | (go_at_call 36; refine (CW2.out _ K9).mono ?_; rintro e w10 ⟨v10, rfl, o10, g10⟩; have K10 := grownBy_trans K9 g10)
        | (go_at_call 34; refine (sameInts_t v9 v10 WL _ (RdL.same o9.rd g10) o10.rd).mono ?_; rintro e w11 ⟨rfl, g11⟩; have K11 := grownBy_trans K10 g11)
        | (go_at_call 21; refine (CA1.out _ K11).mono ?_; rintro e w12 ⟨rfl, g12⟩; have K12 := grownBy_trans K11 g12)
        | (go_at_call 37; refine (CA2.out _ K12).mono ?_; rintro e w13 ⟨rfl, g13⟩; have K13 := grownBy_trans K12 g13)
        | (go_at_call 26; refine (CR1.out _ K13).mono ?_; rintro e w14 ⟨v14, rfl, o14, g14⟩; have K14 := grownBy_trans K13 g14)
        | (go_at_call 39; refine (CR2.out _ K14).mono ?_; rintro e w15 ⟨v15, rfl, o15, g15⟩; have K15 := grownBy_trans K14 g15)
        | (go_at_call 38; refine (sameWords_t v14 v15 (R') _ (RdL.same o14.rd g15) o15.rd).mono ?_; rintro e w16 ⟨rfl, g16⟩; have K16 := grownBy_trans K15 g16))
      exact ⟨⟨k + 1, L', acc', R', by omega, by omega, by omega, by go_num, by omega, by omega, HP.out.same K16, HQ.out.same K16, Nat.le_trans HB.out K16.size, grownBy_trans HG.out K16⟩, by simp [Go.RowKit.intOf]; omega⟩
    · have hn : ¬ ((k : Int) < (ss.length : Int)) ∨ ¬ ((k : Int) < 60) := by omega
      clear HL HRL HB
      rcases hn with hn | hn
      · go_wp2_with (first
          | (go_at_call 31; refine (nilClose_c _ _).mono ?_; rintro e w7 ⟨rfl, g7⟩)
          | (go_at_call 22; refine (nilFits_c _ _ _).mono ?_; rintro e w8 ⟨rfl, g8⟩)
          | (go_at_call 23; refine (nilAccept_c _ _ _).mono ?_; rintro e w9 ⟨rfl, g9⟩)
          | (go_at_call 25; refine (nilReject_c _ _).mono ?_; rintro e w10 ⟨rfl, g10⟩)
          | (go_at_call 20; refine (nilTotal_c _ _).mono ?_; rintro e w11 ⟨rfl, g11⟩)
          | (go_at_call 35; refine (nilWindows_c _).mono ?_; rintro e w12 ⟨rfl, g12⟩)
          | (go_at_call 21; refine (nilAccepted_c _).mono ?_; rintro e w13 ⟨rfl, g13⟩)
          | (go_at_call 26; refine (nilRejects_c _).mono ?_; rintro e w14 ⟨rfl, g14⟩)
          | (go_at_call 24; refine (awake26_c _).mono ?_; rintro e w15 ⟨rfl, g15⟩))
        go_ret
        exact retBool rfl (grownBy_trans (grownBy_trans (grownBy_trans (grownBy_trans (grownBy_trans (grownBy_trans (grownBy_trans (grownBy_trans (grownBy_trans HG.out g7) g8) g9) g10) g11) g12) g13) g14) g15)
      · by_cases hn2 : (k : Int) < (ss.length : Int)
        · go_wp2_with (first
            | (go_at_call 31; refine (nilClose_c _ _).mono ?_; rintro e w7 ⟨rfl, g7⟩)
            | (go_at_call 22; refine (nilFits_c _ _ _).mono ?_; rintro e w8 ⟨rfl, g8⟩)
            | (go_at_call 23; refine (nilAccept_c _ _ _).mono ?_; rintro e w9 ⟨rfl, g9⟩)
            | (go_at_call 25; refine (nilReject_c _ _).mono ?_; rintro e w10 ⟨rfl, g10⟩)
            | (go_at_call 20; refine (nilTotal_c _ _).mono ?_; rintro e w11 ⟨rfl, g11⟩)
            | (go_at_call 35; refine (nilWindows_c _).mono ?_; rintro e w12 ⟨rfl, g12⟩)
            | (go_at_call 21; refine (nilAccepted_c _).mono ?_; rintro e w13 ⟨rfl, g13⟩)
            | (go_at_call 26; refine (nilRejects_c _).mono ?_; rintro e w14 ⟨rfl, g14⟩)
            | (go_at_call 24; refine (awake26_c _).mono ?_; rintro e w15 ⟨rfl, g15⟩))
          go_ret
          exact retBool rfl (grownBy_trans (grownBy_trans (grownBy_trans (grownBy_trans (grownBy_trans (grownBy_trans (grownBy_trans (grownBy_trans (grownBy_trans HG.out g7) g8) g9) g10) g11) g12) g13) g14) g15)
        · go_wp2_with (first
            | (go_at_call 31; refine (nilClose_c _ _).mono ?_; rintro e w7 ⟨rfl, g7⟩)
            | (go_at_call 22; refine (nilFits_c _ _ _).mono ?_; rintro e w8 ⟨rfl, g8⟩)
            | (go_at_call 23; refine (nilAccept_c _ _ _).mono ?_; rintro e w9 ⟨rfl, g9⟩)
            | (go_at_call 25; refine (nilReject_c _ _).mono ?_; rintro e w10 ⟨rfl, g10⟩)
            | (go_at_call 20; refine (nilTotal_c _ _).mono ?_; rintro e w11 ⟨rfl, g11⟩)
            | (go_at_call 35; refine (nilWindows_c _).mono ?_; rintro e w12 ⟨rfl, g12⟩)
            | (go_at_call 21; refine (nilAccepted_c _).mono ?_; rintro e w13 ⟨rfl, g13⟩)
            | (go_at_call 26; refine (nilRejects_c _).mono ?_; rintro e w14 ⟨rfl, g14⟩)
            | (go_at_call 24; refine (awake26_c _).mono ?_; rintro e w15 ⟨rfl, g15⟩))
          go_ret
          exact retBool rfl (grownBy_trans (grownBy_trans (grownBy_trans (grownBy_trans (grownBy_trans (grownBy_trans (grownBy_trans (grownBy_trans (grownBy_trans HG.out g7) g8) g9) g10) g11) g12) g13) g14) g15)
end Go.Proofs.Ytniokdflljchgaa
