/- Several texts in one file; each begins with a comment that says what is proved in it. -/
import Derived.Test.YtiagjiaahnkefaaBunAK
import Derived.Test.YtiagjiaahnkefaaBunAL
import Derived.Test.YtiagjiaahnkefaaBunAM
import Derived.Test.YtiagjiaahnkefaaBunAN
import Derived.Test.YtiagjiaahnkefaaBunAP
import Derived.Test.YtiagjiaahnkefaaBunAQ
import Derived.Test.YtiagjiaahnkefaaBunAR

/- The walk of the law ReportBack. -/
namespace Go.Proofs.Ytiagjiaahnkefaa
open Go.RowKit Go.Sort
attribute [local go_sem ↓] exec_load_cfg
attribute [local go_sem] run_loadCfgS

def EncIs (E : Int) (Y : List UInt8) (w : World) (e : Ending) (w' : World) : Prop := ∃ v, e = .returned (.tuple #[v, .int .i64 E]) ∧ Own byF 1 5 w.heap.size w' v Y ∧ w.grownBy w' none
theorem EncPost.is {r : Rep} {E : Int} {Y : List UInt8} {w : World} {e : Ending} {w' : World} (h : EncPost r w e w') (hE : repErr r = E) (hY : encR r = Y) : EncIs E Y w e w' := by
  subst hE hY; exact h
theorem decR_w (l : List UInt8) (vl vr : Value) : RepW (decV l vl vr) := by
  have key : ∀ r : Rep, RepW r → RepW ⟨r.win, r.tot, vl, r.over, r.trk, r.rest, vr, r.lines, r.rej⟩ := fun r h => ⟨h.win, h.tot, h.over, h.trk, h.rest, h.lines, h.rej⟩
  refine key (decR l) ?_
  unfold decR
  split
  · exact decD_w l
  · exact ⟨by unfold I64 repZ; simp, by unfold W64 repZ; simp, by unfold W64 repZ; simp, by unfold I64 repZ; simp, by unfold W64 repZ; simp, fun x hx => by simp [repZ] at hx, fun x hx => by simp [repZ] at hx⟩
/-- What was encoded is decoded as it was. -/
theorem dec_of_enc {r : Rep} (hW : RepW r) (h : repErr r = 0) : decE (encR r) = 0 ∧ (decR (encR r)).win = r.win ∧ (decR (encR r)).tot = r.tot ∧ (decR (encR r)).over = r.over ∧ (decR (encR r)).trk = r.trk ∧ (decR (encR r)).rest = r.rest ∧ (decR (encR r)).lines = r.lines ∧ (decR (encR r)).rej = r.rej := by
  have e : encR r = encF r := if_pos h
  have h1 := decE_enc hW h
  have h2 := decR_1 h1
  rw [dec_enc hW h] at h2
  rw [e, h2]
  exact ⟨h1, rfl, rfl, rfl, rfl, rfl, rfl, rfl⟩
/-- What can be decoded is the encoding of what it is decoded to. -/
theorem enc_of_dec {l : List UInt8} (h : decE l = 0) (vl vr : Value) : repErr (decV l vl vr) = 0 ∧ encR (decV l vl vr) = l := by
  obtain ⟨h1, h2⟩ := dec_back h
  have h3 := decR_1 h
  have h4 : repErr (decV l vl vr) = 0 := by unfold decV; rw [h3]; exact h2
  refine ⟨h4, ?_⟩
  unfold encR
  rw [if_pos h4]
  unfold decV
  rw [h3]
  exact h1

set_option maxHeartbeats 3200000 in
set_option maxRecDepth 100000 in
theorem rback_w (x0 : Rep) (ba : Option Addr) (bc : Nat) (bl : List UInt8) (sv : Value) (xs : List Int) (k : Nat) (at_ : Int) (by_ : UInt8) (w : World) (hR : RepRd w x0) (hW : RepW x0) (hbv : RdL byF 1 w (.slice ba bl.length bc) bl) (hbc : bl.length ≤ bc)
    (hsv : Rd w 1 sv k (xs.map (fun x => Value.int .i64 x))) :
    Calls Try.prog 5 #[repV x0.win x0.tot x0.vl x0.over x0.trk x0.rest x0.vr, .slice ba bl.length bc, sv, .int .i64 at_, .int .u8 by_.toNat] w (RetBool true w) := by
  have HS := Lib.hid hsv
  obtain ⟨sa, sc, rfl⟩ := hsv.shape
  have Hpl := Lib.hid fun w' (h : World.grownBy w w' none) => plain_c x0 w' (hR.same h)
  have HBv := Lib.hid hbv
  have HX0 := Lib.hid hR
  have HW0 := Lib.hid hW
  clear hsv hbv
  generalize plainB x0 = pb at *
  obtain ⟨la', lc', e1⟩ := hR.lines.shape
  obtain ⟨ja, jc, e2⟩ := hR.rej.shape
  obtain ⟨win, tot, vl, over, trk, rest, vr, ls, rj⟩ := x0
  dsimp only at *
  subst e1 e2
  clear hR hW
  have B1 := Blk.new w (repA win tot (.slice la' ls.length lc') over trk rest (.slice ja rj.length jc)) 26
  have G1 := grownBy_new_block (grownBy_refl w none) (.cells (repA win tot (.slice la' ls.length lc') over trk rest (.slice ja rj.length jc)) 26)
  have hw0 := B1.lt
  go_enter Try.func5, Try.ntmps5
  go_upto_region 1 with fail
  generalize w.alloc (.cells (repA win tot (.slice la' ls.length lc') over trk rest (.slice ja rj.length jc)) 26) = wa at *
  generalize w.heap.size = br at *
  have hblt := Lib.hid (fun ad (e : ba = some ad) (h0 : 0 < bl.length) => by subst e; exact Rd.blockLt HBv.out h0 _ _ _ rfl : ∀ ad, ba = some ad → 0 < bl.length → ad.block < w.heap.size)
  cases pb
  · go_wp2_with (first
      | (refine load_rep rfl _ rfl _ rfl B1 ?_)
      | (go_at_call 12; refine (Hpl.out _ G1).mono ?_; rintro e w1 ⟨rfl, g1⟩)
      | (go_at_call 13; refine (awake24_c _).mono ?_; rintro e w6 ⟨rfl, G6⟩))
    go_ret
    exact retBool rfl (grownBy_trans G1 (grownBy_trans g1 G6))
  by_cases hlen : 300 < bl.length
  · have hl2 : (300 : Int) < (bl.length : Int) := by omega
    go_wp2_with (first
      | (refine load_rep rfl _ rfl _ rfl B1 ?_)
      | (go_at_call 12; refine (Hpl.out _ G1).mono ?_; rintro e w1 ⟨rfl, g1⟩)
      | (go_at_call 13; refine (awake24_c _).mono ?_; rintro e w6 ⟨rfl, G6⟩))
    go_ret
    exact retBool rfl (grownBy_trans G1 (grownBy_trans g1 G6))
  have hl2 : ¬ (300 : Int) < (bl.length : Int) := by omega
  go_upto_region 3 with (first
    | (refine load_rep rfl _ rfl _ rfl B1 ?_)
    | (go_at_call 12; refine (Hpl.out _ G1).mono ?_; rintro e wb ⟨rfl, gb⟩))
  have B2 := B1.same gb
  have G2 := grownBy_trans G1 gb
  have HSb := Lib.hid (Rd.same HS.out G2)
  clear B1 G1 gb HS Hpl
  have HB0 := Lib.hid B2
  have HG0 := Lib.hid G2
  clear B2 G2
  go_upto_region 4 with (first | (go_at_call 14; refine (few24_c _ xs _ _ HSb.out).mono ?_; rintro e w1 ⟨c, lc, t, lv, l, win0, rej0, vl0, vr0, rfl, F1, P1, P2, P3, P4, P5, P6, P7, P8, G1⟩; (obtain ⟨la, lcp, rfl⟩ := F1.sums.rd.shape); (obtain ⟨a0, k0, rfl⟩ := P1.shape); (obtain ⟨b0, j0, rfl⟩ := P2.shape); have oc1 := F1.mem.one1; have oc2 := F1.mem.one2) | (refine alloc_cfg rfl rfl ?_; intro w2 B2 G2 z2) | (refine alloc_rep rfl rfl ?_; intro w3 A3 G3 z3; have B3 := B2.same G3) | (refine store_cfg rfl _ _ rfl _ rfl c rfl oc1 oc2 Cfg.zero (by assumption) ?_; intro w4 B4 G4; have A4 := A3.kept G4 (by simp; omega)) | (refine store_rep rfl _ _ rfl _ rfl rfl rfl rfl _ rfl (by assumption) ?_; intro w5 A5 G5; have B5 := B4.kept G5 (by simp; omega); have K5 := grownBy_new (grownBy_new (grownBy_trans G2 G3) G4 (Nat.le_refl _)) G5 (Nat.le_of_lt z2)))
  simp only [Act.put, List.setIfInBounds_toArray, List.set_cons_zero, List.set_cons_succ]
  have hw01 : 0 ≤ win0 ∧ win0 ≤ 1099511627776 := by omega
  have HXe := Lib.hid (built_ok F1 hw01 P6 P7 (.slice a0 (bLs c t l).length k0) (.slice b0 7 j0))
  have HXw := Lib.hid (built_w F1 hw01 (rej := rej0) (fun n hn => by have := P8 n hn; unfold W64; omega) (.slice a0 (bLs c t l).length k0) (.slice b0 7 j0))
  rw [P6] at P2 P4
  have HXr := Lib.hid (show RepRd w1 ⟨win0, totalF l, .slice a0 (bLs c t l).length k0, bOver c t l, ((keysF l).length : Int), bRest c t l, .slice b0 7 j0, bLs c t l, rej0⟩ from ⟨P1, P2, P3, P4⟩)
  have HLl := Lib.hid (show (bLs c t l).length ≤ 90000 by
    have h1 := bLs_len (t := t) F1
    have h2 := F1.nums.top
    omega)
  have HP6 := Lib.hid P6
  have KW := grownBy_trans HG0.out (grownBy_trans G1 K5)
  have HB5 := Lib.hid (HB0.out.same (grownBy_trans G1 K5))
  have HK5 := Lib.hid K5
  clear P1 P2 P3 P4 P5 P6 P7 P8 F1 B5 B4 B3 B2 A4 A3 G5 G4 G3 G2 HSb HB0 G1 oc1 oc2 hw01 K5
  generalize bLs c t l = Ls at *
  generalize bOver c t l = ov at *
  generalize bRest c t l = rst at *
  generalize totalF l = tt at *
  generalize ((keysF l).length : Int) = kn at *
  go_upto_region 5 with (first
    | (refine load_rep rfl _ rfl _ rfl HB5.out ?_)
    | (refine load_rep rfl _ rfl _ rfl A5 ?_))
  have Kz := World.grownBy_alloc w5 (.cells #[.int .i64 win, .int .u64 tot, .slice la' ls.length lc', .int .u64 over, .int .i64 trk, .int .u64 rest, .slice ja rj.length jc, .int .i64 win0, .int .u64 tt, .slice a0 Ls.length k0, .int .u64 ov, .int .i64 kn, .int .u64 rst, .slice b0 7 j0] 26) none
  have N6 := Lib.hid (Blk.new w5 #[.int .i64 win, .int .u64 tot, .slice la' ls.length lc', .int .u64 over, .int .i64 trk, .int .u64 rest, .slice ja rj.length jc, .int .i64 win0, .int .u64 tt, .slice a0 Ls.length k0, .int .u64 ov, .int .i64 kn, .int .u64 rst, .slice b0 7 j0] 26)
  have HA5 := Lib.hid A5
  clear A5
  obtain ⟨Rs, hRs⟩ : ∃ Rs : List Rep, [(⟨win, tot, .slice la' ls.length lc', over, trk, rest, .slice ja rj.length jc, ls, rj⟩ : Rep), ⟨win0, tt, .slice a0 Ls.length k0, ov, kn, rst, .slice b0 7 j0, Ls, rej0⟩] = Rs := ⟨_, rfl⟩
  have HL := Lib.hid (show RdL repF 7 (w5.alloc (.cells #[.int .i64 win, .int .u64 tot, .slice la' ls.length lc', .int .u64 over, .int .i64 trk, .int .u64 rest, .slice ja rj.length jc, .int .i64 win0, .int .u64 tt, .slice a0 Ls.length k0, .int .u64 ov, .int .i64 kn, .int .u64 rst, .slice b0 7 j0] 26)) (.slice (some ⟨w5.heap.size, 0, none⟩) 2 2) Rs by
    have h := N6.out.many repF_len Rs (by rw [← hRs]; rfl) (by rw [← hRs]; simp)
    have e : Rs.length = 2 := by rw [← hRs]; rfl
    rw [e] at h; exact h)
  have HRs := Lib.hid (show ∀ r ∈ Rs, RepRd (w5.alloc (.cells #[.int .i64 win, .int .u64 tot, .slice la' ls.length lc', .int .u64 over, .int .i64 trk, .int .u64 rest, .slice ja rj.length jc, .int .i64 win0, .int .u64 tt, .slice a0 Ls.length k0, .int .u64 ov, .int .i64 kn, .int .u64 rst, .slice b0 7 j0] 26)) r ∧ RepW r by
    intro r hr
    rw [← hRs] at hr
    simp only [List.mem_cons, List.not_mem_nil, or_false] at hr
    rcases hr with rfl | rfl
    · exact ⟨HX0.out.same (grownBy_trans KW Kz), HW0.out⟩
    · exact ⟨HXr.out.same (grownBy_trans HK5.out Kz), HXw.out⟩)
  have HRl := Lib.hid (show Rs.length = 2 by rw [← hRs]; rfl)
  have HAz := Lib.hid (HA5.out.same Kz)
  have HXz := Lib.hid (HXr.out.same (grownBy_trans HK5.out Kz))
  have HBz := Lib.hid (HBv.out.same (grownBy_trans KW Kz))
  have HKz := Lib.hid (grownBy_trans KW Kz)
  clear Kz KW HB5 HA5 HX0 HW0 HXr HK5 HG0 hRs N6
  generalize w5.alloc (.cells #[.int .i64 win, .int .u64 tot, .slice la' ls.length lc', .int .u64 over, .int .i64 trk, .int .u64 rest, .slice ja rj.length jc, .int .i64 win0, .int .u64 tt, .slice a0 Ls.length k0, .int .u64 ov, .int .i64 kn, .int .u64 rst, .slice b0 7 j0] 26) = z at *
  generalize w5.heap.size = g6 at *
  go_loopw [47] (fun s47 wk => ∃ i : Nat, i ≤ 2 ∧ s47 = .int .i64 i ∧ z.grownBy wk none) (fun s47 _ => 2 - (intOf s47).toNat)
  case atStart => exact ⟨0, by omega, rfl, grownBy_refl _ _⟩
  case round =>
    obtain ⟨i, hi, rfl, hg⟩ := hrel
    by_cases hlt : i < 2
    · obtain ⟨gq, oq, cq, hv, hgq, hc⟩ := (HL.out.same hg).at_ repF_len (show i < Rs.length by rw [HRl.out]; exact hlt)
      rw [HRl.out] at hv
      cases hv
      obtain ⟨hr1, hr2⟩ := HRs.out _ (List.getElem_mem (show i < Rs.length by rw [HRl.out]; exact hlt))
      generalize Rs[i]'(by rw [HRl.out]; exact hlt) = r at *
      simp only [Nat.zero_add] at hc
      have HC1 := Lib.hid fun w' (h : World.grownBy wr w' none) => encode_c r w' (hr1.same (grownBy_trans hg h)) hr2
      have ho1 : r.vl.oneCell' = true := rd_oneCell hr1.lines
      have ho2 : r.vr.oneCell' = true := rd_oneCell hr1.rej
      have Hc := Lib.hid hc
      have HR1 := Lib.hid hr1
      have hi0 : (0 : Int) ≤ (i : Int) := by omega
      have hi3 : (i : Int) < 2 := by omega
      obtain ⟨E, hE⟩ : ∃ E, repErr r = E := ⟨_, rfl⟩
      by_cases hE0 : E = 0
      · subst hE0
        obtain ⟨d0, d1, d2, d3, d4, d5, d6, d7⟩ := dec_of_enc hr2 hE
        have HC2 := Lib.hid fun w' v (h : RdL byF 1 w' v (encR r)) (hc : ∀ a n c, v = .slice a n c → n ≤ c) => (dec_c v (encR r) w' h hc).mono fun e w'' h => (show DecRep ⟨r.win, r.tot, r.vl, r.over, r.trk, r.rest, r.vr, r.lines, r.rej⟩ 0 w' e w'' by
          obtain ⟨vl, vr, h1, h2, h3, h4⟩ := h.rep
          rw [d0, d1, d2, d3, d4, d5] at h1
          rw [d6] at h2
          rw [d7] at h3
          exact ⟨vl, vr, h1, h2, h3, h4⟩)
        have HC1' := Lib.hid fun w' (h : World.grownBy wr w' none) => (HC1.out w' h).mono fun e w'' h => h.is hE rfl
        clear hr1 hr2 hc HC1 d0 d1 d2 d3 d4 d5 d6 d7 hE
        generalize encR r = Y at *
        have tokA := Lib.hid hi3
        go_wp2_with (first
          | (refine load_rep_at rfl _ rfl _ _ rfl Hc.out ?_)
          | (have _t := tokA; refine alloc_rep rfl rfl ?_; intro wa2 Aa2 ga2 za2; clear tokA)
          | (refine store_rep rfl _ _ rfl _ rfl rfl ho1 ho2 _ rfl Aa2 ?_; intro wb2 Ab2 gb2; have Kb2 := grownBy_new ga2 gb2 (Nat.le_refl _); clear Aa2)
          | (refine load_rep rfl _ rfl _ rfl Ab2 ?_)
          | (go_at_call 18; refine (HC1'.out _ Kb2).mono ?_; rintro e wc2 ⟨v1, rfl, o1, gc2⟩; obtain ⟨a4, c4, rfl⟩ := o1.shape; have Ac2 := Ab2.same gc2; have Kc2 := grownBy_trans Kb2 gc2; have hcap := o1.cap)
          | (go_at_call 21; refine (HC2.out _ _ o1.rd (fun a n c e => by cases e; exact hcap)).mono ?_; rintro e wd2 ⟨vl1, vr1, rfl, L1, J1, gd2⟩; have ol1 := rd_oneCell L1; have oj1 := rd_oneCell J1; have Kd2 := grownBy_trans Kc2 gd2; have Ad2 := Ac2.same gd2)
          | (refine alloc_rep rfl rfl ?_; intro we2 Ae2 ge2 ze2)
          | (refine store_rep rfl _ _ rfl _ rfl rfl ol1 oj1 _ rfl Ae2 ?_; intro wf2 Af2 gf2; have Kf0 := grownBy_new ge2 gf2 (Nat.le_refl _); have L2 := L1.same Kf0; have J2 := J1.same Kf0; have Kf2 := grownBy_trans Kd2 Kf0; have Ag2 := Ad2.same Kf0; have Rg2 := HR1.out.same (grownBy_trans hg Kf2))
          | (refine load_rep_if2 (by rfl) _ rfl _ rfl Ag2 ?_)
          | (refine load_rep_if2 (by rfl) _ rfl _ rfl Af2 ?_)
          | (go_at_call 23; refine (sameRep_c _ _ _ _ _ _ _ _ _ _ _ _ Rg2.lines Rg2.rej L2 J2).mono ?_; rintro e wi2 ⟨rfl, gi2⟩; have Ki2 := grownBy_trans Kf2 gi2))
        exact ⟨⟨i + 1, by omega, by go_num, grownBy_trans hg Ki2⟩, by simp [intOf]; omega⟩
      · have hEz : (E == 0) = false := by simp [hE0]
        have HC1' := Lib.hid fun w' (h : World.grownBy wr w' none) => (HC1.out w' h).mono fun e w'' h => h.is hE rfl
        have HC2 := Lib.hid fun w' v (h : RdL byF 1 w' v (encR r)) (hc : ∀ a n c, v = .slice a n c → n ≤ c) => (dec_c v (encR r) w' h hc).mono fun e w'' h => h.rep
        clear hr1 hr2 hc HC1 hE hE0
        generalize encR r = Y at *
        generalize decR Y = D at *
        generalize decE Y = F at *
        have tokA := Lib.hid hi3
        go_wp2_with (first
          | (refine load_rep_at rfl _ rfl _ _ rfl Hc.out ?_)
          | (have _t := tokA; refine alloc_rep rfl rfl ?_; intro wa2 Aa2 ga2 za2; clear tokA)
          | (refine store_rep rfl _ _ rfl _ rfl rfl ho1 ho2 _ rfl Aa2 ?_; intro wb2 Ab2 gb2; have Kb2 := grownBy_new ga2 gb2 (Nat.le_refl _); clear Aa2)
          | (refine load_rep rfl _ rfl _ rfl Ab2 ?_)
          | (go_at_call 18; refine (HC1'.out _ Kb2).mono ?_; rintro e wc2 ⟨v1, rfl, o1, gc2⟩; obtain ⟨a4, c4, rfl⟩ := o1.shape; have Kc2 := grownBy_trans Kb2 gc2; have hcap := o1.cap)
          | (go_at_call 21; refine (HC2.out _ _ o1.rd (fun a n c e => by cases e; exact hcap)).mono ?_; rintro e wd2 ⟨vl1, vr1, rfl, L1, J1, gd2⟩; have ol1 := rd_oneCell L1; have oj1 := rd_oneCell J1; have Kd2 := grownBy_trans Kc2 gd2)
          | (refine alloc_rep rfl rfl ?_; intro we2 Ae2 ge2 ze2)
          | (refine store_rep rfl _ _ rfl _ rfl rfl ol1 oj1 _ rfl Ae2 ?_; intro wf2 Af2 gf2; have Kf2 := grownBy_trans Kd2 (grownBy_new ge2 gf2 (Nat.le_refl _))))
        exact ⟨⟨i + 1, by omega, by go_num, grownBy_trans hg Kf2⟩, by simp [intOf]; omega⟩
    · obtain rfl : i = 2 := by omega
      obtain ⟨Y, hY⟩ : ∃ Y, encR ⟨win0, tt, .slice a0 Ls.length k0, ov, kn, rst, .slice b0 7 j0, Ls, rej0⟩ = Y := ⟨_, rfl⟩
      have hY0 : 0 < Y.length := hY ▸ enc_pos HXe.out
      have hYl : Y.length ≤ 100000 := hY ▸ enc_len HXw.out
      have HC12 := Lib.hid ((encode_c _ wr (HXz.out.same hg) HXw.out).mono fun e w'' h => h.is HXe.out hY)
      clear hY
      have HA12 := Lib.hid (HAz.out.same hg)
      have HK12 := Lib.hid (grownBy_trans HKz.out hg)
      have HB12 := Lib.hid (HBz.out.same hg)
      clear HXz HAz HKz HBz HL HRs HRl HXe HXw hg HLl HP6
      have hY1 : ((Y.length : Int) == 0) = false := by rw [beq_eq_false_iff_ne]; omega
      go_upto_region 13 with (first
        | (refine load_rep rfl _ rfl _ rfl HA12.out ?_)
        | (go_at_call 18; refine HC12.out.mono ?_; rintro e w4 ⟨v3, rfl, o3, ga3⟩; obtain ⟨a4, c4, rfl⟩ := o3.shape))
      have HZ := Lib.hid o3
      have HK14 := Lib.hid (grownBy_trans HK12.out ga3)
      have HK13s := Lib.hid HK12.out.size
      have HB14 := Lib.hid (HB12.out.same ga3)
      clear o3 ga3 HA12 HC12 HK12 HB12
      go_upto_region 15 with fail
      have hzcap := Lib.hid HZ.out.cap
      have hand : bits .and .i64 at_ 1023 = at_ % 1024 := and_low at_ 10 (by omega)
      have hm0 := Int.emod_nonneg at_ (show (1024 : Int) ≠ 0 by decide)
      have hm1 := Int.emod_lt_of_pos at_ (show (0 : Int) < 1024 by decide)
      generalize at_ % 1024 = m at *
      have hYp : (0 : Int) < (Y.length : Int) := by omega
      obtain ⟨jj, hjj⟩ : ∃ jj : Nat, m.tmod (Y.length : Int) = (jj : Int) ∧ jj < Y.length := ⟨m.toNat % Y.length, by
        obtain ⟨q, rfl⟩ := Int.eq_ofNat_of_zero_le hm0
        rw [Int.toNat_natCast]; rfl, Nat.mod_lt _ hY0⟩
      obtain ⟨hj1, hj2⟩ := hjj
      obtain ⟨zg, zc, hzv, hzlo, -, -, hzc, hzf⟩ := HZ.out.at_ byF_len hj2
      cases hzv
      have hzc0 := hzc 0 _ rfl
      rw [Nat.mul_one, Nat.add_zero] at hzc0
      clear hzc
      go_upto_region 16 with fail
      have hst := HZ.out.stored byF_len hj2 (j := 0) (by omega) (.int .u8 by_.toNat) by_ rfl
      rw [Nat.mul_one, Nat.add_zero] at hst
      obtain ⟨oz, gz⟩ := hst
      have hzw : w.heap.size ≤ zg := Nat.le_trans HK13s.out hzlo
      have KW2 := grownBy_new HK14.out gz hzw
      have RBz := rd_kept HB14.out gz hblt.out (fun k e => by cases e; exact hzw)
      have RZz := oz.rd
      have hc4 : Y.length ≤ c4 := hzcap.out
      clear oz gz HK14 HB14 HZ hzc0 hzf hzlo hblt HK13s hzw hzcap
      generalize w4.setCell ⟨zg, jj, none⟩ (.int .u8 by_.toNat) = zz at *
      have hYs : (Y.set jj by_).length = Y.length := List.length_set
      go_upto_region 17 with fail
      have NV := Blk.new zz #[.slice ba bl.length bc, .slice (some ⟨zg, 0, none⟩) Y.length c4] 40
      have GV := World.grownBy_alloc zz (.cells #[.slice ba bl.length bc, .slice (some ⟨zg, 0, none⟩) Y.length c4] 40) none
      have KV := Lib.hid (grownBy_trans KW2 GV)
      obtain ⟨vs, hvs⟩ : ∃ vs : List (Value × List UInt8), [(Value.slice ba bl.length bc, bl), (.slice (some ⟨zg, 0, none⟩) Y.length c4, Y.set jj by_)] = vs := ⟨_, rfl⟩
      have HV := Lib.hid (show RdL sliF 1 (zz.alloc (.cells #[.slice ba bl.length bc, .slice (some ⟨zg, 0, none⟩) Y.length c4] 40)) (.slice (some ⟨zz.heap.size, 0, none⟩) 2 2) vs by
        have h := NV.many (f := sliF) (size := 1) (fun _ => rfl) vs (by rw [← hvs]; rfl) (by rw [← hvs]; simp)
        have e : vs.length = 2 := by rw [← hvs]; rfl
        rw [e] at h; exact h)
      have HVs := Lib.hid (show ∀ p ∈ vs, RdL byF 1 (zz.alloc (.cells #[.slice ba bl.length bc, .slice (some ⟨zg, 0, none⟩) Y.length c4] 40)) p.1 p.2 ∧ ∀ a n c, p.1 = .slice a n c → n ≤ c by
        intro p hp
        rw [← hvs] at hp
        simp only [List.mem_cons, List.not_mem_nil, or_false] at hp
        rcases hp with rfl | rfl
        · exact ⟨RBz.same GV, fun a n c e => by cases e; exact hbc⟩
        · exact ⟨RZz.same GV, fun a n c e => by cases e; exact hc4⟩)
      have HVl := Lib.hid (show vs.length = 2 by rw [← hvs]; rfl)
      clear hvs NV GV KW2 RBz RZz hc4 hYs
      generalize zz.alloc (.cells #[.slice ba bl.length bc, .slice (some ⟨zg, 0, none⟩) Y.length c4] 40) = wv at *
      generalize zz.heap.size = gv at *
      go_loopw [98] (fun s98 wk => ∃ i : Nat, i ≤ 2 ∧ s98 = .int .i64 i ∧ wv.grownBy wk none) (fun s98 _ => 2 - (intOf s98).toNat)
      case atStart => exact ⟨0, by omega, rfl, grownBy_refl _ _⟩
      case round =>
        obtain ⟨i, hi, rfl, hg⟩ := hrel
        by_cases hlt : i < 2
        · have hil : i < vs.length := by rw [HVl.out]; exact hlt
          obtain ⟨gq, oq, cq, hv, hgq, hc⟩ := (HV.out.same hg).at_ (fun _ => rfl) hil
          rw [HVl.out] at hv
          cases hv
          have hc0 := hc 0 _ rfl
          rw [Nat.zero_add, Nat.mul_one, Nat.add_zero] at hc0
          obtain ⟨hr1, hr2⟩ := HVs.out _ (List.getElem_mem hil)
          generalize vs[i] = p at *
          obtain ⟨pv, pl⟩ := p
          dsimp only at hr1 hr2 hc0
          obtain ⟨pa, pc, rfl⟩ := hr1.shape
          have HR1 := Lib.hid (hr1.same hg)
          have HD1 := Lib.hid fun w' (h : World.grownBy wr w' none) => dec_c _ pl w' (hr1.same (grownBy_trans hg h)) hr2
          have HW1 := Lib.hid fun vl vr => decR_w pl vl vr
          have hi0 : (0 : Int) ≤ (i : Int) := by omega
          have hi5 : (i : Int) < 2 := by omega
          by_cases hE0 : decE pl = 0
          · have HE1 := Lib.hid fun vl vr => (enc_of_dec hE0 vl vr).1
            have HE2 := Lib.hid fun vl vr => (enc_of_dec hE0 vl vr).2
            have HD2 := Lib.hid fun w' (h : World.grownBy wr w' none) => (HD1.out w' h).mono fun e w'' h => (show ∃ vl vr, e = .returned (.tuple #[repV (decR pl).win (decR pl).tot vl (decR pl).over (decR pl).trk (decR pl).rest vr, .int .i64 0]) ∧ RepRd w'' (decV pl vl vr) ∧ w'.grownBy w'' none by
              obtain ⟨vl, vr, h1, h2, h3⟩ := h
              rw [hE0] at h1
              exact ⟨vl, vr, h1, h2, h3⟩)
            clear hr1 hr2 hc hil HD1 hE0
            go_wp2_with (first
              | (go_at_call 21; refine (HD2.out _ (grownBy_refl _ _)).mono ?_; rintro e wa2 ⟨vl1, vr1, rfl, R1, ga2⟩; have ol1 := rd_oneCell R1.lines; have oj1 := rd_oneCell R1.rej; dsimp only [decV] at ol1 oj1)
              | (refine alloc_rep rfl rfl ?_; intro wb2 Ab2 gb2 zb2)
              | (refine store_rep rfl _ _ rfl _ rfl rfl ol1 oj1 _ rfl Ab2 ?_; intro wc2 Ac2 gc2; have Kc0 := grownBy_new gb2 gc2 (Nat.le_refl _); have R2 := R1.same Kc0; have Kc2 := grownBy_trans ga2 Kc0; clear Ab2)
              | (refine load_rep rfl _ rfl _ rfl Ac2 ?_)
              | (go_at_call 18; refine ((encode_c _ wc2 R2 (HW1.out _ _)).mono fun e w'' h => h.is (HE1.out _ _) (HE2.out _ _)).mono ?_; rintro e wd2 ⟨v2, rfl, o2, gd2⟩; obtain ⟨a2, c2, rfl⟩ := o2.shape; have Kd2 := grownBy_trans Kc2 gd2)
              | (go_at_call 20; refine (sameBy_c _ _ pl _ o2.rd (HR1.out.same Kd2)).mono ?_; rintro e we2 ⟨rfl, ge2⟩; have Ke2 := grownBy_trans Kd2 ge2))
            exact ⟨⟨i + 1, by omega, by go_num, grownBy_trans hg Ke2⟩, by simp [intOf]; omega⟩
          · have hEz : (decE pl == 0) = false := by simp [hE0]
            clear hr1 hr2 hc hil hE0
            go_wp2_with (first
              | (go_at_call 21; refine (HD1.out _ (grownBy_refl _ _)).mono ?_; rintro e wa2 ⟨vl1, vr1, rfl, R1, ga2⟩; have ol1 := rd_oneCell R1.lines; have oj1 := rd_oneCell R1.rej; dsimp only [decV] at ol1 oj1)
              | (refine alloc_rep rfl rfl ?_; intro wb2 Ab2 gb2 zb2)
              | (refine store_rep rfl _ _ rfl _ rfl rfl ol1 oj1 _ rfl Ab2 ?_; intro wc2 Ac2 gc2; have Kc0 := grownBy_new gb2 gc2 (Nat.le_refl _); have R2 := R1.same Kc0; have Kc2 := grownBy_trans ga2 Kc0; clear Ab2)
              | (refine load_rep rfl _ rfl _ rfl Ac2 ?_)
              | (go_at_call 18; refine ((encode_c _ wc2 R2 (HW1.out _ _)).mono fun e w'' h => h.is rfl rfl).mono ?_; rintro e wd2 ⟨v2, rfl, o2, gd2⟩; obtain ⟨a2, c2, rfl⟩ := o2.shape; have Kd2 := grownBy_trans Kc2 gd2))
            exact ⟨⟨i + 1, by omega, by go_num, grownBy_trans hg Kd2⟩, by simp [intOf]; omega⟩
        · go_wp2_with (go_at_call 13; refine (awake24_c _).mono ?_; rintro e w6 ⟨rfl, G6⟩)
          go_ret
          exact retBool rfl (grownBy_trans KV.out (grownBy_trans hg G6))
end Go.Proofs.Ytiagjiaahnkefaa
