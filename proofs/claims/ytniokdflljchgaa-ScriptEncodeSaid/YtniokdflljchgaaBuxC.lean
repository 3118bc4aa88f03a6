/- Several texts in one file; each begins with a comment that says what is proved in it. -/
import Derived.Test.YtniokdflljchgaaBuxB
import Derived.Test.YtniokdflljchgaaDeck
import Derived.ProofKit
import Derived.ShutString
import Derived.ChangeOld
import Derived.Test.YtniokdflljchgaaCls
import Derived.Deep.Slices
import Derived.Deep.Fields
import Derived.Deep.Strs
import Derived.ChangeMaps5
import Derived.Test.YtniokdflljchgaaVar
import Derived.Test.YtniokdflljchgaaScrP

/- The walk of the law ScriptBack. -/
namespace Go.Proofs.Ytniokdflljchgaa
open Go.RowKit Go.Sort

/-- Bytes Y, and the error E. -/
def EncIs (E : Int) (Y : List UInt8) (w : World) (e : Ending) (w' : World) : Prop := ∃ v, e = .returned (.tuple #[v, .int .i64 E]) ∧ Own byF 1 5 w.heap.size w' v Y ∧ w.grownBy w' none
theorem EncOP.is {l : List OpR} {E : Int} {Y : List UInt8} {w : World} {e : Ending} {w' : World} (h : EncOP l w e w') (hE : encE l = E) (hY : encO l = Y) : EncIs E Y w e w' := by
  subst hE hY; exact h
/-- Operations that were decoded, and the error E. -/
def DecIs (E : Int) (C : List OpC) (w : World) (e : Ending) (w' : World) : Prop := ∃ v L, e = .returned (.tuple #[v, .int .i64 E]) ∧ OpsG w.heap.size w' v L ∧ L.map opC = C ∧ w.grownBy w' none
theorem DecOP.is {l : List UInt8} {E : Int} {C : List OpC} {w : World} {e : Ending} {w' : World} (h : DecOP l w e w') (hE : decOE l = E) (hC : (decO l).map opC = C) : DecIs E C w e w' := by
  subst hE hC; exact h
theorem enc_ok (v : Value) (L : List OpR) (w : World) (h : OpsRd w v L) (h0 : ∀ o ∈ L, opE o = 0) (hl : L.length ≤ 9) : Calls Try.prog 13 #[v] w (EncY w) := by
  have hE : encE L = 0 := by unfold encE; rw [if_neg (by omega)]; exact opsE_no h0
  exact (enc_c v L w h fun o ho => opE_key (h0 o ho)).mono fun e w' ⟨v', h1, h2, h3⟩ => ⟨v', encO L, by rw [h1, hE], h2, ⟨encO_pos hE, encO_len L⟩, h3⟩
theorem opC_mem {L M : List OpR} (h : L.map opC = M.map opC) (P : OpC → Prop) (hM : ∀ o ∈ M, P (opC o)) : ∀ o ∈ L, P (opC o) := fun o ho => by
  have := List.mem_map_of_mem (f := opC) ho
  rw [h] at this
  obtain ⟨m, hm, e⟩ := List.mem_map.1 this
  rw [← e]
  exact hM m hm
/-- The first error and the bytes of operations that read alike. -/
theorem opE_C {o p : OpR} (h : opC o = opC p) : opE o = opE p ∧ opB o = opB p := by
  obtain ⟨k, vd, t, s, y, vp, d, q⟩ := o
  obtain ⟨k', vd', t', s', y', vp', d', q'⟩ := p
  simp only [opC, OpC.mk.injEq] at h
  obtain ⟨rfl, rfl, rfl, rfl, rfl, rfl⟩ := h
  exact ⟨rfl, rfl⟩
theorem opsE_C : ∀ {L M : List OpR}, L.map opC = M.map opC → opsE L = opsE M ∧ opsB L = opsB M
  | [], [], _ => ⟨rfl, rfl⟩
  | [], _ :: _, h => by simp at h
  | _ :: _, [], h => by simp at h
  | a :: L, b :: M, h => by
    simp only [List.map_cons, List.cons.injEq] at h
    obtain ⟨h1, h2⟩ := opE_C h.1
    obtain ⟨h3, h4⟩ := opsE_C h.2
    unfold opsE
    rw [opsB_cons, opsB_cons, h1, h2, h3, h4]
    exact ⟨rfl, rfl⟩
theorem enc_C {L M : List OpR} (h : L.map opC = M.map opC) : encE L = encE M ∧ encO L = encO M := by
  obtain ⟨h1, h2⟩ := opsE_C h
  have hl : L.length = M.length := by have := congrArg List.length h; simpa using this
  unfold encO encE
  rw [h1, h2, hl]
  exact ⟨rfl, rfl⟩
theorem dec_keys {l : List UInt8} {L : List OpR} (h : L.map opC = (decO l).map opC) : ∀ o ∈ L, o.key.size ≤ 9223372036854775807 := by
  by_cases h0 : decOE l = 0
  · have h1 := (decO_back h0).1
    rw [← (enc_C h).1] at h1
    unfold encE at h1
    split at h1
    · cases h1
    · intro o ho
      exact opE_key (opsE_all h1 o ho)
  · have h1 : decO l = [] := by unfold decO; rw [if_neg h0]
    rw [h1] at h
    intro o ho
    have := congrArg List.length h
    simp at this
    subst this
    cases ho
def opsLF (p : Value × List OpR) : List Value := [p.1]

set_option maxHeartbeats 3200000 in
set_option maxRecDepth 100000 in
theorem sback_w (ra : Option Addr) (rc : Nat) (rl : List OpR) (ba : Option Addr) (bc : Nat) (bl : List UInt8) (sv : Value) (xs : List Int) (k : Nat) (at_ : Int) (by_ : UInt8) (w : World) (hR : OpsRd w (.slice ra rl.length rc) rl) (hW : ∀ o ∈ rl, o.key.size ≤ 9223372036854775807)
    (hbv : RdL byF 1 w (.slice ba bl.length bc) bl) (hbc : bl.length ≤ bc) (hsv : Rd w 1 sv k (xs.map (fun x => Value.int .i64 x))) :
    Calls Try.prog 5 #[.slice ra rl.length rc, .slice ba bl.length bc, sv, .int .i64 at_, .int .u8 by_.toNat] w (RetBool true w) := by
  have HS := Lib.hid hsv
  obtain ⟨sa, sc, rfl⟩ := hsv.shape
  have Hpl := Lib.hid (plain33_c _ rl w hR)
  have HBv := Lib.hid hbv
  have HR := Lib.hid hR
  have HW := Lib.hid hW
  have hblt := Lib.hid (fun ad (e : ba = some ad) (h0 : 0 < bl.length) => by subst e; exact Rd.blockLt HBv.out h0 _ _ _ rfl : ∀ ad, ba = some ad → 0 < bl.length → ad.block < w.heap.size)
  clear hsv hbv hR hW
  generalize plainS rl = pb at *
  go_enter Try.func5, Try.ntmps5
  cases pb
  · go_wp2_with (first
      | (go_at_call 9; refine Hpl.out.mono ?_; rintro e w1 ⟨rfl, g1⟩)
      | (go_at_call 10; refine (awake33_c _).mono ?_; rintro e w6 ⟨rfl, G6⟩))
    go_ret
    exact retBool rfl (grownBy_trans g1 G6)
  by_cases hlen : 300 < bl.length
  · have hl2 : (300 : Int) < (bl.length : Int) := by omega
    go_wp2_with (first
      | (go_at_call 9; refine Hpl.out.mono ?_; rintro e w1 ⟨rfl, g1⟩)
      | (go_at_call 10; refine (awake33_c _).mono ?_; rintro e w6 ⟨rfl, G6⟩))
    go_ret
    exact retBool rfl (grownBy_trans g1 G6)
  have hl2 : ¬ (300 : Int) < (bl.length : Int) := by omega
  go_upto_region 3 with (go_at_call 9; refine Hpl.out.mono ?_; rintro e w1 ⟨rfl, g1⟩)
  have HSb := Lib.hid (Rd.same HS.out g1)
  go_upto_region 4 with (go_at_call 11; refine (ops33_c _ _ _ _ HSb.out).mono ?_; rintro e w5 ⟨v, L, rfl, o1, ok1, hl1, g5⟩; obtain ⟨la, lc, rfl⟩ := o1.own.shape)
  have HG5 := Lib.hid (grownBy_trans g1 g5)
  have HO1 := Lib.hid o1.rd
  have HOK := Lib.hid ok1
  have HLn := Lib.hid hl1
  clear o1 ok1 hl1 g1 g5 HS HSb Hpl
  go_upto_region 5 with fail
  have Kz := World.grownBy_alloc w5 (.cells #[.slice ra rl.length rc, .slice la L.length lc] 22) none
  have N6 := Lib.hid (Blk.new w5 #[.slice ra rl.length rc, .slice la L.length lc] 22)
  obtain ⟨Rs, hRs⟩ : ∃ Rs : List (Value × List OpR), [(Value.slice ra rl.length rc, rl), (.slice la L.length lc, L)] = Rs := ⟨_, rfl⟩
  have HL := Lib.hid (show RdL opsLF 1 (w5.alloc (.cells #[.slice ra rl.length rc, .slice la L.length lc] 22)) (.slice (some ⟨w5.heap.size, 0, none⟩) 2 2) Rs by
    have h := blk_rd (f := opsLF) (size := 1) N6.out (fun _ => rfl) Rs (by rw [← hRs]; rfl) (by rw [← hRs]; simp)
    have e : Rs.length = 2 := by rw [← hRs]; rfl
    rw [e] at h; exact h)
  have HRs := Lib.hid (show ∀ r ∈ Rs, OpsRd (w5.alloc (.cells #[.slice ra rl.length rc, .slice la L.length lc] 22)) r.1 r.2 ∧ ∀ o ∈ r.2, o.key.size ≤ 9223372036854775807 by
    intro r hr
    rw [← hRs] at hr
    simp only [List.mem_cons, List.not_mem_nil, or_false] at hr
    rcases hr with rfl | rfl
    · exact ⟨(HR.out.same HG5.out).same Kz, HW.out⟩
    · exact ⟨HO1.out.same Kz, fun o ho => opE_key (HOK.out o ho)⟩)
  have HRl := Lib.hid (show Rs.length = 2 by rw [← hRs]; rfl)
  have HXz := Lib.hid (HO1.out.same Kz)
  have HBz := Lib.hid (HBv.out.same (grownBy_trans HG5.out Kz))
  have HKz := Lib.hid (grownBy_trans HG5.out Kz)
  clear Kz HR HW HG5 HO1 hRs N6 HBv
  generalize w5.alloc (.cells #[.slice ra rl.length rc, .slice la L.length lc] 22) = z at *
  generalize w5.heap.size = g6 at *
  go_loopw [41] (fun s41 wk => ∃ i : Nat, i ≤ 2 ∧ s41 = .int .i64 i ∧ z.grownBy wk none) (fun s41 _ => 2 - (intOf s41).toNat)
  case atStart => exact ⟨0, by omega, rfl, grownBy_refl _ _⟩
  case round =>
    obtain ⟨i, hi, rfl, hg⟩ := hrel
    by_cases hlt : i < 2
    · have hil : i < Rs.length := by rw [HRl.out]; exact hlt
      obtain ⟨gq, oq, cq, hv, hgq, hc⟩ := (HL.out.same hg).at_ (fun _ => rfl) hil
      rw [HRl.out] at hv
      cases hv
      have hc0 := hc 0 _ rfl
      rw [Nat.zero_add, Nat.mul_one, Nat.add_zero] at hc0
      obtain ⟨hr1, hr2⟩ := HRs.out _ (List.getElem_mem hil)
      generalize Rs[i] = r at *
      obtain ⟨pv, pl⟩ := r
      dsimp only at hr1 hr2 hc0
      obtain ⟨pa, pc, rfl⟩ := hr1.rd.shape
      have HC1 := Lib.hid fun w' (h : World.grownBy wr w' none) => enc_c _ pl w' (hr1.same (grownBy_trans hg h)) hr2
      have HR1 := Lib.hid (hr1.same hg)
      have hi0 : (0 : Int) ≤ (i : Int) := by omega
      have hi3 : (i : Int) < 2 := by omega
      obtain ⟨E, hE⟩ : ∃ E, encE pl = E := ⟨_, rfl⟩
      by_cases hE0 : E = 0
      · subst hE0
        obtain ⟨d0, d1⟩ := decO_enc hE
        have HC2 := Lib.hid fun w' v (h : RdL byF 1 w' v (encO pl)) (hc : ∀ a n c, v = .slice a n c → n ≤ c) => (sdec_c v (encO pl) w' h hc).mono fun e w'' h => h.is d0 d1
        have HC1' := Lib.hid fun w' (h : World.grownBy wr w' none) => (HC1.out w' h).mono fun e w'' h => h.is hE rfl
        clear hr1 hr2 hc HC1 d0 d1 hE
        generalize encO pl = Y at *
        go_wp2_with (first
          | (go_at_call 13; refine (HC1'.out _ (grownBy_refl _ _)).mono ?_; rintro e wc2 ⟨v1, rfl, o1, Kc2⟩; obtain ⟨a4, c4, rfl⟩ := o1.shape; have hcap := o1.cap)
          | (go_at_call 16; refine (HC2.out _ _ o1.rd (fun a n c e => by cases e; exact hcap)).mono ?_; rintro e wd2 ⟨v2, L2, rfl, o2, e2, gd2⟩; have Kd2 := grownBy_trans Kc2 gd2)
          | (go_at_call 18; refine (sameOps_c _ _ pl L2 _ (HR1.out.same Kd2) o2.rd e2.symm).mono ?_; rintro e wi2 ⟨rfl, gi2⟩; have Ki2 := grownBy_trans Kd2 gi2))
        exact ⟨⟨i + 1, by omega, by go_num, grownBy_trans hg Ki2⟩, by simp [intOf]; omega⟩
      · have hEz : (E == 0) = false := by simp [hE0]
        have HC1' := Lib.hid fun w' (h : World.grownBy wr w' none) => (HC1.out w' h).mono fun e w'' h => h.is hE rfl
        have HC2 := Lib.hid fun w' v (h : RdL byF 1 w' v (encO pl)) (hc : ∀ a n c, v = .slice a n c → n ≤ c) => (sdec_c v (encO pl) w' h hc).mono fun e w'' h => h.is rfl rfl
        clear hr1 hr2 hc HC1 hE hE0
        generalize encO pl = Y at *
        generalize (decO Y).map opC = D at *
        generalize decOE Y = F at *
        go_wp2_with (first
          | (go_at_call 13; refine (HC1'.out _ (grownBy_refl _ _)).mono ?_; rintro e wc2 ⟨v1, rfl, o1, Kc2⟩; obtain ⟨a4, c4, rfl⟩ := o1.shape; have hcap := o1.cap)
          | (go_at_call 16; refine (HC2.out _ _ o1.rd (fun a n c e => by cases e; exact hcap)).mono ?_; rintro e wd2 ⟨v2, L2, rfl, o2, e2, gd2⟩; have Kd2 := grownBy_trans Kc2 gd2))
        exact ⟨⟨i + 1, by omega, by go_num, grownBy_trans hg Kd2⟩, by simp [intOf]; omega⟩
    · obtain rfl : i = 2 := by omega
      have HC12 := Lib.hid (enc_ok _ L wr (HXz.out.same hg) HOK.out HLn.out.2)
      have HK12 := Lib.hid (grownBy_trans HKz.out hg)
      have HB12 := Lib.hid (HBz.out.same hg)
      clear HXz HKz HBz HL HRs HRl HOK HLn hg
      go_upto_region 13 with (go_at_call 13; refine HC12.out.mono ?_; rintro e w4 ⟨v3, Y, rfl, o3, hYl, ga3⟩; obtain ⟨a4, c4, rfl⟩ := o3.shape)
      obtain ⟨hY0, hYl⟩ := hYl
      have hY1 : ((Y.length : Int) == 0) = false := by rw [beq_eq_false_iff_ne]; omega
      have HZ := Lib.hid o3
      have HK14 := Lib.hid (grownBy_trans HK12.out ga3)
      have HK13s := Lib.hid HK12.out.size
      have HB14 := Lib.hid (HB12.out.same ga3)
      clear o3 ga3 HC12 HK12 HB12
      go_upto_region 15 with fail
      have hzcap := Lib.hid HZ.out.cap
      have hand : bits .and .i64 at_ 4095 = at_ % 4096 := and_low at_ 12 (by omega)
      have hm0 := Int.emod_nonneg at_ (show (4096 : Int) ≠ 0 by decide)
      have hm1 := Int.emod_lt_of_pos at_ (show (0 : Int) < 4096 by decide)
      generalize at_ % 4096 = m at *
      have hYp : (0 : Int) < (Y.length : Int) := by omega
      obtain ⟨jj, hjj⟩ : ∃ jj : Nat, m.tmod (Y.length : Int) = (jj : Int) ∧ jj < Y.length := ⟨m.toNat % Y.length, by
        obtain ⟨q, rfl⟩ := Int.eq_ofNat_of_zero_le hm0
        rw [Int.toNat_natCast]; rfl, Nat.mod_lt _ hY0⟩
      obtain ⟨hj1, hj2⟩ := hjj
      obtain ⟨zg, zc, hzv, hzlo, -, -, hzc, hzf⟩ := HZ.out.at_ byF_len hj2
      cases hzv
      have hzc0 := hzc 0 _ rfl
      rw [Nat.mul_one, Nat.add_zero] at hzc0
      clear hzc
      go_upto_region 16 with fail
      have hst := HZ.out.stored byF_len hj2 (j := 0) (by omega) (.int .u8 by_.toNat) by_ rfl
      rw [Nat.mul_one, Nat.add_zero] at hst
      obtain ⟨oz, gz⟩ := hst
      have hzw : w.heap.size ≤ zg := Nat.le_trans HK13s.out hzlo
      have KW2 := grownBy_new HK14.out gz hzw
      have RBz := rd_kept HB14.out gz hblt.out (fun k e => by cases e; exact hzw)
      have RZz := oz.rd
      have hc4 : Y.length ≤ c4 := hzcap.out
      clear oz gz HK14 HB14 HZ hzc0 hzf hzlo hblt HK13s hzw hzcap
      generalize w4.setCell ⟨zg, jj, none⟩ (.int .u8 by_.toNat) = zz at *
      have hYs : (Y.set jj by_).length = Y.length := List.length_set
      go_upto_region 17 with fail
      have NV := Blk.new zz #[.slice ba bl.length bc, .slice (some ⟨zg, 0, none⟩) Y.length c4] 28
      have GV := World.grownBy_alloc zz (.cells #[.slice ba bl.length bc, .slice (some ⟨zg, 0, none⟩) Y.length c4] 28) none
      have KV := Lib.hid (grownBy_trans KW2 GV)
      obtain ⟨vs, hvs⟩ : ∃ vs : List (Value × List UInt8), [(Value.slice ba bl.length bc, bl), (.slice (some ⟨zg, 0, none⟩) Y.length c4, Y.set jj by_)] = vs := ⟨_, rfl⟩
      have HV := Lib.hid (show RdL sliF 1 (zz.alloc (.cells #[.slice ba bl.length bc, .slice (some ⟨zg, 0, none⟩) Y.length c4] 28)) (.slice (some ⟨zz.heap.size, 0, none⟩) 2 2) vs by
        have h := blk_rd (f := sliF) (size := 1) NV (fun _ => rfl) vs (by rw [← hvs]; rfl) (by rw [← hvs]; simp)
        have e : vs.length = 2 := by rw [← hvs]; rfl
        rw [e] at h; exact h)
      have HVs := Lib.hid (show ∀ p ∈ vs, RdL byF 1 (zz.alloc (.cells #[.slice ba bl.length bc, .slice (some ⟨zg, 0, none⟩) Y.length c4] 28)) p.1 p.2 ∧ ∀ a n c, p.1 = .slice a n c → n ≤ c by
        intro p hp
        rw [← hvs] at hp
        simp only [List.mem_cons, List.not_mem_nil, or_false] at hp
        rcases hp with rfl | rfl
        · exact ⟨RBz.same GV, fun a n c e => by cases e; exact hbc⟩
        · exact ⟨RZz.same GV, fun a n c e => by cases e; exact hc4⟩)
      have HVl := Lib.hid (show vs.length = 2 by rw [← hvs]; rfl)
      clear hvs NV GV KW2 RBz RZz hc4 hYs
      generalize zz.alloc (.cells #[.slice ba bl.length bc, .slice (some ⟨zg, 0, none⟩) Y.length c4] 28) = wv at *
      generalize zz.heap.size = gv at *
      go_loopw [92] (fun s92 wk => ∃ i : Nat, i ≤ 2 ∧ s92 = .int .i64 i ∧ wv.grownBy wk none) (fun s92 _ => 2 - (intOf s92).toNat)
      case atStart => exact ⟨0, by omega, rfl, grownBy_refl _ _⟩
      case round =>
        obtain ⟨i, hi, rfl, hg⟩ := hrel
        by_cases hlt : i < 2
        · have hil : i < vs.length := by rw [HVl.out]; exact hlt
          obtain ⟨gq, oq, cq, hv, hgq, hc⟩ := (HV.out.same hg).at_ (fun _ => rfl) hil
          rw [HVl.out] at hv
          cases hv
          have hc0 := hc 0 _ rfl
          rw [Nat.zero_add, Nat.mul_one, Nat.add_zero] at hc0
          obtain ⟨hr1, hr2⟩ := HVs.out _ (List.getElem_mem hil)
          generalize vs[i] = p at *
          obtain ⟨pv, pl⟩ := p
          dsimp only at hr1 hr2 hc0
          obtain ⟨pa, pc, rfl⟩ := hr1.shape
          have HR1 := Lib.hid (hr1.same hg)
          have HD1 := Lib.hid fun w' (h : World.grownBy wr w' none) => sdec_c _ pl w' (hr1.same (grownBy_trans hg h)) hr2
          have hi0 : (0 : Int) ≤ (i : Int) := by omega
          have hi5 : (i : Int) < 2 := by omega
          by_cases hE0 : decOE pl = 0
          · have HD2 := Lib.hid fun w' (h : World.grownBy wr w' none) => (HD1.out w' h).mono fun e w'' h => (show ∃ v L, e = .returned (.tuple #[v, .int .i64 0]) ∧ OpsG w'.heap.size w'' v L ∧ (Calls Try.prog 13 #[v] w'' (EncIs 0 pl w'')) ∧ w'.grownBy w'' none by
              obtain ⟨v, L, h1, h2, h3, h4⟩ := h
              obtain ⟨b1, b2⟩ := decO_back hE0
              obtain ⟨c1, c2⟩ := enc_C h3
              exact ⟨v, L, by rw [h1, hE0], h2, (enc_c v L w'' h2.rd (dec_keys h3)).mono fun e w h => h.is (c1.trans b1) (c2.trans b2), h4⟩)
            clear hr1 hr2 hc hil HD1 hE0
            go_wp2_with (first
              | (go_at_call 16; refine (HD2.out _ (grownBy_refl _ _)).mono ?_; rintro e wa2 ⟨v1, L1, rfl, R1, he1, ga2⟩; have He1 := Lib.hid he1; clear he1; obtain ⟨a1, c1, rfl⟩ := R1.own.shape)
              | (go_at_call 13; refine He1.out.mono ?_; rintro e wd2 ⟨v2, rfl, o2, gd2⟩; obtain ⟨a2, c2, rfl⟩ := o2.shape; have Kd2 := grownBy_trans ga2 gd2)
              | (go_at_call 15; refine (sameBy_c _ _ pl _ o2.rd (HR1.out.same Kd2)).mono ?_; rintro e we2 ⟨rfl, ge2⟩; have Ke2 := grownBy_trans Kd2 ge2))
            exact ⟨⟨i + 1, by omega, by go_num, grownBy_trans hg Ke2⟩, by simp [intOf]; omega⟩
          · have hEz : (decOE pl == 0) = false := by simp [hE0]
            clear hr1 hr2 hc hil hE0
            go_wp2_with (first
              | (go_at_call 16; refine (HD1.out _ (grownBy_refl _ _)).mono ?_; rintro e wa2 ⟨v1, L1, rfl, R1, he1, ga2⟩; have He1 := Lib.hid he1; clear he1; obtain ⟨a1, c1, rfl⟩ := R1.own.shape)
              | (go_at_call 13; refine ((enc_c _ L1 _ R1.rd (dec_keys He1.out)).mono fun e w'' h => h.is rfl rfl).mono ?_; rintro e wd2 ⟨v2, rfl, o2, gd2⟩; obtain ⟨a2, c2, rfl⟩ := o2.shape; have Kd2 := grownBy_trans ga2 gd2))
            exact ⟨⟨i + 1, by omega, by go_num, grownBy_trans hg Kd2⟩, by simp [intOf]; omega⟩
        · go_wp2_with (go_at_call 10; refine (awake33_c _).mono ?_; rintro e w6 ⟨rfl, G6⟩)
          go_ret
          exact retBool rfl (grownBy_trans KV.out (grownBy_trans hg G6))
end Go.Proofs.Ytniokdflljchgaa

/- Arguments that come in: slices of ints. -/
namespace Go.Proofs.Ytniokdflljchgaa
open Go.RowKit

theorem own : ownKnob Try.prog.godebug = none := by kernel_rfl
theorem laidOut : laidOutB Try.prog = true := by kernel_rfl

/-- A slice of integers that came in: it is nil; or it leads to a row of 'cap' cells, the numbers 'zs' (the first 'len' are its elements), each fitting its kind. -/
def IsRow (k : IntKind) (w : World) (a : Option Addr) (len cap : Nat) (zs : List Int) : Prop :=
  (a = none ∧ len = 0 ∧ cap = 0 ∧ zs = []) ∨
  ∃ x, a = some x ∧ len ≤ cap ∧ cap ≤ maxLen ∧ zs.length = cap ∧ (∀ i, i < zs.length → w.cell? (x.add i) = some (.int k (zs.getD i 0))) ∧ ∀ n ∈ zs, (Lit.int k n).wf = true

theorem IsRow.rd {k : IntKind} {w : World} {a : Option Addr} {len cap : Nat} {zs : List Int} (h : IsRow k w a len cap zs) : Rd w 1 (.slice a len cap) len ((zs.take len).map (fun x => Value.int k x)) := by
  rcases h with ⟨rfl, rfl, rfl, rfl⟩ | ⟨x, rfl, h1, h2, h3, h4, h5⟩
  · exact ⟨by simp, by omega, .inl ⟨rfl, _, _, rfl⟩⟩
  · have hm : len ≤ 9223372036854775807 := by unfold maxLen at h2; omega
    rcases Nat.eq_zero_or_pos len with rfl | h0
    · exact ⟨by simp, by omega, .inl ⟨rfl, _, _, rfl⟩⟩
    · obtain ⟨b, off, spot⟩ := x
      have hc := h4 0 (by omega)
      cases spot with
      | some s =>
        exfalso
        unfold Addr.add at hc
        simp [World.cell?] at hc
        split at hc <;> simp_all
      | none =>
        refine ⟨by simp; omega, hm, .inr ⟨b, off, cap, rfl, block_lt_of_cell hc, fun j u hu => ?_⟩⟩
        have hj : j < len := by
          have := (List.getElem?_eq_some_iff.1 hu).1
          simp at this; omega
        have := h4 j (by omega)
        have ha : (⟨b, off, none⟩ : Addr).add j = ⟨b, off + j, none⟩ := by unfold Addr.add; split <;> simp_all
        rw [ha] at this
        rw [this, ← hu]
        simp [hj, List.getElem?_eq_getElem (show j < zs.length by omega)]
end Go.Proofs.Ytniokdflljchgaa

/- Arguments that come in: slices of ints and of words, read as lists. -/
namespace Go.Proofs.Ytniokdflljchgaa
open Go.RowKit

theorem IsRow.len_take {k : IntKind} {w : World} {a : Option Addr} {len cap : Nat} {zs : List Int} (h : IsRow k w a len cap zs) : (zs.take len).length = len := by
  rcases h with ⟨_, rfl, _, rfl⟩ | ⟨x, _, h1, _, h3, _⟩
  · rfl
  · rw [List.length_take]; omega
theorem IsRow.rdI {w : World} {a : Option Addr} {len cap : Nat} {zs : List Int} (h : IsRow .i64 w a len cap zs) : RdL intF 1 w (.slice a len cap) (zs.take len) := by
  have e := h.len_take
  have h2 := h.rd
  unfold RdL
  rw [e, show cellsOf intF (zs.take len) = _ from cells_int _]
  exact h2
theorem IsRow.rdW {w : World} {a : Option Addr} {len cap : Nat} {zs : List Int} (h : IsRow .u64 w a len cap zs) : RdL wordF 1 w (.slice a len cap) (zs.take len) := by
  have e := h.len_take
  have h2 := h.rd
  unfold RdL
  rw [e, show cellsOf wordF (zs.take len) = _ from cells_word _]
  exact h2
theorem IsRow.wf {k : IntKind} {w : World} {a : Option Addr} {len cap : Nat} {zs : List Int} (h : IsRow k w a len cap zs) : ∀ x ∈ zs.take len, (Lit.int k x).wf = true := by
  intro x hx
  rcases h with ⟨_, rfl, _, rfl⟩ | ⟨_, _, _, _, _, _, h5⟩
  · simp at hx
  · exact h5 x (List.mem_of_mem_take hx)
end Go.Proofs.Ytniokdflljchgaa

/- Arguments that come in, opened: structs of one-cell fields, slices of whatever elements; reports. -/
namespace Go.Proofs.Ytniokdflljchgaa
open Go.RowKit Go.WideShapes Go.ChangeShapes Go.Deep

section
variable {H : Type} {enc : TypeId × Value → H} {P : Program} {w : World} {base : Nat} {spare : Nat → Bool} {held : Bool}
theorem open_fields {t : TypeId} {fs : Array Field} {fuel : Nat} {cs : List Value} {x : DataW H × List MemPlace} (ht : P.underlying t = some (.struct fs)) (hone : oneCellFields P fs = true) (hC : P.cellsOf t = fs.size)
    (h : DataW.trod enc P w base spare held fuel t cs = some x) : cs.length = fs.size ∧ ∃ n, ∀ (i : Nat) (f : Field), fs[i]? = some f → ∃ c y, cs[i]? = some c ∧ DataW.trod enc P w base spare held n f.type [c] = some y := by
  obtain ⟨xs, n, _, _, hl, hlen, hf⟩ := DataW.trod_struct ht h
  refine ⟨hl.trans hC, n, fun i f hi => ?_⟩
  have hi2 : i < fs.size := (Array.getElem?_eq_some_iff.1 hi).1
  obtain ⟨o, k⟩ := hone_of hone i f hi
  have h1 := hf i f hi
  have hi3 : i < cs.length := by rw [hl, hC]; exact hi2
  have hi4 : i < xs.length := by rw [hlen]; exact hi2
  rw [o, k, List.getElem?_eq_getElem hi4] at h1
  have e : (cs.drop i).take 1 = [cs[i]] := by
    rw [List.take_one, List.head?_drop, List.getElem?_eq_getElem hi3]; rfl
  rw [e] at h1
  exact ⟨cs[i], xs[i], List.getElem?_eq_getElem hi3, h1⟩
theorem open_elems {α : Type} [Inhabited α] (f : α → List Value) (s : Nat) {t e : TypeId} (ht : P.underlying t = some (.slice e)) (hC : P.cellsOf e = s) (hpos : 0 < s) (hs : ∀ x, (f x).length = s) (Ok : α → Prop)
    (hel : ∀ n cs y, DataW.trod enc P w base spare held n e cs = some y → ∃ x, cs = f x ∧ Ok x) {fuel : Nat} {cs : List Value} {x : DataW H × List MemPlace} (h : DataW.trod enc P w base spare held fuel t cs = some x) :
    ∃ a len cap, ∃ l : List α, cs = [.slice a len cap] ∧ l.length = len ∧ len ≤ cap ∧ RdL f s w (.slice a len cap) l ∧ ∀ x ∈ l, Ok x := by
  rcases open_slice ht h with ⟨rfl, _⟩ | ⟨a, len, cap, m, n, D, Pl, rfl, _, hl, hm, hmm, _, hx⟩
  · exact ⟨none, 0, 0, [], rfl, rfl, Nat.le_refl _, ⟨by simp [cellsOf], by simp, .inl ⟨rfl, none, 0, rfl⟩⟩, by simp⟩
  · have hml : len ≤ m := by rw [hmm]; split <;> omega
    have hm63 : len ≤ 9223372036854775807 := by unfold maxLen at hm; omega
    obtain ⟨V, hV⟩ := choose_lt (α := α) (n := len) (p := fun i y => w.cells? base (a.add (i * P.cellsOf e)) (P.cellsOf e) = some (f y) ∧ Ok y) (fun i hi => by
      obtain ⟨cs', h1, h2⟩ := hx i (by omega)
      obtain ⟨y, rfl, hy⟩ := hel _ _ _ h2
      exact ⟨y, h1, hy⟩)
    have hlen : ((List.range len).map V).length = len := by simp
    refine ⟨some a, len, cap, (List.range len).map V, rfl, hlen, hl, ?_, fun y hy => ?_⟩
    · rcases Nat.eq_zero_or_pos len with h0 | h0
      · subst h0
        exact ⟨by simp [cellsOf], by simp, .inl ⟨by simp, some a, cap, by simp⟩⟩
      · obtain ⟨b, off, spot⟩ := a
        have hc0 := (World.cells?_some (hV 0 h0).1).2.2 0 (by rw [hC]; exact hpos)
        have hf0 : 0 < (f (V 0)).length := by rw [hs]; exact hpos
        rw [List.getElem?_eq_getElem hf0] at hc0
        cases spot with
        | some q =>
          exfalso
          unfold Addr.add at hc0
          simp [World.cell?] at hc0
          split at hc0 <;> simp_all
        | none =>
          have hadd : ∀ o i, (⟨b, o, none⟩ : Addr).add i = ⟨b, o + i, none⟩ := fun o i => by unfold Addr.add; split <;> simp_all
          refine ⟨length_cellsOf f s hs _, by rw [hlen]; exact hm63, .inr ⟨b, off, cap, by rw [hlen], ?_, fun j u hu => ?_⟩⟩
          · rw [hadd, hadd] at hc0
            exact block_lt_of_cell hc0
          · have hj : j < len * s := by
              have := (List.getElem?_eq_some_iff.1 hu).1
              rwa [length_cellsOf f s hs, hlen] at this
            have hq : j / s < len := Nat.div_lt_of_lt_mul (by rw [Nat.mul_comm]; exact hj)
            have hr : j % s < s := Nat.mod_lt _ hpos
            have he : j / s * s + j % s = j := Nat.div_add_mod' j s
            have h1 := (World.cells?_some (hV (j / s) hq).1).2.2 (j % s) (by rw [hC]; exact hr)
            rw [hadd, hadd, hC] at h1
            have h2 := get_cellsOf f s hs ((List.range len).map V) (j / s) (j % s) hr (V (j / s)) (by simp [hq])
            rw [he] at h2
            rw [← he, ← Nat.add_assoc, h1, ← h2, hu]
    · obtain ⟨i, hi, rfl⟩ := List.mem_map.1 hy
      exact (hV i (List.mem_range.1 hi)).2
/-- A slice of integers. -/
theorem open_elems_int {k : IntKind} {t e : TypeId} (ht : P.underlying t = some (.slice e)) (he : P.underlying e = some (.int k)) (hC : P.cellsOf e = 1) {fuel : Nat} {cs : List Value} {x : DataW H × List MemPlace} (h : DataW.trod enc P w base spare held fuel t cs = some x) :
    ∃ a len cap, ∃ l : List Int, cs = [.slice a len cap] ∧ l.length = len ∧ len ≤ cap ∧ RdL (fun n => [Value.int k n]) 1 w (.slice a len cap) l ∧ ∀ n ∈ l, (Lit.int k n).wf = true :=
  open_elems (fun n => [Value.int k n]) 1 ht hC (by omega) (fun _ => rfl) (fun n => (Lit.int k n).wf = true) (fun n cs y h => by obtain ⟨m, h1, _, h2⟩ := DataW.trod_int he h; exact ⟨m, h1, h2⟩) h
/-- A struct by value: its cells, one a field. -/
theorem open_agg {r : Reach} {b0 : Nat} {t : TypeId} {fs : Array Field} {v : Value} {d : DataW H} {p : List MemPlace} (ht : P.underlying t = some (.struct fs)) (hone : oneCellFields P fs = true) (hC : P.cellsOf t = fs.size)
    (hv : Value.okWide P w r b0 t v) (h : DataW.Trod enc P w base spare held t v d p) :
    ∃ cs : Array Value, v = .agg cs ∧ cs.size = fs.size ∧ ∃ n, ∀ (i : Nat) (f : Field), fs[i]? = some f → ∃ c y, cs[i]? = some c ∧ DataW.trod enc P w base spare held n f.type [c] = some y := by
  obtain ⟨cs, rfl, hsz⟩ := okWide_struct ht hv
  obtain ⟨fuel, hf⟩ := h
  obtain ⟨_, n, hh⟩ := open_fields ht hone hC hf
  exact ⟨cs, rfl, hsz.trans hC, n, fun i f hi => by obtain ⟨c, y, h1, h2⟩ := hh i f hi; exact ⟨c, y, by simpa [Value.cells] using h1, h2⟩⟩
theorem array7 {α : Type} {cs : Array α} (h : cs.size = 7) : ∃ a b c d e f g, cs = #[a, b, c, d, e, f, g] := by
  obtain ⟨l⟩ := cs
  match l, h with
  | [a, b, c, d, e, f, g], _ => exact ⟨a, b, c, d, e, f, g, rfl⟩
theorem list3 {α : Type} {l : List α} (h : l.length = 3) : ∃ a b c, l = [a, b, c] := by
  match l, h with
  | [a, b, c], _ => exact ⟨a, b, c, rfl⟩
end

end Go.Proofs.Ytniokdflljchgaa

/- Bytes that come in, opened. -/
namespace Go.Proofs.Ytniokdflljchgaa
open Go.RowKit Go.WideShapes Go.ChangeShapes Go.Deep

theorem byte_of {n : Int} (h : (Lit.int .u8 n).wf = true) : ∃ b : UInt8, n = (b.toNat : Int) := by
  have := bounds_u8 h
  exact ⟨UInt8.ofNat n.toNat, by rw [UInt8.toNat_ofNat']; omega⟩
section
variable {H : Type} {enc : TypeId × Value → H} {P : Program} {w : World} {base : Nat} {spare : Nat → Bool} {held : Bool}
theorem open_bytes {t e : TypeId} (ht : P.underlying t = some (.slice e)) (he : P.underlying e = some (.int .u8)) (hC : P.cellsOf e = 1) {fuel : Nat} {cs : List Value} {x : DataW H × List MemPlace} (h : DataW.trod enc P w base spare held fuel t cs = some x) :
    ∃ a len cap, ∃ l : List UInt8, cs = [.slice a len cap] ∧ l.length = len ∧ len ≤ cap ∧ RdL byF 1 w (.slice a len cap) l := by
  obtain ⟨a, len, cap, l, h1, h2, h3, h4, _⟩ := open_elems byF 1 ht hC (by omega) byF_len (fun _ => True) (fun n cs y h => by obtain ⟨m, h1, _, h2⟩ := DataW.trod_int he h; obtain ⟨b, rfl⟩ := byte_of h2; exact ⟨b, h1, trivial⟩) h
  exact ⟨a, len, cap, l, h1, h2, h3, h4⟩
end
end Go.Proofs.Ytniokdflljchgaa

/- Operations that come in, opened. -/
namespace Go.Proofs.Ytniokdflljchgaa
open Go.RowKit Go.WideShapes Go.ChangeShapes Go.Deep

theorem fields_op : ∃ fs, Try.prog.underlying 30 = some (.struct fs) ∧ oneCellFields Try.prog fs = true ∧ Try.prog.cellsOf 30 = fs.size ∧ fs.size = 6 ∧ (fs[0]?).map (·.type) = some 3 ∧ (fs[1]?).map (·.type) = some 28 ∧ (fs[2]?).map (·.type) = some 3 ∧
    (fs[3]?).map (·.type) = some 3 ∧ (fs[4]?).map (·.type) = some 9 ∧ (fs[5]?).map (·.type) = some 23 :=
  ⟨_, Try.underlying30, by kernel_rfl, by kernel_rfl, rfl, rfl, rfl, rfl, rfl, rfl, rfl⟩
theorem list6 {α : Type} {l : List α} (h : l.length = 6) : ∃ a b c d e f, l = [a, b, c, d, e, f] := by
  match l, h with
  | [a, b, c, d, e, f], _ => exact ⟨a, b, c, d, e, f, rfl⟩
instance : Inhabited OpR := ⟨⟨0, .slice none 0 0, 0, 0, ByteArray.empty, .slice none 0 0, [], []⟩⟩
theorem someMap {α β : Type} {o : Option α} {g : α → β} {b : β} (h : o.map g = some b) : ∃ x, o = some x ∧ g x = b := by
  cases o with
  | none => cases h
  | some x => exact ⟨x, rfl, by simpa using h⟩
section
variable {H : Type} {enc : TypeId × Value → H} {w : World} {base : Nat} {spare : Nat → Bool} {held : Bool}
set_option maxRecDepth 100000 in
theorem open_op {n : Nat} {cs : List Value} {y : DataW H × List MemPlace} (h : DataW.trod enc Try.prog w base spare held n 30 cs = some y) : ∃ x : OpR, cs = opF x ∧ OpRd w x ∧ OpW x := by
  obtain ⟨fs, h1, h2, h3, h4, f0, f1, f2, f3, f4, f5⟩ := fields_op
  obtain ⟨hl, m, hf⟩ := open_fields h1 h2 h3 h
  obtain ⟨a, b, c, d, e, f, rfl⟩ := list6 (hl.trans h4)
  obtain ⟨g0, e0, t0⟩ := someMap f0
  obtain ⟨g1, e1, t1⟩ := someMap f1
  obtain ⟨g2, e2, t2⟩ := someMap f2
  obtain ⟨g3, e3, t3⟩ := someMap f3
  obtain ⟨g4, e4, t4⟩ := someMap f4
  obtain ⟨g5, e5, t5⟩ := someMap f5
  obtain ⟨c0, y0, k0, r0⟩ := hf 0 g0 e0
  obtain ⟨c1, y1, k1, r1⟩ := hf 1 g1 e1
  obtain ⟨c2, y2, k2, r2⟩ := hf 2 g2 e2
  obtain ⟨c3, y3, k3, r3⟩ := hf 3 g3 e3
  obtain ⟨c4, y4, k4, r4⟩ := hf 4 g4 e4
  obtain ⟨c5, y5, k5, r5⟩ := hf 5 g5 e5
  clear hf
  simp at k0 k1 k2 k3 k4 k5
  subst k0 k1 k2 k3 k4 k5
  rw [t0] at r0; rw [t1] at r1; rw [t2] at r2; rw [t3] at r3; rw [t4] at r4; rw [t5] at r5
  obtain ⟨kd, q0, _, s0⟩ := DataW.trod_int Try.underlying3 r0
  obtain ⟨da, dn, dc, dl, q1, hdn, hdc, hdr⟩ := open_bytes Try.underlying28 Try.underlying5 (by kernel_rfl) r1
  obtain ⟨tm, q2, _, s2⟩ := DataW.trod_int Try.underlying3 r2
  obtain ⟨sh, q3, _, s3⟩ := DataW.trod_int Try.underlying3 r3
  obtain ⟨ky, q4, _, s4⟩ := DataW.trod_string Try.underlying9 r4
  obtain ⟨pa, pn, pc, pl, q5, hpn, hpc, hpr, hpw⟩ := open_elems_int (k := .i64) Try.underlying23 Try.underlying3 (by kernel_rfl) r5
  simp at q0 q1 q2 q3 q4 q5
  subst q0 q1 q2 q3 q4 q5
  refine ⟨⟨kd, _, tm, sh, ky, _, dl, pl⟩, rfl, ⟨hdr, hpr, fun a n c e => by cases e; exact hdc, fun a n c e => by cases e; exact hpc⟩, ?_, ?_, ?_, by unfold maxLen at s4; show ky.size ≤ _; omega, fun p hp => ?_⟩
  · have := bounds_i64 s0; unfold J64; simp only; omega
  · have := bounds_i64 s2; unfold J64; simp only; omega
  · have := bounds_i64 s3; unfold J64; simp only; omega
  · have := bounds_i64 (hpw p hp); unfold J64; omega
theorem open_ops {fuel : Nat} {cs : List Value} {x : DataW H × List MemPlace} (h : DataW.trod enc Try.prog w base spare held fuel 22 cs = some x) :
    ∃ a len cap, ∃ l : List OpR, cs = [.slice a len cap] ∧ l.length = len ∧ len ≤ cap ∧ OpsRd w (.slice a len cap) l ∧ ∀ o ∈ l, OpW o := by
  obtain ⟨a, len, cap, l, h1, h2, h3, h4, h5⟩ := open_elems opF 6 Try.underlying22 (by kernel_rfl) (by omega) opF_len (fun o => OpRd w o ∧ OpW o) (fun n cs y h => open_op h) h
  exact ⟨a, len, cap, l, h1, h2, h3, ⟨h4, fun o ho => (h5 o ho).1⟩, fun o ho => (h5 o ho).2⟩
end
end Go.Proofs.Ytniokdflljchgaa
