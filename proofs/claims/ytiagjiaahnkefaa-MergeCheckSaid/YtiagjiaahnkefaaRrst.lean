/- The rest: the reference. -/
import Derived.Test.YtiagjiaahnkefaaRmrg
import Derived.Test.YtiagjiaahnkefaaLineP
namespace Go.Proofs.Ytiagjiaahnkefaa
open Go.RowKit
attribute [local go_sem ↓] exec_load_cfg
attribute [local go_sem] run_loadCfgS

set_option maxHeartbeats 1000000 in
set_option maxRecDepth 100000 in
theorem rrest_c (c : Cfg) (t : List Int) (lv : Value) (l : List Summ) (w : World) (h : RCfg w c t) (hl : SumsRd w lv l) (hs : SumsSmall l) :
    Calls Try.prog 42 #[c.val, lv] w (RetWord (restF c l) w) := by
  obtain ⟨la, lc, rfl⟩ := hl.rd.shape
  have HL := Lib.hid hl
  have hlm := hl.rd.2.1
  obtain ⟨s1, s2⟩ := h.shards
  obtain ⟨s3, s4⟩ := h.spread
  have Hc := Lib.hid fun w' (hg : w.grownBy w' none) => rmerge_c c t _ l w' (h.same hg) (hl.same hg) hs
  clear h hl hs
  by_cases hz : mergeErr c l = 0
  · have hlen := merge_len hz
    obtain ⟨N, hN⟩ : ∃ N, c.Spread.toNat = N := ⟨_, rfl⟩
    have HR := Lib.hid (p := restF c l = restI c.Shards N l l.length) (by unfold restF; rw [if_neg (by omega), hN, ← hlen]; rfl)
    have hN1 : c.Spread = (N : Int) := by omega
    have hN2 : N ≤ 8 := by omega
    have hl8 : l.length ≤ 8 := by omega
    have hl1 : 1 ≤ l.length := by omega
    have Hlen := Lib.hid hlen
    have HN1 := Lib.hid hN1
    have HAf := Lib.hid fun (k : Nat) (hk : k < l.length) (w' : World) => after_c c k w' ⟨s1, s2⟩ ⟨s3, s4⟩ ⟨by omega, by omega⟩
    have HIn : Hid (∀ k : Nat, ∀ x ∈ setN (k : Int) c.Shards N, 0 ≤ x ∧ x < (l.length : Int)) := Lib.hid fun k x hx => by
      have := setN_in s1 x hx
      rw [hlen]; exact this
    rw [hN] at HAf
    have hmod : ∀ (h : Nat) (i : Nat), 0 ≤ ((h : Int) + i) % c.Shards ∧ ((h : Int) + i) % c.Shards < l.length := fun h i => ⟨Int.emod_nonneg _ (by omega), by rw [hlen]; exact Int.emod_lt_of_pos _ (by omega)⟩
    have Hmod := Lib.hid hmod
    rw [hz] at Hc
    have hsz : (c.Shards == 0) = false := beq_eq_false_iff_ne.2 (by omega)
    clear hz hN hN1 hlen hmod
    go_enter Try.func42, Try.ntmps42
    go_upto_region 1 with (refine box_cfg rfl _ rfl c rfl ?_; intro w1 B1 G1 z1)
    go_wp2_with (first | (refine load_cfg rfl _ rfl _ rfl c (by assumption) ?_) | (go_at_call 35; refine (Hc.out _ G1).mono ?_; rintro e w2 ⟨rfl, G2⟩; have BC := B1.same G2; have bc := BC.cell))
    have hg := grownBy_trans G1 G2
    clear G1 B1 G2 bc Hc
    go_loopw [5, 6] (fun s5 s6 wr => ∃ (k : Nat), k ≤ l.length ∧ s6 = .int .i64 k ∧ s5 = .int .u64 (restI c.Shards N l k) ∧ W64 (restI c.Shards N l k) ∧ w2.grownBy wr none) (fun _ s6 _ => l.length - (intOf s6).toNat)
    case atStart => exact ⟨0, Nat.zero_le _, rfl, rfl, w64_0, grownBy_refl _ _⟩
    case round =>
      obtain ⟨k, hk, rfl, rfl, hT, hgr⟩ := hrel
      have BCr := BC.same hgr
      have bcr := BCr.cell
      by_cases hlt : k < l.length
      · have hlt2 : (k : Int) < c.Shards := by have := Hlen.out; omega
        have HS := Lib.hid (restI_succ c.Shards N l k)
        have hin := HIn.out k
        have hON := setN_len k c.Shards N
        have HA2 := Lib.hid (HAf.out k hlt)
        generalize restI c.Shards N l k = T at *
        generalize setN k c.Shards N = O at *
        have Hin := Lib.hid hin
        clear hin
        go_wp2_with (first | (refine load_cfg rfl _ rfl _ rfl c (by assumption) ?_) | (go_at_call 87; refine (HA2.out _).mono ?_; rintro e w3 ⟨ov, rfl, hov, G3⟩; obtain ⟨oa, oc, rfl⟩ := hov.shape))
        have HO := Lib.hid hov.rd
        have hgg := grownBy_trans (grownBy_trans hg hgr) G3
        clear hov bcr
        go_loopw [7, 24] (fun s7 s24 wi => ∃ (i : Nat), i ≤ O.length ∧ s24 = .int .i64 i ∧ s7 = .int .u64 (uF l (O.take i)) ∧ W64 (uF l (O.take i)) ∧ w3 = wi) (fun _ s24 _ => O.length - (intOf s24).toNat)
        case atStart => exact ⟨0, Nat.zero_le _, rfl, rfl, w64_0, rfl⟩
        case round =>
          obtain ⟨i, hi, rfl, rfl, hU, rfl⟩ := hrel
          by_cases hil : i < O.length
          · obtain ⟨go, offo, capo, hvo, hgo, co⟩ := HO.out.one int_one hil
            cases hvo
            obtain ⟨m1, m2⟩ := Hin.out _ (List.getElem_mem hil)
            have HS2 := Lib.hid (take_succ hil)
            have HU2 := Lib.hid (uF_snoc l (O.take i) O[i])
            generalize O[i] = q at *
            obtain ⟨n, rfl⟩ := Int.eq_ofNat_of_zero_le m1
            have hnl : n < l.length := by omega
            obtain ⟨g, off, cap, hv, hgl, c0, c1, c2, c3, hR, hW⟩ := (HL.out.same hgg).at_ hnl
            cases hv
            have hwu := hW.untr
            have HA := Lib.hid (uAt_eq hnl)
            have hW2 := satA_w hU hwu
            generalize l[n].untr = u at *
            generalize uF l (O.take i) = U at *
            clear hR hW c0 c1 c3
            go_wp2_with (go_at_call 84; refine (rsum_c U u _ hU hwu).mono ?_; rintro e w' ⟨rfl, rfl⟩)
            exact ⟨⟨i + 1, by omega, by go_num, by rw [HS2.out, HU2.out, HA.out], by rw [HS2.out, HU2.out, HA.out]; exact hW2, trivial⟩, by simp [intOf]; omega⟩
          · have hle : O.take i = O := List.take_of_length_le (by omega)
            rw [hle] at hU ⊢
            clear hle
            generalize uF l O = U at *
            go_wp2_with fail
            refine ⟨⟨k + 1, by omega, by go_num, ?_, ?_, grownBy_trans hgr G3⟩, by simp [intOf]; omega⟩
            · rw [HS.out]
            · rw [HS.out]; unfold W64 at *; omega
      · have hlt2 : ¬ (k : Int) < c.Shards := by have := Hlen.out; omega
        have hkl : k = l.length := by omega
        have HF := Lib.hid (p := restF c l = restI c.Shards N l k) (by rw [hkl]; exact HR.out)
        generalize restI c.Shards N l k = T at *
        go_wp2_with fail
        go_ret
        exact retWord HF.out (grownBy_trans hg hgr)
  · have HF := Lib.hid (p := restF c l = 0) (by unfold restF; rw [if_pos hz])
    generalize mergeErr c l = ME at *
    have hz2 : (ME != 0) = true := bne_iff_ne.2 hz
    go_enter Try.func42, Try.ntmps42
    go_upto_region 1 with (refine box_cfg rfl _ rfl c rfl ?_; intro w1 B1 G1 z1)
    go_wp2_with (first | (refine load_cfg rfl _ rfl _ rfl c (by assumption) ?_) | (go_at_call 35; refine (Hc.out _ G1).mono ?_; rintro e w2 ⟨rfl, G2⟩))
    go_ret
    exact retWord HF.out (grownBy_trans G1 G2)
end Go.Proofs.Ytiagjiaahnkefaa
