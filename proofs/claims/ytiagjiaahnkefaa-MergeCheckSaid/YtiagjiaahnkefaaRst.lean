/- The rest: the program. -/
import Derived.Test.YtiagjiaahnkefaaMchk
namespace Go.Proofs.Ytiagjiaahnkefaa
open Go.RowKit
attribute [local go_sem ↓] exec_load_cfg
attribute [local go_sem] run_loadCfgS

def uAt (l : List Summ) (i : Int) : Int := ((l[i.toNat]?).map (·.untr)).getD 0
def uF (l : List Summ) (is : List Int) : Int := is.foldl (fun a i => satA a (uAt l i)) 0
theorem uF_snoc (l : List Summ) (is : List Int) (i : Int) : uF l (is ++ [i]) = satA (uF l is) (uAt l i) := by simp [uF]
theorem uAt_eq {l : List Summ} {n : Nat} (h : n < l.length) : uAt l n = l[n].untr := by simp [uAt, List.getElem?_eq_getElem h]
def restI (m : Int) (n : Nat) (l : List Summ) (k : Nat) : Int := (rangeI k).foldl (fun x h => max x (uF l (setN h m n))) 0
theorem restI_succ (m : Int) (n : Nat) (l : List Summ) (k : Nat) : restI m n l (k + 1) = max (restI m n l k) (uF l (setN k m n)) := by simp [restI, rangeI_succ]
def restF (c : Cfg) (l : List Summ) : Int := if mergeErr c l ≠ 0 then 0 else restI c.Shards c.Spread.toNat l c.Shards.toNat
theorem merge_len {c : Cfg} {l : List Summ} (h : mergeErr c l = 0) : (l.length : Int) = c.Shards := by
  unfold mergeErr at h
  by_cases e : (l.length : Int) ≠ c.Shards
  · rw [if_pos e] at h; cases h
  · omega

set_option maxHeartbeats 1000000 in
set_option maxRecDepth 100000 in
theorem rest_c (c : Cfg) (t : List Int) (lv : Value) (l : List Summ) (w : World) (h : RCfg w c t) (hl : SumsRd w lv l) (hs : SumsSmall l) :
    Calls Try.prog 41 #[c.val, lv] w (RetWord (restF c l) w) := by
  obtain ⟨la, lc, rfl⟩ := hl.rd.shape
  have HL := Lib.hid hl
  have hlm := hl.rd.2.1
  obtain ⟨s1, s2⟩ := h.shards
  obtain ⟨s3, s4⟩ := h.spread
  have Hc := Lib.hid fun w' (hg : w.grownBy w' none) => mcheck_c c t _ l w' (h.same hg) (hl.same hg) hs
  clear h hl hs
  by_cases hz : mergeErr c l = 0
  · have hlen := merge_len hz
    obtain ⟨N, hN⟩ : ∃ N, c.Spread.toNat = N := ⟨_, rfl⟩
    have HR := Lib.hid (p := restF c l = restI c.Shards N l l.length) (by unfold restF; rw [if_neg (by omega), hN, ← hlen]; rfl)
    have hN1 : c.Spread = (N : Int) := by omega
    have hN2 : N ≤ 8 := by omega
    have hl8 : l.length ≤ 8 := by omega
    have hl1 : 1 ≤ l.length := by omega
    have Hlen := Lib.hid hlen
    have HN1 := Lib.hid hN1
    have hmod : ∀ (h : Nat) (i : Nat), 0 ≤ ((h : Int) + i) % c.Shards ∧ ((h : Int) + i) % c.Shards < l.length := fun h i => ⟨Int.emod_nonneg _ (by omega), by rw [hlen]; exact Int.emod_lt_of_pos _ (by omega)⟩
    have Hmod := Lib.hid hmod
    rw [hz] at Hc
    have hsz : (c.Shards == 0) = false := beq_eq_false_iff_ne.2 (by omega)
    clear hz hN hN1 hlen hmod
    go_enter Try.func41, Try.ntmps41
    go_upto_region 1 with (refine box_cfg rfl _ rfl c rfl ?_; intro w1 B1 G1 z1)
    go_wp2_with (first | (refine load_cfg rfl _ rfl _ rfl c (by assumption) ?_) | (go_at_call 34; refine (Hc.out _ G1).mono ?_; rintro e w2 ⟨rfl, G2⟩; have BC := B1.same G2; have bc := BC.cell))
    have hg := grownBy_trans G1 G2
    clear G1 B1 G2 bc Hc
    go_loopw [5, 15] (fun s5 s15 wr => ∃ (k : Nat), k ≤ l.length ∧ s15 = .int .i64 k ∧ s5 = .int .u64 (restI c.Shards N l k) ∧ W64 (restI c.Shards N l k) ∧ w2.grownBy wr none) (fun _ s15 _ => l.length - (intOf s15).toNat)
    case atStart => exact ⟨0, Nat.zero_le _, rfl, rfl, w64_0, grownBy_refl _ _⟩
    case round =>
      obtain ⟨k, hk, rfl, rfl, hT, hgr⟩ := hrel
      have hgg := grownBy_trans hg hgr
      have BCr := BC.same hgr
      have bcr := BCr.cell
      by_cases hlt : k < l.length
      · have hlt2 : (k : Int) < c.Shards := by have := Hlen.out; omega
        have HS := Lib.hid (restI_succ c.Shards N l k)
        generalize restI c.Shards N l k = T at *
        go_wp2_with fail
        go_loopw [7, 20] (fun s7 s20 wi => ∃ (i : Nat), i ≤ N ∧ s20 = .int .i64 i ∧ s7 = .int .u64 (uF l (setN k c.Shards i)) ∧ W64 (uF l (setN k c.Shards i)) ∧ wr.grownBy wi none) (fun _ s20 _ => N - (intOf s20).toNat)
        case atStart => exact ⟨0, Nat.zero_le _, rfl, rfl, w64_0, grownBy_refl _ _⟩
        case round =>
          obtain ⟨i, hi, rfl, rfl, hU, hgi⟩ := hrel
          by_cases hin : i < N
          · have hin2 : (i : Int) < c.Spread := by have := HN1.out; omega
            obtain ⟨m1, m2⟩ := Hmod.out k i
            have HS2 := Lib.hid (setN_succ k c.Shards i)
            have HU2 := Lib.hid (uF_snoc l (setN k c.Shards i) ((k + i) % c.Shards))
            generalize hq : ((k : Int) + i) % c.Shards = q at *
            obtain ⟨n, rfl⟩ := Int.eq_ofNat_of_zero_le m1
            have hnl : n < l.length := by omega
            obtain ⟨g, off, cap, hv, hgl, c0, c1, c2, c3, hR, hW⟩ := (HL.out.same (grownBy_trans hgg hgi)).at_ hnl
            cases hv
            have hwu := hW.untr
            have HA := Lib.hid (uAt_eq hnl)
            have hW2 := satA_w hU hwu
            generalize l[n].untr = u at *
            generalize uF l (setN k c.Shards i) = U at *
            have bci := (BCr.same hgi).cell
            clear hR hW c0 c1 c3
            go_wp2_with (go_at_call 52; refine (satAdd_c U u _ hU hwu).mono ?_; rintro e w' ⟨rfl, rfl⟩)
            refine ⟨⟨i + 1, by omega, by go_num, by rw [HS2.out, HU2.out, HA.out], by rw [HS2.out, HU2.out, HA.out]; exact hW2, hgi⟩, by simp [intOf]; omega⟩
          · have hiN : i = N := by omega
            subst hiN
            have hin2 : ¬ (i : Int) < c.Spread := by have := HN1.out; omega
            generalize uF l (setN k c.Shards i) = U at *
            go_wp2_with fail
            refine ⟨⟨k + 1, by omega, by go_num, ?_, ?_, grownBy_trans hgr hgi⟩, by simp [intOf]; omega⟩
            · rw [HS.out]
            · rw [HS.out]; unfold W64 at *; omega
      · have hlt2 : ¬ (k : Int) < c.Shards := by have := Hlen.out; omega
        have hkl : k = l.length := by omega
        have HF := Lib.hid (p := restF c l = restI c.Shards N l k) (by rw [hkl]; exact HR.out)
        generalize restI c.Shards N l k = T at *
        go_wp2_with fail
        go_ret
        exact retWord HF.out hgg
  · have HF := Lib.hid (p := restF c l = 0) (by unfold restF; rw [if_pos hz])
    generalize mergeErr c l = ME at *
    have hz2 : (ME != 0) = true := bne_iff_ne.2 hz
    go_enter Try.func41, Try.ntmps41
    go_upto_region 1 with (refine box_cfg rfl _ rfl c rfl ?_; intro w1 B1 G1 z1)
    go_wp2_with (first | (refine load_cfg rfl _ rfl _ rfl c (by assumption) ?_) | (go_at_call 34; refine (Hc.out _ G1).mono ?_; rintro e w2 ⟨rfl, G2⟩))
    go_ret
    exact retWord HF.out (grownBy_trans G1 G2)
end Go.Proofs.Ytiagjiaahnkefaa
