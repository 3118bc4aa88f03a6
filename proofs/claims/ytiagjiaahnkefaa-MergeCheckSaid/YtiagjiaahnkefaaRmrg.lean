/- Which lists of summaries are valid; the rest: the reference. -/
import Derived.Test.YtiagjiaahnkefaaRsum
import Derived.Test.YtiagjiaahnkefaaRst
namespace Go.Proofs.Ytiagjiaahnkefaa
open Go.RowKit
attribute [local go_sem ↓] exec_load_cfg
attribute [local go_sem] run_loadCfgS

set_option maxHeartbeats 1000000 in
set_option maxRecDepth 100000 in
theorem rmerge_c (c : Cfg) (t : List Int) (lv : Value) (l : List Summ) (w : World) (h : RCfg w c t) (hl : SumsRd w lv l) (hs : SumsSmall l) :
    Calls Try.prog 35 #[c.val, lv] w (RetInt (mergeErr c l) w) := by
  obtain ⟨la, lc, rfl⟩ := hl.rd.shape
  have H := Lib.hid h
  have HL := Lib.hid hl
  have Hs := Lib.hid hs
  have hlm := hl.rd.2.1
  have h11 : (l.length : Int) ≠ c.Shards → mergeErr c l = 11 := fun h => by unfold mergeErr; rw [if_pos h]
  have hme : (l.length : Int) = c.Shards → mergeErr c l = if sumsErr c l ≠ 0 then sumsErr c l else if 9223372036854775808 < totalF l then 12 else 0 := fun h => by unfold mergeErr; rw [if_neg (fun e => e h)]
  have H11 := Lib.hid h11
  have Hme := Lib.hid hme
  have Ht := Lib.hid fun w' (hg : w.grownBy w' none) => rtotal_c _ l w' (hl.same hg)
  clear h hl hs h11 hme
  generalize mergeErr c l = ME at *
  go_enter Try.func35, Try.ntmps35
  go_upto_region 1 with (refine box_cfg rfl _ rfl c rfl ?_; intro w1 B1 G1 z1)
  go_wp2_with (first | (refine load_cfg rfl _ rfl _ rfl c (by assumption) ?_) | (go_at_call 82; refine (rroutes_c c t _ (H.out.same G1)).mono ?_; rintro e w2 ⟨rfl, G2⟩; have BC := B1.same G2; have bc := BC.cell))
  · go_ret
    exact retInt (H11.out (bne_iff_ne.1 (by assumption))) (grownBy_trans G1 G2)
  have h18 : ((l.length : Int) != c.Shards) = false := by assumption
  have HM := Lib.hid (Hme.out (bne_eq_false_iff_eq.1 h18))
  rw [h18]
  rename_i h19 _ _
  clear h18 h19
  have hg := grownBy_trans G1 G2
  clear H11 Hme G1 B1 G2 bc
  go_loopw [21] (fun s21 wr => ∃ (j : Nat), j ≤ l.length ∧ s21 = .int .i64 j ∧ (∀ i, (hi : i < l.length) → i < j → sumErr c.Depth c.Width l[i] = 0) ∧ w2.grownBy wr none) (fun s21 _ => l.length - (intOf s21).toNat)
  case atStart => exact ⟨0, Nat.zero_le _, rfl, by intro i _ h; omega, grownBy_refl _ _⟩
  case round =>
    obtain ⟨j, hj, rfl, hall, hgr⟩ := hrel
    have Hall := Lib.hid hall
    clear hall
    have hgg := grownBy_trans hg hgr
    have BCr := BC.same hgr
    by_cases hlt : j < l.length
    · obtain ⟨g, off, cap, hv, hgl, c0, c1, c2, c3, hR, hW⟩ := (HL.out.same hgg).at_ hlt
      cases hv
      have hsm := Hs.out _ (List.getElem_mem hlt)
      have hcall := fun w' (h' : wr.grownBy w' none) => rsummary_c c l[j] w' (hR.same h') hW hsm
      obtain ⟨a1, k1, e1⟩ := hR.es.shape
      obtain ⟨a2, k2, e2⟩ := hR.vs.shape
      rw [e1] at c1 hcall
      rw [e2] at c3 hcall
      have hat := fun h => sums_at (c := c) hlt Hall.out h
      have hno := fun (h : sumErr c.Depth c.Width l[j] = 0) => (fun i hi (hij : i < j + 1) => by
        by_cases e : i = j
        · subst e; exact h
        · exact Hall.out i hi (by omega) : ∀ i, (hi : i < l.length) → i < j + 1 → sumErr c.Depth c.Width l[i] = 0)
      clear hR hW hsm e1 e2
      by_cases hz : sumErr c.Depth c.Width l[j] = 0
      · have Hno := Lib.hid (hno hz)
        rw [hz] at hcall
        have Hc := Lib.hid hcall
        clear hz hno hat hcall
        generalize l[j].total = x0 at *
        generalize l[j].untr = x2 at *
        go_wp2_with (first | (refine load_cfg rfl _ rfl _ rfl c (BCr.same (World.grownBy_alloc _ _ _)) ?_) | (go_at_call 83; refine (Hc.out _ (by (repeat (first | exact grownBy_refl _ _ | assumption | refine grownBy_new_block ?_ _ | refine grownBy_drew ?_ | refine grownBy_drewN ?_ _ | refine grownBy_setNew ?_ (by first | (simp; done) | omega | (simp; omega)) _)))).mono ?_; rintro e w5 ⟨rfl, G5⟩))
        exact ⟨⟨j + 1, by omega, by go_num, Hno.out, grownBy_trans hgr (grownBy_trans (World.grownBy_alloc _ _ _) G5)⟩, by simp [intOf]; omega⟩
      · have Hq := Lib.hid (p := ME = sumErr c.Depth c.Width l[j]) (by rw [HM.out, hat hz, if_pos hz])
        have Hc := Lib.hid hcall
        clear hno hat hcall HM
        generalize sumErr c.Depth c.Width l[j] = ee at *
        have hz2 : (ee != 0) = true := bne_iff_ne.2 hz
        generalize l[j].total = x0 at *
        generalize l[j].untr = x2 at *
        go_wp2_with (first | (refine load_cfg rfl _ rfl _ rfl c (BCr.same (World.grownBy_alloc _ _ _)) ?_) | (go_at_call 83; refine (Hc.out _ (by (repeat (first | exact grownBy_refl _ _ | assumption | refine grownBy_new_block ?_ _ | refine grownBy_drew ?_ | refine grownBy_drewN ?_ _ | refine grownBy_setNew ?_ (by first | (simp; done) | omega | (simp; omega)) _)))).mono ?_; rintro e w5 ⟨rfl, G5⟩))
        go_ret
        exact retInt Hq.out (grownBy_trans hgg (grownBy_trans (World.grownBy_alloc _ _ _) G5))
    · have hsz : sumsErr c l = 0 := sums_no fun i hi => Hall.out i hi (by omega)
      have hME : ME = if 9223372036854775808 < totalF l then 12 else 0 := by rw [HM.out, hsz, if_neg (by decide)]
      have HME := Lib.hid hME
      clear hsz hME HM Hall
      generalize totalF l = T at *
      go_wp2_with (first | (refine load_cfg rfl _ rfl _ rfl c (by assumption) ?_) | (go_at_call 37; refine (Ht.out _ hgg).mono ?_; rintro e w5 ⟨rfl, G5⟩))
      · go_ret
        exact retInt (HME.out.trans (if_pos (by assumption))) (grownBy_trans hgg G5)
      · go_ret
        exact retInt (HME.out.trans (if_neg (by omega))) (grownBy_trans hgg G5)
end Go.Proofs.Ytiagjiaahnkefaa
