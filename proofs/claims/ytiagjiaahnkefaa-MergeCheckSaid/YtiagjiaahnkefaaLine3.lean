/- The reference's Line. -/
import Derived.Test.YtiagjiaahnkefaaLine2
namespace Go.Proofs.Ytiagjiaahnkefaa
open Go.RowKit
attribute [local go_sem ↓] exec_load_cfg
attribute [local go_sem] run_loadCfgS

theorem fold_stepR (c : Cfg) (t : List Int) (l : List Summ) (k : ByteArray) (O : List Int) {j : Nat} (hj : j < O.length) :
    foldB c t l k ((O.take (j + 1)).filter (fun i : Int => decide (i < (l.length : Int)))) = if decide (O[j] < (l.length : Int)) then addP (foldB c t l k ((O.take j).filter (fun i : Int => decide (i < (l.length : Int))))) (bP c t l k O[j]) else foldB c t l k ((O.take j).filter (fun i : Int => decide (i < (l.length : Int)))) := by
  rw [take_succ hj, List.filter_append]
  by_cases h : decide (O[j] < (l.length : Int)) = true
  · rw [if_pos h, List.filter_cons_of_pos (p := fun i : Int => decide (i < (l.length : Int))) h, List.filter_nil, foldB_snoc]
  · rw [if_neg h, List.filter_cons_of_neg (p := fun i : Int => decide (i < (l.length : Int))) h, List.filter_nil, List.append_nil]
theorem keepRLine {w0 w2 : World} {bc g o : Nat} {c : Cfg} {ve vr : Value} {tot un : Int} (hlt : bc < w0.heap.size ∧ g < w0.heap.size) (hB : BoxAt w0 bc c)
    (h : w0.cell? ⟨g, o, none⟩ = some (.int .u64 tot) ∧ w0.cell? ⟨g, o + 1, none⟩ = some ve ∧ w0.cell? ⟨g, o + 2, none⟩ = some (.int .u64 un) ∧ w0.cell? ⟨g, o + 3, none⟩ = some vr) (h0 : w0.grownBy w2 none) :
    isCfg w2 bc = true ∧ readCfg w2 bc = c.val ∧ w2.cell? ⟨g, o, none⟩ = some (.int .u64 tot) ∧ w2.cell? ⟨g, o + 1, none⟩ = some ve ∧ w2.cell? ⟨g, o + 2, none⟩ = some (.int .u64 un) ∧ w2.cell? ⟨g, o + 3, none⟩ = some vr := by
  obtain ⟨h3, h4, h5, h6⟩ := h
  obtain ⟨l3, l4⟩ := hlt
  have hB2 := hB.same h0
  have hc := (grownBy_cells h0).1
  exact ⟨hB2.is, hB2.reads, (hc g _ l4 (by simp)).trans h3, (hc g _ l4 (by simp)).trans h4, (hc g _ l4 (by simp)).trans h5, (hc g _ l4 (by simp)).trans h6⟩

set_option maxHeartbeats 2000000 in
set_option maxRecDepth 100000 in
theorem rline_c (c : Cfg) (t : List Int) (lv : Value) (l : List Summ) (k : ByteArray) (w : World) (h : RCfg w c t) (hl : SumsRd w lv l) (ho : SumsOk l) (hk : k.size ≤ 9223372036854775807) :
    Calls Try.prog 43 #[c.val, lv, .string k] w (RetVal (lineV k (lineF c t l k).1 (lineF c t l k).2) w) := by
  obtain ⟨la, lc, rfl⟩ := hl.rd.shape
  have H := Lib.hid h
  have HL := Lib.hid hl
  obtain ⟨s1, s2⟩ := h.shards
  have hsp := h.spread
  have hlm := hl.rd.2.1
  clear h hl
  go_enter Try.func43, Try.ntmps43
  go_upto_region 1 with (refine box_cfg rfl _ rfl c rfl ?_; intro w1 B1 G1 z1)
  have kr : Blk (w1.alloc (.cells #[.string ⟨#[]⟩, .int .u64 0, .int .u64 0] 71)) w1.heap.size #[.string ⟨#[]⟩, .int .u64 0, .int .u64 0] := (by repeat (first | exact Blk.new' _ _ _ (by simp) | refine Blk.same ?_ (World.grownBy_alloc _ _ _) | refine Blk.drew ?_ _ | refine Blk.drew1 ?_ | refine Blk.set_ (by assumption) _ _ rfl | refine Blk.off ?_ (by first | omega | (simp; done) | (simp; omega)) _ _ | assumption))
  have kc : BoxAt (w1.alloc (.cells #[.string ⟨#[]⟩, .int .u64 0, .int .u64 0] 71)) w.heap.size c := B1.same (World.grownBy_alloc _ _ _)
  have K4 : w.grownBy (w1.alloc (.cells #[.string ⟨#[]⟩, .int .u64 0, .int .u64 0] 71)) none := grownBy_trans G1 (World.grownBy_alloc _ _ _)
  clear G1 B1
  generalize w1.alloc (.cells #[.string ⟨#[]⟩, .int .u64 0, .int .u64 0] 71) = w4 at *
  generalize w1.heap.size = b at *
  have kb0 : Blk (w4.alloc (.cells #[.int .u64 0, .int .u64 0] 62)) w4.heap.size #[.int .u64 0, .int .u64 0] := Blk.new _ _ _
  have kc5 := kc.same (World.grownBy_alloc w4 (.cells #[.int .u64 0, .int .u64 0] 62) none)
  have K5 : w4.grownBy (w4.alloc (.cells #[.int .u64 0, .int .u64 0] 62)) none := World.grownBy_alloc _ _ _
  have z5 : w4.heap.size < (w4.alloc (.cells #[.int .u64 0, .int .u64 0] 62)).heap.size := by simp
  go_upto_region 2 with fail
  generalize hbs : w4.heap.size = bs at *
  generalize w4.alloc (.cells #[.int .u64 0, .int .u64 0] 62) = w5 at *
  go_upto_region 3 with (first | (refine load_cfg rfl _ rfl _ rfl c (by assumption) ?_) | (go_at_call 88; refine (rset_c c t k _ (H.out.same (grownBy_trans K4 K5)) hk).mono ?_; rintro e w6 ⟨ov, rfl, hov, G6⟩; obtain ⟨oa, oc, rfl⟩ := hov.shape))
  have kb := kb0.same G6
  have K6 := grownBy_trans K5 G6
  have hbase : ∀ g, Value.ownBlock (.slice oa (setF c t k).length oc) = some g → g ≠ bs := fun g hg e => by have := (hov.lt g hg).1; omega
  have hin := setN_in (h := homeF c t k) (n := c.Spread.toNat) s1
  have hlen : (setF c t k).length ≤ 8 := by rw [setF, setN_len]; omega
  have Hfin := Lib.hid (p := foldB c t l k ((setF c t k).filter (fun i : Int => decide (i < (l.length : Int)))) = lineF c t l k) rfl
  have Hin : Hid (∀ x ∈ setF c t k, 0 ≤ x ∧ x < c.Shards) := Lib.hid hin
  obtain ⟨O, hO⟩ : ∃ O, O = setF c t k := ⟨_, rfl⟩
  rw [← hO] at hov hlen Hin Hfin hbase ⊢
  have HO : Hid (Own intF 1 3 w5.heap.size w6 (.slice oa O.length oc) O) := Lib.hid hov
  have Hbs := Lib.hid hbs
  have hbs1 : w4.heap.size ≤ bs := by omega
  clear hO hov hin G6 kb0 kc5 K5 hbs
  go_loopw [9, 16] (fun s9 s16 wr => ∃ j : Nat, j ≤ O.length ∧ s16 = .int .i64 j ∧ Blk wr bs #[.int .u64 (foldB c t l k ((O.take j).filter (fun i : Int => decide (i < (l.length : Int))))).1, .int .u64 (foldB c t l k ((O.take j).filter (fun i : Int => decide (i < (l.length : Int))))).2] ∧ w6.grownBy wr (some bs) ∧ w4.grownBy wr none) (fun _ s16 _ => O.length - (intOf s16).toNat)
  case atStart => exact ⟨0, Nat.zero_le _, rfl, kb, grownBy_refl _ _, K6⟩
  case round =>
    clear kb K6
    obtain ⟨j, hj, rfl, kb, h6, h4⟩ := hrel
    by_cases hlt : j < O.length
    · obtain ⟨g, off, cap, hv, hgl, c0⟩ := ((HO.out.kept h6 (fun g hg e => hbase g hg (by injection e with e; exact e.symm))).rd).one int_one hlt
      cases hv
      have hF := fold_stepR c t l k O hlt
      obtain ⟨hx0, hx1⟩ := Hin.out _ (List.getElem_mem hlt)
      obtain ⟨hwa, hwb⟩ := foldB_w (c := c) (t := t) ho k ((O.take j).filter (fun i : Int => decide (i < (l.length : Int))))
      generalize foldB c t l k ((O.take j).filter (fun i : Int => decide (i < (l.length : Int)))) = f at *
      generalize O[j] = x at *
      by_cases hxl : x < (l.length : Int)
      · rw [decide_eq_true hxl, if_pos rfl] at hF
        obtain ⟨n, rfl⟩ := Int.eq_ofNat_of_zero_le hx0
        have hn : n < l.length := by omega
        have HF := Lib.hid hF
        obtain ⟨hb1, hb2⟩ := bP_w (c := c) (t := t) ho k (n : Int)
        have hbP : bP c t l k (n : Int) = (min (bndE l[n].es l[n].untr k).1 (sEstF c t l[n] k), min (bndE l[n].es l[n].untr k).2 (sEstF c t l[n] k)) := by
          unfold bP; rw [Int.toNat_natCast, List.getElem?_eq_getElem hn]
        have hm := List.getElem_mem hn
        have hcon := Lib.hid fun w' hg => rbounds_c c t l[n] k w' (H.out.same hg) (((HL.out).all _ hm).same hg) (HL.out.wf _ hm) (ho.rows _ hm) (ho.len _ hm) hk
        have HV := Lib.hid (p := boundsV c t l[n] k = .tuple #[bndV (bP c t l k (n : Int)).1 (bP c t l k (n : Int)).2, .bool (bndHas l[n].es k)]) (by rw [hbP]; rfl)
        have K2 := grownBy_trans K4 h4
        have E2 := HL.out.same K2
        have hKC := kc.same h4
        generalize hbx : bP c t l k (n : Int) = bx at *
        clear hbP hF hbx
        go_upto_region 6 with fail
        obtain ⟨gl, offl, capl, hvl, hgll, d0, d1, d2, d3, _, _⟩ := E2.at_ hn
        cases hvl
        have hn0 : (0 : Int) ≤ (n : Int) := by omega
        have hn1 : (n : Int) < (l.length : Int) := by omega
        have HL2 := Lib.hid (p := w.heap.size < wr.heap.size ∧ gl < wr.heap.size) ⟨hKC.lt, hgll⟩
        have HS2 := Lib.hid fun wx => keepRLine (w2 := wx) HL2.out hKC ⟨d0, d1, d2, d3⟩
        have hz3 := kb.lt
        clear c0 d0 d1 d2 d3 E2
        go_cut [10, 11] (fun s10 s11 wx => ∃ g9, s10 = .pointer (some ⟨g9, 0, none⟩) ∧ Blk wx g9 #[.int .u64 bx.1, .int .u64 bx.2] ∧ Blk wx bs #[.int .u64 f.1, .int .u64 f.2] ∧ wr.grownBy wx none)
        case first =>
          go_region_held3 (fun w' => isCfg w' w.heap.size = true ∧ readCfg w' w.heap.size = c.val ∧ w'.cell? ⟨gl, offl + n * 4, none⟩ = some (.int .u64 l[n].total) ∧ w'.cell? ⟨gl, offl + n * 4 + 1, none⟩ = some l[n].ve ∧ w'.cell? ⟨gl, offl + n * 4 + 2, none⟩ = some (.int .u64 l[n].untr) ∧ w'.cell? ⟨gl, offl + n * 4 + 3, none⟩ = some l[n].vr)
            (first | exact HS2.out _ (by (repeat (first | exact grownBy_refl _ _ | assumption | refine grownBy_new_block ?_ _ | refine grownBy_drew ?_ | refine grownBy_drewN ?_ _ | refine grownBy_setNew ?_ (by first | (simp; done) | omega | (simp; omega)) _))))
            (first | (go_at_call 89; refine (hcon.out _ (grownBy_trans K2 (by (repeat (first | exact grownBy_refl _ _ | assumption | refine grownBy_new_block ?_ _ | refine grownBy_drew ?_ | refine grownBy_drewN ?_ _ | refine grownBy_setNew ?_ (by first | (simp; done) | omega | (simp; omega)) _))))).mono ?_; rw [HV.out]; rintro e w3 ⟨rfl, G3⟩; (try (have hz : Blk w3 wr.heap.size #[.int .u64 0, .int .u64 0] := Blk.same (Blk.drew1 (Blk.new wr _ _)) G3; have hzc := hz.cell; have hzf := hz.free)); replace G3 : wr.grownBy w3 none := grownBy_trans (by (repeat (first | exact grownBy_refl _ _ | assumption | refine grownBy_new_block ?_ _ | refine grownBy_drew ?_ | refine grownBy_drewN ?_ _ | refine grownBy_setNew ?_ (by first | (simp; done) | omega | (simp; omega)) _))) G3; have BI3 := kb.same G3; have z3 := G3.size))
          · go_wp2_with fail
            go_meet
            exact ⟨_, rfl, Blk.new _ _ _, BI3.same (World.grownBy_alloc _ _ _), grownBy_new_block G3 _⟩
          · go_wp2_with fail
            go_meet
            exact ⟨_, rfl, (hz.set_ 0 _ rfl).set_ 1 _ rfl, (BI3.off (by omega) _ _).off (by omega) _ _, grownBy_setNew (grownBy_setNew G3 (Nat.le_refl _) _) (Nat.le_refl _) _⟩
        case rest =>
          obtain ⟨g9, rfl, BB, BI4, G4⟩ := hcut
          have bb := BB.cell
          have bi := BI4.cell
          clear HS2 hKC HL2 BB kb
          go_wp2_with (go_at_call 90; refine (rAdd_c f.1 f.2 bx.1 bx.2 _ hwa hwb hb1 hb2).mono ?_; rintro e w7 ⟨rfl, G7⟩; have kb7 := BI4.same G7; have kbc7 := kb7.cell; have kbf7 := kb7.free)
          have G8 := grownBy_trans G4 G7
          exact ⟨⟨j + 1, by omega, by go_num, by rw [HF.out]; exact (kb7.set_ 0 _ rfl).set_ 1 _ rfl, grownBy_set (grownBy_set (grownBy_trans h6 (grownBy_some G8 _)) 0 _) 1 _, grownBy_setNew (grownBy_setNew (grownBy_trans h4 G8) hbs1 _) hbs1 _⟩, by simp [intOf]; omega⟩
      · rw [decide_eq_false hxl, if_neg (by decide)] at hF
        have HF := Lib.hid hF
        have hd : decide (x < (l.length : Int)) = false := decide_eq_false hxl
        clear hF
        go_wp2_with fail
        exact ⟨⟨j + 1, by omega, by go_num, by rw [HF.out]; exact kb, h6, h4⟩, by simp [intOf]; omega⟩
    · have hl : foldB c t l k ((O.take j).filter (fun i : Int => decide (i < (l.length : Int)))) = lineF c t l k := by rw [List.take_of_length_le (by omega)]; exact Hfin.out
      rw [hl] at kb
      clear hl Hfin
      generalize lineF c t l k = f at *
      have kbc := kb.cell
      have krc := (kr.same h4).cell
      have krf := (kr.same h4).free
      have hzz : b ≠ bs := by have := kr.lt; omega
      go_wp2_with fail
      have BZ := (((kr.same h4).set_ 0 (.string k) rfl).set_ 1 (.int .u64 f.1) rfl).set_ 2 (.int .u64 f.2) rfl
      have bz := BZ.cell
      refine bodyPost_ret (v := lineV k f.1 f.2) (by simp [results, Try.results43, go_sem, bz]) rfl ?_
      exact retVal rfl (grownBy_setNew (grownBy_setNew (grownBy_setNew (grownBy_trans K4 h4) (by simp; omega) _) (by simp; omega) _) (by simp; omega) _)
end Go.Proofs.Ytiagjiaahnkefaa
