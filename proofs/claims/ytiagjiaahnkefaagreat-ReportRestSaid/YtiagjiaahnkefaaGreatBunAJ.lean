/- Several texts in one file; each begins with a comment that says what is proved in it. -/
import Derived.Test.YtiagjiaahnkefaaGreatBunAG
import Derived.Test.YtiagjiaahnkefaaGreatBunAI
import Derived.Test.YtiagjiaahnkefaaGreatBunAD
import Derived.Test.YtiagjiaahnkefaaGreatBunAF
import Derived.Test.YtiagjiaahnkefaaGreatBunAE
import Derived.Test.YtiagjiaahnkefaaGreatBunAA
import Derived.ProofKit
import Derived.ShutString
import Derived.ChangeOld

/- The reference's Line. -/
namespace Go.Proofs.YtiagjiaahnkefaaGreat
open Go.RowKit
attribute [local go_sem ↓] exec_load_cfg
attribute [local go_sem] run_loadCfgS

theorem fold_stepR (c : Cfg) (t : List Int) (l : List Summ) (k : ByteArray) (O : List Int) {j : Nat} (hj : j < O.length) :
    foldB c t l k ((O.take (j + 1)).filter (fun i : Int => decide (i < (l.length : Int)))) = if decide (O[j] < (l.length : Int)) then addP (foldB c t l k ((O.take j).filter (fun i : Int => decide (i < (l.length : Int))))) (bP c t l k O[j]) else foldB c t l k ((O.take j).filter (fun i : Int => decide (i < (l.length : Int)))) := by
  rw [take_succ hj, List.filter_append]
  by_cases h : decide (O[j] < (l.length : Int)) = true
  · rw [if_pos h, List.filter_cons_of_pos (p := fun i : Int => decide (i < (l.length : Int))) h, List.filter_nil, foldB_snoc]
  · rw [if_neg h, List.filter_cons_of_neg (p := fun i : Int => decide (i < (l.length : Int))) h, List.filter_nil, List.append_nil]
theorem keepRLine {w0 w2 : World} {bc g o : Nat} {c : Cfg} {ve vr : Value} {tot un : Int} (hlt : bc < w0.heap.size ∧ g < w0.heap.size) (hB : BoxAt w0 bc c)
    (h : w0.cell? ⟨g, o, none⟩ = some (.int .u64 tot) ∧ w0.cell? ⟨g, o + 1, none⟩ = some ve ∧ w0.cell? ⟨g, o + 2, none⟩ = some (.int .u64 un) ∧ w0.cell? ⟨g, o + 3, none⟩ = some vr) (h0 : w0.grownBy w2 none) :
    isCfg w2 bc = true ∧ readCfg w2 bc = c.val ∧ w2.cell? ⟨g, o, none⟩ = some (.int .u64 tot) ∧ w2.cell? ⟨g, o + 1, none⟩ = some ve ∧ w2.cell? ⟨g, o + 2, none⟩ = some (.int .u64 un) ∧ w2.cell? ⟨g, o + 3, none⟩ = some vr := by
  obtain ⟨h3, h4, h5, h6⟩ := h
  obtain ⟨l3, l4⟩ := hlt
  have hB2 := hB.same h0
  have hc := (grownBy_cells h0).1
  exact ⟨hB2.is, hB2.reads, (hc g _ l4 (by simp)).trans h3, (hc g _ l4 (by simp)).trans h4, (hc g _ l4 (by simp)).trans h5, (hc g _ l4 (by simp)).trans h6⟩

set_option maxHeartbeats 2000000 in
set_option maxRecDepth 100000 in
theorem rline_c (c : Cfg) (t : List Int) (lv : Value) (l : List Summ) (k : ByteArray) (w : World) (h : RCfg w c t) (hl : SumsRd w lv l) (ho : SumsOk l) (hk : k.size ≤ 9223372036854775807) :
    Calls Tryz.prog 60 #[c.val, lv, .string k] w (RetVal (lineV k (lineF c t l k).1 (lineF c t l k).2) w) := by
  obtain ⟨la, lc, rfl⟩ := hl.rd.shape
  have H := Lib.hid h
  have HL := Lib.hid hl
  obtain ⟨s1, s2⟩ := h.shards
  have hsp := h.spread
  have hlm := hl.rd.2.1
  clear h hl
  go_enter Tryz.func60, Tryz.ntmps60
  go_upto_region 1 with (refine box_cfg rfl _ rfl c rfl ?_; intro w1 B1 G1 z1)
  have kr : Blk (w1.alloc (.cells #[.string ⟨#[]⟩, .int .u64 0, .int .u64 0] 40)) w1.heap.size #[.string ⟨#[]⟩, .int .u64 0, .int .u64 0] := (by repeat (first | exact Blk.new' _ _ _ (by simp) | refine Blk.same ?_ (World.grownBy_alloc _ _ _) | refine Blk.drew ?_ _ | refine Blk.drew1 ?_ | refine Blk.set_ (by assumption) _ _ rfl | refine Blk.off ?_ (by first | omega | (simp; done) | (simp; omega)) _ _ | assumption))
  have kc : BoxAt (w1.alloc (.cells #[.string ⟨#[]⟩, .int .u64 0, .int .u64 0] 40)) w.heap.size c := B1.same (World.grownBy_alloc _ _ _)
  have K4 : w.grownBy (w1.alloc (.cells #[.string ⟨#[]⟩, .int .u64 0, .int .u64 0] 40)) none := grownBy_trans G1 (World.grownBy_alloc _ _ _)
  clear G1 B1
  generalize w1.alloc (.cells #[.string ⟨#[]⟩, .int .u64 0, .int .u64 0] 40) = w4 at *
  generalize w1.heap.size = b at *
  have kb0 : Blk (w4.alloc (.cells #[.int .u64 0, .int .u64 0] 84)) w4.heap.size #[.int .u64 0, .int .u64 0] := Blk.new _ _ _
  have kc5 := kc.same (World.grownBy_alloc w4 (.cells #[.int .u64 0, .int .u64 0] 84) none)
  have K5 : w4.grownBy (w4.alloc (.cells #[.int .u64 0, .int .u64 0] 84)) none := World.grownBy_alloc _ _ _
  have z5 : w4.heap.size < (w4.alloc (.cells #[.int .u64 0, .int .u64 0] 84)).heap.size := by simp
  go_upto_region 2 with fail
  generalize hbs : w4.heap.size = bs at *
  generalize w4.alloc (.cells #[.int .u64 0, .int .u64 0] 84) = w5 at *
  go_upto_region 3 with (first | (refine load_cfg rfl _ rfl _ rfl c (by assumption) ?_) | (go_at_call 87; refine (rset_c c t k _ (H.out.same (grownBy_trans K4 K5)) hk).mono ?_; rintro e w6 ⟨ov, rfl, hov, G6⟩; obtain ⟨oa, oc, rfl⟩ := hov.shape))
  have kb := kb0.same G6
  have K6 := grownBy_trans K5 G6
  have hbase : ∀ g, Value.ownBlock (.slice oa (setF c t k).length oc) = some g → g ≠ bs := fun g hg e => by have := (hov.lt g hg).1; omega
  have hin := setN_in (h := homeF c t k) (n := c.Spread.toNat) s1
  have hlen : (setF c t k).length ≤ 8 := by rw [setF, setN_len]; omega
  have Hfin := Lib.hid (p := foldB c t l k ((setF c t k).filter (fun i : Int => decide (i < (l.length : Int)))) = lineF c t l k) rfl
  have Hin : Hid (∀ x ∈ setF c t k, 0 ≤ x ∧ x < c.Shards) := Lib.hid hin
  obtain ⟨O, hO⟩ : ∃ O, O = setF c t k := ⟨_, rfl⟩
  rw [← hO] at hov hlen Hin Hfin hbase ⊢
  have HO : Hid (Own intF 1 3 w5.heap.size w6 (.slice oa O.length oc) O) := Lib.hid hov
  have Hbs := Lib.hid hbs
  have hbs1 : w4.heap.size ≤ bs := by omega
  clear hO hov hin G6 kb0 kc5 K5 hbs
  go_loopw [9, 16] (fun s9 s16 wr => ∃ j : Nat, j ≤ O.length ∧ s16 = .int .i64 j ∧ Blk wr bs #[.int .u64 (foldB c t l k ((O.take j).filter (fun i : Int => decide (i < (l.length : Int))))).1, .int .u64 (foldB c t l k ((O.take j).filter (fun i : Int => decide (i < (l.length : Int))))).2] ∧ w6.grownBy wr (some bs) ∧ w4.grownBy wr none) (fun _ s16 _ => O.length - (intOf s16).toNat)
  case atStart => exact ⟨0, Nat.zero_le _, rfl, kb, grownBy_refl _ _, K6⟩
  case round =>
    clear kb K6
    obtain ⟨j, hj, rfl, kb, h6, h4⟩ := hrel
    by_cases hlt : j < O.length
    · obtain ⟨g, off, cap, hv, hgl, c0⟩ := ((HO.out.kept h6 (fun g hg e => hbase g hg (by injection e with e; exact e.symm))).rd).one int_one hlt
      cases hv
      have hF := fold_stepR c t l k O hlt
      obtain ⟨hx0, hx1⟩ := Hin.out _ (List.getElem_mem hlt)
      obtain ⟨hwa, hwb⟩ := foldB_w (c := c) (t := t) ho k ((O.take j).filter (fun i : Int => decide (i < (l.length : Int))))
      generalize foldB c t l k ((O.take j).filter (fun i : Int => decide (i < (l.length : Int)))) = f at *
      generalize O[j] = x at *
      by_cases hxl : x < (l.length : Int)
      · rw [decide_eq_true hxl, if_pos rfl] at hF
        obtain ⟨n, rfl⟩ := Int.eq_ofNat_of_zero_le hx0
        have hn : n < l.length := by omega
        have HF := Lib.hid hF
        obtain ⟨hb1, hb2⟩ := bP_w (c := c) (t := t) ho k (n : Int)
        have hbP : bP c t l k (n : Int) = (min (bndE l[n].es l[n].untr k).1 (sEstF c t l[n] k), min (bndE l[n].es l[n].untr k).2 (sEstF c t l[n] k)) := by
          unfold bP; rw [Int.toNat_natCast, List.getElem?_eq_getElem hn]
        have hm := List.getElem_mem hn
        have hcon := Lib.hid fun w' hg => rbounds_c c t l[n] k w' (H.out.same hg) (((HL.out).all _ hm).same hg) (HL.out.wf _ hm) (ho.rows _ hm) (ho.len _ hm) hk
        have HV := Lib.hid (p := boundsV c t l[n] k = .tuple #[bndV (bP c t l k (n : Int)).1 (bP c t l k (n : Int)).2, .bool (bndHas l[n].es k)]) (by rw [hbP]; rfl)
        have K2 := grownBy_trans K4 h4
        have E2 := HL.out.same K2
        have hKC := kc.same h4
        generalize hbx : bP c t l k (n : Int) = bx at *
        clear hbP hF hbx
        go_upto_region 6 with fail
        obtain ⟨gl, offl, capl, hvl, hgll, d0, d1, d2, d3, _, _⟩ := E2.at_ hn
        cases hvl
        have hn0 : (0 : Int) ≤ (n : Int) := by omega
        have hn1 : (n : Int) < (l.length : Int) := by omega
        have HL2 := Lib.hid (p := w.heap.size < wr.heap.size ∧ gl < wr.heap.size) ⟨hKC.lt, hgll⟩
        have HS2 := Lib.hid fun wx => keepRLine (w2 := wx) HL2.out hKC ⟨d0, d1, d2, d3⟩
        have hz3 := kb.lt
        clear c0 d0 d1 d2 d3 E2
        go_cut [10, 11] (fun s10 s11 wx => ∃ g9, s10 = .pointer (some ⟨g9, 0, none⟩) ∧ Blk wx g9 #[.int .u64 bx.1, .int .u64 bx.2] ∧ Blk wx bs #[.int .u64 f.1, .int .u64 f.2] ∧ wr.grownBy wx none)
        case first =>
          go_region_held3 (fun w' => isCfg w' w.heap.size = true ∧ readCfg w' w.heap.size = c.val ∧ w'.cell? ⟨gl, offl + n * 4, none⟩ = some (.int .u64 l[n].total) ∧ w'.cell? ⟨gl, offl + n * 4 + 1, none⟩ = some l[n].ve ∧ w'.cell? ⟨gl, offl + n * 4 + 2, none⟩ = some (.int .u64 l[n].untr) ∧ w'.cell? ⟨gl, offl + n * 4 + 3, none⟩ = some l[n].vr)
            (first | exact HS2.out _ (by (repeat (first | exact grownBy_refl _ _ | assumption | refine grownBy_new_block ?_ _ | refine grownBy_drew ?_ | refine grownBy_drewN ?_ _ | refine grownBy_setNew ?_ (by first | (simp; done) | omega | (simp; omega)) _))))
            (first | (go_at_call 88; refine (hcon.out _ (grownBy_trans K2 (by (repeat (first | exact grownBy_refl _ _ | assumption | refine grownBy_new_block ?_ _ | refine grownBy_drew ?_ | refine grownBy_drewN ?_ _ | refine grownBy_setNew ?_ (by first | (simp; done) | omega | (simp; omega)) _))))).mono ?_; rw [HV.out]; rintro e w3 ⟨rfl, G3⟩; (try (have hz : Blk w3 wr.heap.size #[.int .u64 0, .int .u64 0] := Blk.same (Blk.drew1 (Blk.new wr _ _)) G3; have hzc := hz.cell; have hzf := hz.free)); replace G3 : wr.grownBy w3 none := grownBy_trans (by (repeat (first | exact grownBy_refl _ _ | assumption | refine grownBy_new_block ?_ _ | refine grownBy_drew ?_ | refine grownBy_drewN ?_ _ | refine grownBy_setNew ?_ (by first | (simp; done) | omega | (simp; omega)) _))) G3; have BI3 := kb.same G3; have z3 := G3.size))
          · go_wp2_with fail
            go_meet
            exact ⟨_, rfl, Blk.new _ _ _, BI3.same (World.grownBy_alloc _ _ _), grownBy_new_block G3 _⟩
          · go_wp2_with fail
            go_meet
            exact ⟨_, rfl, (hz.set_ 0 _ rfl).set_ 1 _ rfl, (BI3.off (by omega) _ _).off (by omega) _ _, grownBy_setNew (grownBy_setNew G3 (Nat.le_refl _) _) (Nat.le_refl _) _⟩
        case rest =>
          obtain ⟨g9, rfl, BB, BI4, G4⟩ := hcut
          have bb := BB.cell
          have bi := BI4.cell
          clear HS2 hKC HL2 BB kb
          go_wp2_with (go_at_call 89; refine (rAdd_c f.1 f.2 bx.1 bx.2 _ hwa hwb hb1 hb2).mono ?_; rintro e w7 ⟨rfl, G7⟩; have kb7 := BI4.same G7; have kbc7 := kb7.cell; have kbf7 := kb7.free)
          have G8 := grownBy_trans G4 G7
          exact ⟨⟨j + 1, by omega, by go_num, by rw [HF.out]; exact (kb7.set_ 0 _ rfl).set_ 1 _ rfl, grownBy_set (grownBy_set (grownBy_trans h6 (grownBy_some G8 _)) 0 _) 1 _, grownBy_setNew (grownBy_setNew (grownBy_trans h4 G8) hbs1 _) hbs1 _⟩, by simp [intOf]; omega⟩
      · rw [decide_eq_false hxl, if_neg (by decide)] at hF
        have HF := Lib.hid hF
        have hd : decide (x < (l.length : Int)) = false := decide_eq_false hxl
        clear hF
        go_wp2_with fail
        exact ⟨⟨j + 1, by omega, by go_num, by rw [HF.out]; exact kb, h6, h4⟩, by simp [intOf]; omega⟩
    · have hl : foldB c t l k ((O.take j).filter (fun i : Int => decide (i < (l.length : Int)))) = lineF c t l k := by rw [List.take_of_length_le (by omega)]; exact Hfin.out
      rw [hl] at kb
      clear hl Hfin
      generalize lineF c t l k = f at *
      have kbc := kb.cell
      have krc := (kr.same h4).cell
      have krf := (kr.same h4).free
      have hzz : b ≠ bs := by have := kr.lt; omega
      go_wp2_with fail
      have BZ := (((kr.same h4).set_ 0 (.string k) rfl).set_ 1 (.int .u64 f.1) rfl).set_ 2 (.int .u64 f.2) rfl
      have bz := BZ.cell
      refine bodyPost_ret (v := lineV k f.1 f.2) (by simp [results, Tryz.results60, go_sem, bz]) rfl ?_
      exact retVal rfl (grownBy_setNew (grownBy_setNew (grownBy_setNew (grownBy_trans K4 h4) (by simp; omega) _) (by simp; omega) _) (by simp; omega) _)
end Go.Proofs.YtiagjiaahnkefaaGreat

/- The lines of all tracked keys: the reference. Lists of texts compared. -/
namespace Go.Proofs.YtiagjiaahnkefaaGreat
open Go.RowKit Go.Sort
attribute [local go_sem ↓] exec_load_cfg
attribute [local go_sem] run_loadCfgS

set_option maxHeartbeats 1000000 in
set_option maxRecDepth 100000 in
theorem rall_c (c : Cfg) (t : List Int) (lv : Value) (l : List Summ) (w : World) (h : RCfg w c t) (hl : SumsRd w lv l) (ho : SumsOk l) (hs : (keysL l).length ≤ 100000) (hk : ∀ s ∈ l, ∀ e ∈ s.es, e.key.size ≤ 9223372036854775807) :
    Calls Tryz.prog 32 #[c.val, lv] w (RetOwn lnF 3 40 (allF c t l) w) := by
  obtain ⟨la, lc, rfl⟩ := hl.rd.shape
  have Hc1 := Lib.hid fun w' (h : w.grownBy w' none) => rkeys_c _ l w' (hl.same h) hs
  have Hc2 := Lib.hid fun (b : Bytes) (hb : b ∈ keysF l) w' (g : w.grownBy w' none) => rline_c c t _ l (bA b) w' (h.same g) (hl.same g) ho (by
    obtain ⟨s, h1, e, h2, rfl⟩ := mem_keysF hb
    have := hk s h1 e h2
    show (entK e).toArray.size ≤ _
    simpa [entK] using this)
  have HKl := Lib.hid (keysF_len l)
  have HA := Lib.hid (show allF c t l = (keysF l).map (lnOf c t l) from rfl)
  have hln : ∀ b, lnOf c t l b = ⟨bA b, (lineF c t l (bA b)).1, (lineF c t l (bA b)).2⟩ := fun _ => rfl
  have Hln := Lib.hid hln
  have Hs := Lib.hid hs
  clear h hl ho hs hk hln
  generalize allF c t l = AL at *
  generalize keysF l = K at *
  go_enter Tryz.func32, Tryz.ntmps32
  go_upto_region 2 with (refine box_cfg rfl _ rfl c rfl ?_; intro w1 B1 G1 z1)
  go_wp2_with (go_at_call 34; refine (Hc1.out _ G1).mono ?_; rintro e w2 ⟨v2, rfl, o2, g2⟩; have R2 := o2.rd; obtain ⟨ka, kc, rfl⟩ := R2.shape)
  have B2 := B1.same g2
  have K2 := grownBy_trans G1 g2
  have hkm := R2.2.1
  clear o2 B1 Hc1
  go_loopw [5, 11] (fun s7 s13 wk => ∃ (j : Nat), j ≤ K.length ∧ s13 = .int .i64 j ∧ Own lnF 3 40 w2.heap.size wk s7 ((K.take j).map (lnOf c t l)) ∧ w2.grownBy wk none) (fun _ s13 _ => K.length - (intOf s13).toNat)
  case atStart => exact ⟨0, Nat.zero_le _, rfl, Own.nil _ _ _ _ _, grownBy_refl _ _⟩
  case round =>
    obtain ⟨j, hj, rfl, hO, hg⟩ := hrel
    have B3 := B2.same hg
    by_cases hjl : j < K.length
    · obtain ⟨gk, ok, ck, hvk, hgk, ck0⟩ := (R2.same hg).one strB_one hjl
      cases hvk
      have HT := Lib.hid (show (K.take (j + 1)).map (lnOf c t l) = (K.take j).map (lnOf c t l) ++ [lnOf c t l K[j]] by rw [take_succ hjl, List.map_append]; rfl)
      have hcl := Lib.hid (Hc2.out _ (List.getElem_mem hjl))
      have hlb := Lib.hid (Hln.out K[j])
      have hb1 : (((K.take j).map (lnOf c t l)).length + 1) * 32 ≤ 140737488355328 := by have := HKl.out; have := Hs.out; rw [List.length_map, List.length_take]; omega
      have hb2 : ((K.take j).map (lnOf c t l)).length + 1 ≤ 9223372036854775807 := by omega
      generalize (K.take j).map (lnOf c t l) = M at *
      have hbA : (⟨K[j].toArray⟩ : ByteArray) = bA K[j] := rfl
      rw [hbA] at ck0
      generalize lnOf c t l K[j] = x at *
      generalize bA K[j] = kk at *
      generalize (lineF c t l kk).1 = lo at *
      generalize (lineF c t l kk).2 = hi at *
      have hx := hlb.out
      subst hx
      clear hlb hbA
      go_upto_region 6 with (first | (refine load_cfg rfl _ rfl _ rfl c (by assumption) ?_) | (go_at_call 60; refine (hcl.out _ (grownBy_trans K2 hg)).mono ?_; rintro e w4 ⟨rfl, g4⟩; have O4 := hO.same g4; have G4 := grownBy_trans hg g4; have hsz := G4.size; have Hcs := Lib.hid (show (#[Value.string kk, .int .u64 lo, .int .u64 hi] : Array Value).toList = lnF ⟨kk, lo, hi⟩ from rfl)) | (at_builtin; refine app_one elt_ln one_ln lnF_len O4 ⟨kk, lo, hi⟩ hb1 hb2 hsz Hcs.out rfl (.tmp 15) (.tmp 20) rfl rfl rfl ?_; intro v5 w5 o5 g5 l5))
      have K5 := grown_own G4 O4 (Nat.le_refl _) g5
      go_wp2_with fail
      exact ⟨⟨j + 1, by omega, by go_num, by rw [HT.out]; exact o5, K5⟩, by simp [intOf]; omega⟩
    · have hke : K.take j = K := List.take_of_length_le (by omega)
      rw [hke] at hO
      go_wp2_with fail
      go_ret
      refine ⟨_, rfl, ?_, grownBy_trans K2 hg⟩
      rw [HA.out]
      exact hO.base fun k hk => Nat.le_trans K2.size (hO.lt k hk).1

end Go.Proofs.YtiagjiaahnkefaaGreat

/- Which summaries are valid: the reference. -/
namespace Go.Proofs.YtiagjiaahnkefaaGreat
open Go.RowKit
attribute [local go_sem ↓] exec_load_cfg
attribute [local go_sem] run_loadCfgS
theorem rows_none {d n t : Int} {rows : List (List Int)} {m : Nat} (e : m = rows.length) (h : ¬ 0 < m) : rowsErr d n t rows = if badLen n rows then 3 else if badNum t rows then 1 else 0 := by
  have h0 : rows = [] := List.length_eq_zero_iff.1 (by omega)
  subst h0
  rfl
theorem exact_range {own slack tot : Int} (h : (own == 0) = true ∨ (!exactB own slack tot) = true) : own = 0 ∨ tot < own + slack := by
  unfold exactB at h; simp at h; omega
theorem exact_ok {own slack tot : Int} (h : (own == 0) = false ∧ (!exactB own slack tot) = false) : own ≠ 0 ∧ own + slack ≤ tot := by
  unfold exactB at h; simp at h; omega

set_option maxHeartbeats 1000000 in
set_option maxRecDepth 100000 in
theorem rsummary_c (c : Cfg) (s : Summ) (w : World) (hR : SumRd w s) (hW : SumW s) (hS : SumSmall s) :
    Calls Tryz.prog 91 #[c.val, sumV s.total s.ve s.untr s.vr] w (RetInt (sumErr c.Depth c.Width s) w) := by
  have HR := Lib.hid hR
  have HW := Lib.hid hW
  have HS := Lib.hid hS
  obtain ⟨a1, k1, e1⟩ := hR.es.shape
  obtain ⟨a2, k2, e2⟩ := hR.vs.shape
  have hm := hR.es.2.1
  have h1 : 9223372036854775808 < s.total ∨ s.total < s.untr → sumErr c.Depth c.Width s = 1 := sum_1
  have h7 : ¬(9223372036854775808 < s.total ∨ s.total < s.untr) → (96 : Int) < s.es.length → sumErr c.Depth c.Width s = 7 := sum_7
  have ho : ¬(9223372036854775808 < s.total ∨ s.total < s.untr) → (s.es.length : Int) ≤ 96 → sumErr c.Depth c.Width s = if entsErr s.total s.es ≠ 0 then entsErr s.total s.es else if s.total < ownF s.es then 12 else rowsErr c.Depth c.Width s.total s.rows := sum_of
  have HRow := Lib.hid hR.rowsRd
  have Hvl := Lib.hid hR.len
  have hv2 : s.vs.length ≤ 1000 := by rw [hR.len]; exact hS.rows
  have hwt := hW.total
  have Hsl := Lib.hid hS.row
  have Hkey := Lib.hid hS.key
  have Hes := Lib.hid hR.es
  have Hew := Lib.hid hW.es
  rw [e1] at Hes ⊢
  rw [e2] at HRow ⊢
  have H1 := Lib.hid h1
  have H7 := Lib.hid h7
  have HO := Lib.hid ho
  clear hR hW hS h1 h7 ho e1 e2 HR HW HS
  generalize sumErr c.Depth c.Width s = SE at *
  obtain ⟨tot, ve, un, vr, es, vs, rows⟩ := s
  simp only at *
  go_enter Tryz.func91, Tryz.ntmps91
  go_upto_region 1 with (refine box_cfg rfl _ rfl c rfl ?_; intro w1 B1 G1 z1)
  have B2 : Blk (w1.alloc (.cells #[.int .u64 tot, .slice a1 es.length k1, .int .u64 un, .slice a2 vs.length k2] 77)) w1.heap.size #[.int .u64 tot, .slice a1 es.length k1, .int .u64 un, .slice a2 vs.length k2] := (by repeat (first | exact Blk.new' _ _ _ (by simp) | refine Blk.same ?_ (World.grownBy_alloc _ _ _) | refine Blk.drew ?_ _ | refine Blk.drew1 ?_ | refine Blk.set_ (by assumption) _ _ rfl | refine Blk.off ?_ (by first | omega | (simp; done) | (simp; omega)) _ _ | assumption))
  have hg : w.grownBy (w1.alloc (.cells #[.int .u64 tot, .slice a1 es.length k1, .int .u64 un, .slice a2 vs.length k2] 77)) none := grownBy_new_block G1 _
  have BC : BoxAt (w1.alloc (.cells #[.int .u64 tot, .slice a1 es.length k1, .int .u64 un, .slice a2 vs.length k2] 77)) w.heap.size c := B1.same (World.grownBy_alloc _ _ _)
  generalize w1.alloc (.cells #[.int .u64 tot, .slice a1 es.length k1, .int .u64 un, .slice a2 vs.length k2] 77) = w2 at *
  clear G1 B1
  have b2 := B2.cell
  generalize hbb : w1.heap.size = b at *
  generalize hcc : w.heap.size = cb at *
  go_wp2_with fail
  rotate_right
  · go_ret
    exact retInt (H1.out (Or.inl (by assumption))) hg
  · go_ret
    exact retInt (H1.out (by assumption)) hg
  · go_ret
    exact retInt (H7.out (by omega) (by assumption)) hg
  have ht : tot ≤ 9223372036854775808 := by assumption
  have HE := Lib.hid (HO.out (by omega) (by assumption))
  have hl96 : (es.length : Int) ≤ 96 := by assumption
  clear H1 H7 HO
  go_loopw [5, 31] (fun s5 s31 wr => ∃ (j : Nat), j ≤ es.length ∧ s31 = .int .i64 j ∧ s5 = .int .u64 (ownF (es.take j)) ∧ W64 (ownF (es.take j)) ∧ (∀ i, i < j → errAt tot es i = 0) ∧ w2.grownBy wr none) (fun _ s31 _ => es.length - (intOf s31).toNat)
  case atStart => exact ⟨0, Nat.zero_le _, rfl, rfl, w64_0, by omega, grownBy_refl _ _⟩
  case round =>
    obtain ⟨j, hj, rfl, rfl, hT, hall, hgr⟩ := hrel
    have Hall := Lib.hid hall
    clear hall
    have hgg := grownBy_trans hg hgr
    have BCr := BC.same hgr
    have B2r := B2.same hgr
    have b3 := B2r.cell
    have b4 := fun o => (B2r.same (World.grownBy_alloc wr o none)).cell
    by_cases hlt : j < es.length
    · obtain ⟨g, off, cap, hv, hgl, c0, c1, c2⟩ := (Hes.out.same hgg).ent hlt
      cases hv
      have HS := Lib.hid (take_succ hlt)
      have Hs := Lib.hid (ownF_snoc (es.take j) es[j])
      obtain ⟨hw1, hw2⟩ := Hew.out _ (List.getElem_mem hlt)
      have hks := Hkey.out _ (List.getElem_mem hlt)
      have HX : Hid (∀ k, entErr tot (prevK es j) es[j] = k → k ≠ 0 → SE = k) := Lib.hid fun k h hk => by
        have he : errAt tot es j = k := by unfold errAt; rw [List.getElem?_eq_getElem hlt]; exact h
        rw [HE.out, ents_at (tot := tot) hlt Hall.out (by rw [he]; exact hk), he, if_pos hk]
      have Hno : Hid (entErr tot (prevK es j) es[j] = 0 → ∀ i, i < j + 1 → errAt tot es i = 0) := Lib.hid fun h i hi => by
        by_cases e : i = j
        · subst e; unfold errAt; rw [List.getElem?_eq_getElem hlt]; exact h
        · exact Hall.out i (by omega)
      generalize ownF (es.take j) = T at *
      generalize es[j] = en at *
      go_wp2_with fail
      · go_ret
        exact retInt (HX.out 3 (err_empty (by assumption)) (by decide)) (grownBy_trans hgg (World.grownBy_alloc _ _ _))
      · go_ret
        exact retInt (HX.out 4 (err_long (by assumption) (by assumption)) (by decide)) (grownBy_trans hgg (World.grownBy_alloc _ _ _))
      have he : en.key.toList.isEmpty = false := by assumption
      have hl : (en.key.size : Int) ≤ 255 := by assumption
      have HEm := Lib.hid he
      have HLn := Lib.hid hl
      clear he hl
      by_cases h0 : 0 < j
      · obtain ⟨m, rfl⟩ : ∃ m, j = m + 1 := ⟨j - 1, by omega⟩
        obtain ⟨g', off', cap', hv', hgl', p0, p1, p2⟩ := (Hes.out.same hgg).ent (k := m) (by omega)
        cases hv'
        have hpk : prevK es (m + 1) = some es[m].key := by simp [prevK, List.getElem?_eq_getElem (show m < es.length by omega)]
        rw [hpk] at HX Hno
        have hd : decide ((0 : Int) < ((m + 1 : Nat) : Int)) = true := decide_eq_true (by omega)
        have hx : ((m + 1 : Nat) : Int) - 1 = (m : Int) := by omega
        have hm1 : (0 : Int) ≤ (m : Int) := by omega
        have hm2 : (m : Int) < (es.length : Int) := by omega
        have pp := fun o => ((grownBy_cells (World.grownBy_alloc wr o none)).1 g (off + m * 3) hgl (by simp)).trans p0
        clear hpk p1 p2
        generalize es[m].key = pk at *
        go_quiet (fail)
        have Hb := Lib.hid (p := (Op.bytesLess en.key.toList pk.toList || en.key.toList == pk.toList) = ((some pk).map (leB en.key)).getD false) rfl
        generalize (Op.bytesLess en.key.toList pk.toList || en.key.toList == pk.toList) = bx at *
        clear pp
        have BE : Blk ((wr.alloc (.cells #[.string en.key, .int .u64 en.own, .int .u64 en.slack] 79)).drewN nq) wr.heap.size #[.string en.key, .int .u64 en.own, .int .u64 en.slack] := (by repeat (first | exact Blk.new' _ _ _ (by simp) | refine Blk.same ?_ (World.grownBy_alloc _ _ _) | refine Blk.drew ?_ _ | refine Blk.drew1 ?_ | refine Blk.set_ (by assumption) _ _ rfl | refine Blk.off ?_ (by first | omega | (simp; done) | (simp; omega)) _ _ | assumption))
        have BS : Blk ((wr.alloc (.cells #[.string en.key, .int .u64 en.own, .int .u64 en.slack] 79)).drewN nq) b #[.int .u64 tot, .slice (some ⟨g, off, none⟩) es.length k1, .int .u64 un, .slice a2 vs.length k2] := Blk.drew (B2r.same (World.grownBy_alloc _ _ _)) _
        have Kq : wr.grownBy ((wr.alloc (.cells #[.string en.key, .int .u64 en.own, .int .u64 en.slack] 79)).drewN nq) none := (by (repeat (first | exact grownBy_refl _ _ | assumption | refine grownBy_new_block ?_ _ | refine grownBy_drew ?_ | refine grownBy_drewN ?_ _ | refine grownBy_setNew ?_ (by first | (simp; done) | omega | (simp; omega)) _)))
        generalize (wr.alloc (.cells #[.string en.key, .int .u64 en.own, .int .u64 en.slack] 79)).drewN nq = wq at *
        have be := BE.cell
        have bs := BS.cell
        clear b4 BS
        cases bx
        · have HP := Lib.hid (p := ((some pk).map (leB en.key)).getD false = false) Hb.out.symm
          have hW2 := satA_w hT hw1
          go_wp2_with (first | (go_at_call 118; refine (rExact_c en.own en.slack tot _ hw1 hw2 hwt).mono ?_; rintro e w5 ⟨rfl, G5⟩; have be5 := (BE.same G5).cell) | (go_at_call 37; refine (rsum_c T en.own _ hT hw1).mono ?_; rintro e w' ⟨rfl, rfl⟩))
          · go_ret
            exact retInt (HX.out 1 (err_range HEm.out HLn.out HP.out (Or.inl (by assumption))) (by decide)) (grownBy_trans hgg Kq)
          · go_ret
            exact retInt (HX.out 1 (err_range HEm.out HLn.out HP.out (exact_range (by assumption))) (by decide)) (grownBy_trans (grownBy_trans hgg Kq) G5)
          · obtain ⟨q1, q2⟩ := exact_ok (own := en.own) (slack := en.slack) (tot := tot) (by assumption)
            have hN := Hno.out (err_ok HEm.out HLn.out HP.out q1 q2)
            exact ⟨⟨(m + 1) + 1, by omega, by go_num, by rw [HS.out, Hs.out], by rw [HS.out, Hs.out]; exact hW2, hN, grownBy_trans hgr (grownBy_trans Kq G5)⟩, by simp [intOf]; omega⟩
        · have HP := Lib.hid (p := ((some pk).map (leB en.key)).getD false = true) Hb.out.symm
          go_wp2_with fail
          go_ret
          exact retInt (HX.out 6 (err_order HEm.out HLn.out HP.out) (by decide)) (grownBy_trans hgg Kq)
      · have hj0 : j = 0 := by omega
        subst hj0
        go_quiet (fail)
        have BE : Blk ((wr.alloc (.cells #[.string en.key, .int .u64 en.own, .int .u64 en.slack] 79)).drewN nq) wr.heap.size #[.string en.key, .int .u64 en.own, .int .u64 en.slack] := (by repeat (first | exact Blk.new' _ _ _ (by simp) | refine Blk.same ?_ (World.grownBy_alloc _ _ _) | refine Blk.drew ?_ _ | refine Blk.drew1 ?_ | refine Blk.set_ (by assumption) _ _ rfl | refine Blk.off ?_ (by first | omega | (simp; done) | (simp; omega)) _ _ | assumption))
        have BS : Blk ((wr.alloc (.cells #[.string en.key, .int .u64 en.own, .int .u64 en.slack] 79)).drewN nq) b #[.int .u64 tot, .slice (some ⟨g, off, none⟩) es.length k1, .int .u64 un, .slice a2 vs.length k2] := Blk.drew (B2r.same (World.grownBy_alloc _ _ _)) _
        have Kq : wr.grownBy ((wr.alloc (.cells #[.string en.key, .int .u64 en.own, .int .u64 en.slack] 79)).drewN nq) none := (by (repeat (first | exact grownBy_refl _ _ | assumption | refine grownBy_new_block ?_ _ | refine grownBy_drew ?_ | refine grownBy_drewN ?_ _ | refine grownBy_setNew ?_ (by first | (simp; done) | omega | (simp; omega)) _)))
        generalize (wr.alloc (.cells #[.string en.key, .int .u64 en.own, .int .u64 en.slack] 79)).drewN nq = wq at *
        have be := BE.cell
        have bs := BS.cell
        clear b4 BS
        have HP := Lib.hid (p := ((prevK es 0).map (leB en.key)).getD false = false) rfl
        have hW2 := satA_w hT hw1
        go_wp2_with (first | (go_at_call 118; refine (rExact_c en.own en.slack tot _ hw1 hw2 hwt).mono ?_; rintro e w5 ⟨rfl, G5⟩; have be5 := (BE.same G5).cell) | (go_at_call 37; refine (rsum_c T en.own _ hT hw1).mono ?_; rintro e w' ⟨rfl, rfl⟩))
        · go_ret
          exact retInt (HX.out 1 (err_range HEm.out HLn.out HP.out (Or.inl (by assumption))) (by decide)) (grownBy_trans hgg Kq)
        · go_ret
          exact retInt (HX.out 1 (err_range HEm.out HLn.out HP.out (exact_range (by assumption))) (by decide)) (grownBy_trans (grownBy_trans hgg Kq) G5)
        · obtain ⟨q1, q2⟩ := exact_ok (own := en.own) (slack := en.slack) (tot := tot) (by assumption)
          have hN := Hno.out (err_ok HEm.out HLn.out HP.out q1 q2)
          exact ⟨⟨0 + 1, by omega, by go_num, by rw [HS.out, Hs.out], by rw [HS.out, Hs.out]; exact hW2, hN, grownBy_trans hgr (grownBy_trans Kq G5)⟩, by simp [intOf]; omega⟩
    · have hl : es.take j = es := List.take_of_length_le (by omega)
      have hez : entsErr tot es = 0 := ents_no fun i hi => Hall.out i (by omega)
      have hSE : SE = if tot < ownF es then 12 else rowsErr c.Depth c.Width tot rows := by rw [HE.out, hez, if_neg (by decide)]
      have HSE := Lib.hid hSE
      rw [hl] at hT ⊢
      have hb8 := BCr.cell
      clear hl hez hSE HE Hall b4
      generalize ownF es = T at *
      go_wp2_with fail
      · go_ret
        exact retInt (HSE.out.trans (if_pos (by assumption))) hgg
      · have h0 : 0 < vs.length := by assumption
        have hq : rowsErr c.Depth c.Width tot rows = 3 := rows_3 Hvl.out (beq_eq_false_iff_ne.2 (by omega)) (by assumption)
        go_ret
        exact retInt (HSE.out.trans ((if_neg (by omega)).trans hq)) hgg
      · have h0 : 0 < vs.length := by assumption
        have HQ := Lib.hid (HSE.out.trans ((if_neg (by omega)).trans (rows_of (n := c.Width) (t := tot) Hvl.out (beq_eq_false_iff_ne.2 (by omega)) (by assumption))))
        generalize ((vs.length : Int) != c.Depth) = bq at *
        have hbq : bq = false := by assumption
        subst hbq
        clear h0
        clear HSE
        go_loopw [98] (fun s98 wy => ∃ j : Nat, j ≤ vs.length ∧ s98 = .int .i64 j ∧ (∀ i, (hi : i < rows.length) → i < j → decide ((rows[i].length : Int) ≠ c.Width) = false) ∧ wr = wy) (fun s98 _ => vs.length - (intOf s98).toNat)
        case atStart => exact ⟨0, Nat.zero_le _, rfl, by intro i _ h; omega, rfl⟩
        case round =>
          clear hj hlt
          obtain ⟨j, hj, rfl, hall, rfl⟩ := hrel
          have Hall := Lib.hid hall
          clear hall
          by_cases hjv : j < vs.length
          · have hjl : j < rows.length := by have := Hvl.out; omega
            obtain ⟨g, off, cap, hv, hgl, c1⟩ := (HRow.out.same hgg).rd.one val_one hjv
            cases hv
            have hrow := Hsl.out _ (List.getElem_mem hjl)
            have hRR := (HRow.out.same hgg).all j vs[j] rows[j] (List.getElem?_eq_getElem hjv) (List.getElem?_eq_getElem hjl)
            have HN := Lib.hid (fun h : decide ((rows[j].length : Int) ≠ c.Width) = true => any_yes (p := fun r : List Int => decide ((r.length : Int) ≠ c.Width)) hjl h)
            have HY := Lib.hid (fun h : decide ((rows[j].length : Int) ≠ c.Width) = false => (fun i (hi : i < rows.length) (hij : i < j + 1) => by
              by_cases e : i = j
              · subst e; exact h
              · exact Hall.out i hi (by omega) : ∀ i, (hi : i < rows.length) → i < j + 1 → decide ((rows[i].length : Int) ≠ c.Width) = false))
            generalize vs[j] = u at *
            generalize rows[j] = row at *
            obtain ⟨ra, rc, rfl⟩ := hRR.shape
            clear hRR
            go_wp2_with fail
            · have h : ((row.length : Int) != c.Width) = true := by assumption
              have hb : badLen c.Width rows = true := HN.out (decide_eq_true (bne_iff_ne.1 h))
              have hz : SE = 3 := by rw [HQ.out, if_pos hb]
              go_ret
              exact retInt hz hgg
            · have h : ((row.length : Int) != c.Width) = false := by assumption
              exact ⟨⟨j + 1, by omega, by go_num, HY.out (decide_eq_false (fun e => e (bne_eq_false_iff_eq.1 h))), trivial⟩, by simp [intOf]; omega⟩
          · have hb : badLen c.Width rows = false := any_no fun i hi => Hall.out i hi (by have := Hvl.out; omega)
            have HQ2 := Lib.hid (p := SE = if badNum tot rows then 1 else 0) (by rw [HQ.out, if_neg (by rw [hb]; decide)])
            clear HQ hb Hall
            go_wp2_with fail
            go_loopw [111] (fun s111 wy => ∃ j : Nat, j ≤ vs.length ∧ s111 = .int .i64 j ∧ (∀ i, (hi : i < rows.length) → i < j → gtF tot rows[i] = false) ∧ wr = wy) (fun s111 _ => vs.length - (intOf s111).toNat)
            case atStart => exact ⟨0, Nat.zero_le _, rfl, by intro i _ h; omega, rfl⟩
            case round =>
              clear hj hjv
              obtain ⟨j, hj, rfl, hall, rfl⟩ := hrel
              have Hall := Lib.hid hall
              clear hall
              by_cases hjv : j < vs.length
              · have hjl : j < rows.length := by have := Hvl.out; omega
                obtain ⟨g, off, cap, hv, hgl, c1⟩ := (HRow.out.same hgg).rd.one val_one hjv
                cases hv
                have hRR := (HRow.out.same hgg).all j vs[j] rows[j] (List.getElem?_eq_getElem hjv) (List.getElem?_eq_getElem hjl)
                have hrow := Hsl.out _ (List.getElem_mem hjl)
                have HN := Lib.hid (fun h : gtF tot rows[j] = true => any_yes (p := gtF tot) hjl h)
                have HY := Lib.hid (fun h : gtF tot rows[j] = false => (fun i (hi : i < rows.length) (hij : i < j + 1) => by
                  by_cases e : i = j
                  · subst e; exact h
                  · exact Hall.out i hi (by omega) : ∀ i, (hi : i < rows.length) → i < j + 1 → gtF tot rows[i] = false))
                generalize vs[j] = u at *
                generalize rows[j] = row at *
                obtain ⟨ra, rc, rfl⟩ := hRR.shape
                have HRR := Lib.hid hRR
                clear hRR
                go_wp2_with fail
                go_loopw [117] (fun s117 wy => ∃ k : Nat, k ≤ row.length ∧ s117 = .int .i64 k ∧ (∀ i, (hi : i < row.length) → i < k → decide (tot < row[i]) = false) ∧ wr = wy) (fun s117 _ => row.length - (intOf s117).toNat)
                case atStart => exact ⟨0, Nat.zero_le _, rfl, by intro i _ h; omega, rfl⟩
                case round =>
                  obtain ⟨k, hk, rfl, hall, rfl⟩ := hrel
                  have Hal2 := Lib.hid hall
                  clear hall
                  by_cases hkl : k < row.length
                  · obtain ⟨gx, offx, capx, hvx, hgx, cx⟩ := HRR.out.one word_one hkl
                    cases hvx
                    have HN2 := Lib.hid (fun h : decide (tot < row[k]) = true => gtF_yes hkl h)
                    have HY2 := Lib.hid (fun h : decide (tot < row[k]) = false => (fun i (hi : i < row.length) (hij : i < k + 1) => by
                      by_cases e : i = k
                      · subst e; exact h
                      · exact Hal2.out i hi (by omega) : ∀ i, (hi : i < row.length) → i < k + 1 → decide (tot < row[i]) = false))
                    generalize row[k] = x at *
                    go_wp2_with fail
                    · have hb : badNum tot rows = true := HN.out (HN2.out (decide_eq_true (by assumption)))
                      have hz : SE = 1 := by rw [HQ2.out, if_pos hb]
                      go_ret
                      exact retInt hz hgg
                    · exact ⟨⟨k + 1, by omega, by go_num, HY2.out (decide_eq_false (by omega)), trivial⟩, by simp [intOf]; omega⟩
                  · have hgt := HY.out (gtF_no fun i hi => Hal2.out i hi (by omega))
                    have Hgt := Lib.hid hgt
                    clear hgt
                    go_wp2_with fail
                    exact ⟨⟨j + 1, by omega, by go_num, Hgt.out, trivial⟩, by simp [intOf]; omega⟩
              · have hb : badNum tot rows = false := any_no fun i hi => Hall.out i hi (by have := Hvl.out; omega)
                have hz : SE = 0 := by rw [HQ2.out, if_neg (by rw [hb]; decide)]
                have Hz := Lib.hid hz
                clear hz hb
                go_wp2_with fail
                go_ret
                exact retInt Hz.out hgg
      · have h0 : ¬ 0 < vs.length := by assumption
        have HQ := Lib.hid (HSE.out.trans ((if_neg (by omega)).trans (rows_none (d := c.Depth) (n := c.Width) (t := tot) Hvl.out h0)))
        have hz : SE = 0 := by
          have hr0 : rows = [] := List.length_eq_zero_iff.1 (by have := Hvl.out; omega)
          rw [HQ.out, hr0]; rfl
        have Hz := Lib.hid hz
        clear HSE HQ hz
        go_loopw [98] (fun s98 wy => s98 = .int .i64 0 ∧ wr = wy) (fun _ _ => 0)
        case atStart => exact ⟨rfl, rfl⟩
        case round =>
          obtain ⟨rfl, rfl⟩ := hrel
          go_wp2_with fail
          go_loopw [111] (fun s111 wy => s111 = .int .i64 0 ∧ wr = wy) (fun _ _ => 0)
          case atStart => exact ⟨rfl, rfl⟩
          case round =>
            obtain ⟨rfl, rfl⟩ := hrel
            go_wp2_with fail
            go_ret
            exact retInt Hz.out hgg
end Go.Proofs.YtiagjiaahnkefaaGreat

/- Which lists of summaries are valid; the rest: the reference. -/
namespace Go.Proofs.YtiagjiaahnkefaaGreat
open Go.RowKit
attribute [local go_sem ↓] exec_load_cfg
attribute [local go_sem] run_loadCfgS

set_option maxHeartbeats 1000000 in
set_option maxRecDepth 100000 in
theorem rmerge_c (c : Cfg) (t : List Int) (lv : Value) (l : List Summ) (w : World) (h : RCfg w c t) (hl : SumsRd w lv l) (hs : SumsSmall l) :
    Calls Tryz.prog 61 #[c.val, lv] w (RetInt (mergeErr c l) w) := by
  obtain ⟨la, lc, rfl⟩ := hl.rd.shape
  have H := Lib.hid h
  have HL := Lib.hid hl
  have Hs := Lib.hid hs
  have hlm := hl.rd.2.1
  have h11 : (l.length : Int) ≠ c.Shards → mergeErr c l = 11 := fun h => by unfold mergeErr; rw [if_pos h]
  have hme : (l.length : Int) = c.Shards → mergeErr c l = if sumsErr c l ≠ 0 then sumsErr c l else if 9223372036854775808 < totalF l then 12 else 0 := fun h => by unfold mergeErr; rw [if_neg (fun e => e h)]
  have H11 := Lib.hid h11
  have Hme := Lib.hid hme
  have Ht := Lib.hid fun w' (hg : w.grownBy w' none) => rtotal_c _ l w' (hl.same hg)
  clear h hl hs h11 hme
  generalize mergeErr c l = ME at *
  go_enter Tryz.func61, Tryz.ntmps61
  go_upto_region 1 with (refine box_cfg rfl _ rfl c rfl ?_; intro w1 B1 G1 z1)
  go_wp2_with (first | (refine load_cfg rfl _ rfl _ rfl c (by assumption) ?_) | (go_at_call 90; refine (rroutes_c c t _ (H.out.same G1)).mono ?_; rintro e w2 ⟨rfl, G2⟩; have BC := B1.same G2; have bc := BC.cell))
  · go_ret
    exact retInt (H11.out (bne_iff_ne.1 (by assumption))) (grownBy_trans G1 G2)
  have h18 : ((l.length : Int) != c.Shards) = false := by assumption
  have HM := Lib.hid (Hme.out (bne_eq_false_iff_eq.1 h18))
  rw [h18]
  rename_i h19 _ _
  clear h18 h19
  have hg := grownBy_trans G1 G2
  clear H11 Hme G1 B1 G2 bc
  go_loopw [21] (fun s21 wr => ∃ (j : Nat), j ≤ l.length ∧ s21 = .int .i64 j ∧ (∀ i, (hi : i < l.length) → i < j → sumErr c.Depth c.Width l[i] = 0) ∧ w2.grownBy wr none) (fun s21 _ => l.length - (intOf s21).toNat)
  case atStart => exact ⟨0, Nat.zero_le _, rfl, by intro i _ h; omega, grownBy_refl _ _⟩
  case round =>
    obtain ⟨j, hj, rfl, hall, hgr⟩ := hrel
    have Hall := Lib.hid hall
    clear hall
    have hgg := grownBy_trans hg hgr
    have BCr := BC.same hgr
    by_cases hlt : j < l.length
    · obtain ⟨g, off, cap, hv, hgl, c0, c1, c2, c3, hR, hW⟩ := (HL.out.same hgg).at_ hlt
      cases hv
      have hsm := Hs.out _ (List.getElem_mem hlt)
      have hcall := fun w' (h' : wr.grownBy w' none) => rsummary_c c l[j] w' (hR.same h') hW hsm
      obtain ⟨a1, k1, e1⟩ := hR.es.shape
      obtain ⟨a2, k2, e2⟩ := hR.vs.shape
      rw [e1] at c1 hcall
      rw [e2] at c3 hcall
      have hat := fun h => sums_at (c := c) hlt Hall.out h
      have hno := fun (h : sumErr c.Depth c.Width l[j] = 0) => (fun i hi (hij : i < j + 1) => by
        by_cases e : i = j
        · subst e; exact h
        · exact Hall.out i hi (by omega) : ∀ i, (hi : i < l.length) → i < j + 1 → sumErr c.Depth c.Width l[i] = 0)
      clear hR hW hsm e1 e2
      by_cases hz : sumErr c.Depth c.Width l[j] = 0
      · have Hno := Lib.hid (hno hz)
        rw [hz] at hcall
        have Hc := Lib.hid hcall
        clear hz hno hat hcall
        generalize l[j].total = x0 at *
        generalize l[j].untr = x2 at *
        go_wp2_with (first | (refine load_cfg rfl _ rfl _ rfl c (BCr.same (World.grownBy_alloc _ _ _)) ?_) | (go_at_call 91; refine (Hc.out _ (by (repeat (first | exact grownBy_refl _ _ | assumption | refine grownBy_new_block ?_ _ | refine grownBy_drew ?_ | refine grownBy_drewN ?_ _ | refine grownBy_setNew ?_ (by first | (simp; done) | omega | (simp; omega)) _)))).mono ?_; rintro e w5 ⟨rfl, G5⟩))
        exact ⟨⟨j + 1, by omega, by go_num, Hno.out, grownBy_trans hgr (grownBy_trans (World.grownBy_alloc _ _ _) G5)⟩, by simp [intOf]; omega⟩
      · have Hq := Lib.hid (p := ME = sumErr c.Depth c.Width l[j]) (by rw [HM.out, hat hz, if_pos hz])
        have Hc := Lib.hid hcall
        clear hno hat hcall HM
        generalize sumErr c.Depth c.Width l[j] = ee at *
        have hz2 : (ee != 0) = true := bne_iff_ne.2 hz
        generalize l[j].total = x0 at *
        generalize l[j].untr = x2 at *
        go_wp2_with (first | (refine load_cfg rfl _ rfl _ rfl c (BCr.same (World.grownBy_alloc _ _ _)) ?_) | (go_at_call 91; refine (Hc.out _ (by (repeat (first | exact grownBy_refl _ _ | assumption | refine grownBy_new_block ?_ _ | refine grownBy_drew ?_ | refine grownBy_drewN ?_ _ | refine grownBy_setNew ?_ (by first | (simp; done) | omega | (simp; omega)) _)))).mono ?_; rintro e w5 ⟨rfl, G5⟩))
        go_ret
        exact retInt Hq.out (grownBy_trans hgg (grownBy_trans (World.grownBy_alloc _ _ _) G5))
    · have hsz : sumsErr c l = 0 := sums_no fun i hi => Hall.out i hi (by omega)
      have hME : ME = if 9223372036854775808 < totalF l then 12 else 0 := by rw [HM.out, hsz, if_neg (by decide)]
      have HME := Lib.hid hME
      clear hsz hME HM Hall
      generalize totalF l = T at *
      go_wp2_with (first | (refine load_cfg rfl _ rfl _ rfl c (by assumption) ?_) | (go_at_call 33; refine (Ht.out _ hgg).mono ?_; rintro e w5 ⟨rfl, G5⟩))
      · go_ret
        exact retInt (HME.out.trans (if_pos (by assumption))) (grownBy_trans hgg G5)
      · go_ret
        exact retInt (HME.out.trans (if_neg (by omega))) (grownBy_trans hgg G5)
end Go.Proofs.YtiagjiaahnkefaaGreat

/- The rest: the reference. -/
namespace Go.Proofs.YtiagjiaahnkefaaGreat
open Go.RowKit
attribute [local go_sem ↓] exec_load_cfg
attribute [local go_sem] run_loadCfgS

set_option maxHeartbeats 1000000 in
set_option maxRecDepth 100000 in
theorem rrest_c (c : Cfg) (t : List Int) (lv : Value) (l : List Summ) (w : World) (h : RCfg w c t) (hl : SumsRd w lv l) (hs : SumsSmall l) :
    Calls Tryz.prog 36 #[c.val, lv] w (RetWord (restF c l) w) := by
  obtain ⟨la, lc, rfl⟩ := hl.rd.shape
  have HL := Lib.hid hl
  have hlm := hl.rd.2.1
  obtain ⟨s1, s2⟩ := h.shards
  obtain ⟨s3, s4⟩ := h.spread
  have Hc := Lib.hid fun w' (hg : w.grownBy w' none) => rmerge_c c t _ l w' (h.same hg) (hl.same hg) hs
  clear h hl hs
  by_cases hz : mergeErr c l = 0
  · have hlen := merge_len hz
    obtain ⟨N, hN⟩ : ∃ N, c.Spread.toNat = N := ⟨_, rfl⟩
    have HR := Lib.hid (p := restF c l = restI c.Shards N l l.length) (by unfold restF; rw [if_neg (by omega), hN, ← hlen]; rfl)
    have hN1 : c.Spread = (N : Int) := by omega
    have hN2 : N ≤ 8 := by omega
    have hl8 : l.length ≤ 8 := by omega
    have hl1 : 1 ≤ l.length := by omega
    have Hlen := Lib.hid hlen
    have HN1 := Lib.hid hN1
    have HAf := Lib.hid fun (k : Nat) (hk : k < l.length) (w' : World) => after_c c k w' ⟨s1, s2⟩ ⟨s3, s4⟩ ⟨by omega, by omega⟩
    have HIn : Hid (∀ k : Nat, ∀ x ∈ setN (k : Int) c.Shards N, 0 ≤ x ∧ x < (l.length : Int)) := Lib.hid fun k x hx => by
      have := setN_in s1 x hx
      rw [hlen]; exact this
    rw [hN] at HAf
    have hmod : ∀ (h : Nat) (i : Nat), 0 ≤ ((h : Int) + i) % c.Shards ∧ ((h : Int) + i) % c.Shards < l.length := fun h i => ⟨Int.emod_nonneg _ (by omega), by rw [hlen]; exact Int.emod_lt_of_pos _ (by omega)⟩
    have Hmod := Lib.hid hmod
    rw [hz] at Hc
    have hsz : (c.Shards == 0) = false := beq_eq_false_iff_ne.2 (by omega)
    clear hz hN hN1 hlen hmod
    go_enter Tryz.func36, Tryz.ntmps36
    go_upto_region 1 with (refine box_cfg rfl _ rfl c rfl ?_; intro w1 B1 G1 z1)
    go_wp2_with (first | (refine load_cfg rfl _ rfl _ rfl c (by assumption) ?_) | (go_at_call 61; refine (Hc.out _ G1).mono ?_; rintro e w2 ⟨rfl, G2⟩; have BC := B1.same G2; have bc := BC.cell))
    have hg := grownBy_trans G1 G2
    clear G1 B1 G2 bc Hc
    go_loopw [5, 6] (fun s5 s6 wr => ∃ (k : Nat), k ≤ l.length ∧ s6 = .int .i64 k ∧ s5 = .int .u64 (restI c.Shards N l k) ∧ W64 (restI c.Shards N l k) ∧ w2.grownBy wr none) (fun _ s6 _ => l.length - (intOf s6).toNat)
    case atStart => exact ⟨0, Nat.zero_le _, rfl, rfl, w64_0, grownBy_refl _ _⟩
    case round =>
      obtain ⟨k, hk, rfl, rfl, hT, hgr⟩ := hrel
      have BCr := BC.same hgr
      have bcr := BCr.cell
      by_cases hlt : k < l.length
      · have hlt2 : (k : Int) < c.Shards := by have := Hlen.out; omega
        have HS := Lib.hid (restI_succ c.Shards N l k)
        have hin := HIn.out k
        have hON := setN_len k c.Shards N
        have HA2 := Lib.hid (HAf.out k hlt)
        generalize restI c.Shards N l k = T at *
        generalize setN k c.Shards N = O at *
        have Hin := Lib.hid hin
        clear hin
        go_wp2_with (first | (refine load_cfg rfl _ rfl _ rfl c (by assumption) ?_) | (go_at_call 62; refine (HA2.out _).mono ?_; rintro e w3 ⟨ov, rfl, hov, G3⟩; obtain ⟨oa, oc, rfl⟩ := hov.shape))
        have HO := Lib.hid hov.rd
        have hgg := grownBy_trans (grownBy_trans hg hgr) G3
        clear hov bcr
        go_loopw [7, 24] (fun s7 s24 wi => ∃ (i : Nat), i ≤ O.length ∧ s24 = .int .i64 i ∧ s7 = .int .u64 (uF l (O.take i)) ∧ W64 (uF l (O.take i)) ∧ w3 = wi) (fun _ s24 _ => O.length - (intOf s24).toNat)
        case atStart => exact ⟨0, Nat.zero_le _, rfl, rfl, w64_0, rfl⟩
        case round =>
          obtain ⟨i, hi, rfl, rfl, hU, rfl⟩ := hrel
          by_cases hil : i < O.length
          · obtain ⟨go, offo, capo, hvo, hgo, co⟩ := HO.out.one int_one hil
            cases hvo
            obtain ⟨m1, m2⟩ := Hin.out _ (List.getElem_mem hil)
            have HS2 := Lib.hid (take_succ hil)
            have HU2 := Lib.hid (uF_snoc l (O.take i) O[i])
            generalize O[i] = q at *
            obtain ⟨n, rfl⟩ := Int.eq_ofNat_of_zero_le m1
            have hnl : n < l.length := by omega
            obtain ⟨g, off, cap, hv, hgl, c0, c1, c2, c3, hR, hW⟩ := (HL.out.same hgg).at_ hnl
            cases hv
            have hwu := hW.untr
            have HA := Lib.hid (uAt_eq hnl)
            have hW2 := satA_w hU hwu
            generalize l[n].untr = u at *
            generalize uF l (O.take i) = U at *
            clear hR hW c0 c1 c3
            go_wp2_with (go_at_call 37; refine (rsum_c U u _ hU hwu).mono ?_; rintro e w' ⟨rfl, rfl⟩)
            exact ⟨⟨i + 1, by omega, by go_num, by rw [HS2.out, HU2.out, HA.out], by rw [HS2.out, HU2.out, HA.out]; exact hW2, trivial⟩, by simp [intOf]; omega⟩
          · have hle : O.take i = O := List.take_of_length_le (by omega)
            rw [hle] at hU ⊢
            clear hle
            generalize uF l O = U at *
            go_wp2_with fail
            refine ⟨⟨k + 1, by omega, by go_num, ?_, ?_, grownBy_trans hgr G3⟩, by simp [intOf]; omega⟩
            · rw [HS.out]
            · rw [HS.out]; unfold W64 at *; omega
      · have hlt2 : ¬ (k : Int) < c.Shards := by have := Hlen.out; omega
        have hkl : k = l.length := by omega
        have HF := Lib.hid (p := restF c l = restI c.Shards N l k) (by rw [hkl]; exact HR.out)
        generalize restI c.Shards N l k = T at *
        go_wp2_with fail
        go_ret
        exact retWord HF.out (grownBy_trans hg hgr)
  · have HF := Lib.hid (p := restF c l = 0) (by unfold restF; rw [if_pos hz])
    generalize mergeErr c l = ME at *
    have hz2 : (ME != 0) = true := bne_iff_ne.2 hz
    go_enter Tryz.func36, Tryz.ntmps36
    go_upto_region 1 with (refine box_cfg rfl _ rfl c rfl ?_; intro w1 B1 G1 z1)
    go_wp2_with (first | (refine load_cfg rfl _ rfl _ rfl c (by assumption) ?_) | (go_at_call 61; refine (Hc.out _ G1).mono ?_; rintro e w2 ⟨rfl, G2⟩))
    go_ret
    exact retWord HF.out (grownBy_trans G1 G2)
end Go.Proofs.YtiagjiaahnkefaaGreat

/- The report is built: the reference. -/
namespace Go.Proofs.YtiagjiaahnkefaaGreat
open Go.RowKit Go.Sort
attribute [local go_sem ↓] exec_load_cfg
attribute [local go_sem] run_loadCfgS

set_option maxHeartbeats 2000000 in
set_option maxRecDepth 100000 in
theorem rbuild_c (c : Cfg) (lc : List (Int × Int)) (t : List Int) (lv : Value) (l : List Summ) (rv : Value) (rej : List Int) (win : Int) (w : World) (hF : Few c lc t lv l w) (hr : RdL wordF 1 w rv rej) (hrl : rej.length ≤ 1000000) :
    Calls Tryz.prog 10 #[c.val, .int .i64 win, lv, rv] w (BuildPost c t l win rej w) := by
  have hHt := totalF_w hF
  have hlw := bLs_w hF
  have hk13 := keysF_few hF
  have hal := allF_len c t l
  have htop := hF.nums.top
  have HP := Lib.hid (p := ∀ (e : Ending) (w' : World), (∃ vl vr, e = .returned (repV win (totalF l) vl (bOver c t l) ((keysF l).length : Int) (bRest c t l) vr) ∧ RdL lnF 3 w' vl (bLs c t l) ∧ RdL wordF 1 w' vr rej ∧ CapOk vl ∧ CapOk vr ∧ From w.heap.size vl ∧ From w.heap.size vr ∧ w.grownBy w' none) → BuildPost c t l win rej w e w') (fun _ _ h => h)
  have Hc1 := Lib.hid fun w' (h : World.grownBy w w' none) => rall_c c t _ l w' (hF.same h).rcfg (hF.same h).sums (hF.same h).ok (by have := keysL_few hF; omega) (key_few hF)
  have Hc2 := Lib.hid (p := ∀ w' v, RdL lnF 3 w' v (allF c t l) → Calls Tryz.prog 31 #[v, .int .i64 c.Top] w' (fun e w2 => ∃ v1 v2, e = .returned (.tuple #[v1, v2]) ∧ RdL lnF 3 w2 v1 (bLs c t l) ∧ RdL lnF 3 w2 v2 (bOm c t l) ∧ CapOk v1 ∧ From w'.heap.size v1 ∧ From w'.heap.size v2 ∧ w'.grownBy w2 none)) (fun w' v h => rsel_c v _ c.Top w' h (by omega) (by omega) (by omega))
  have Hc3 := Lib.hid fun w' (h : World.grownBy w w' none) => rtotal_c lv l w' (hF.same h).sums
  have HLW := Lib.hid hlw
  have Hc5 := Lib.hid (p := ∀ w', ∃ q, Calls Tryz.prog 38 #[.int .u64 (totalF l), .int .u64 (satL (loSum (bLs c t l)))] w' (fun e w2 => e = .returned (.tuple #[.int .u64 (bOver c t l), .bool q]) ∧ w' = w2)) (fun w' => ⟨_, rsub_c _ _ w' hHt (satL_w (loSum_pos fun x hx => (hlw x hx).lo.1))⟩)
  have Hc6 := Lib.hid (p := ∀ w' , World.grownBy w w' none → Calls Tryz.prog 34 #[lv] w' (fun e w2 => ∃ a cp, e = .returned (.slice a (keysF l).length cp) ∧ w'.grownBy w2 none)) (fun w' h => (rkeys_c lv l w' (hF.same h).sums (by have := keysL_few hF; omega)).mono fun e w2 ⟨v, h1, h2, h3⟩ => by obtain ⟨a, cp, hv⟩ := h2.shape; exact ⟨a, cp, hv ▸ h1, h3⟩)
  have Hc7 := Lib.hid fun w' (h : World.grownBy w w' none) => rrest_c c t lv l w' (hF.same h).rcfg (hF.same h).sums (hF.same h).small
  have Hc8 := Lib.hid (p := ∀ w' v, RdL lnF 3 w' v (bOm c t l) → Calls Tryz.prog 35 #[v, .int .u64 (restF c l)] w' (RetWord (bRest c t l) w')) (fun w' v h => above_c v _ _ w' h)
  have HR := Lib.hid hr
  have hrb := hr.2.1
  have hb1 : rej.length * 8 ≤ 140737488355328 := by omega
  have hb2 : rej.length ≤ 9223372036854775807 := by omega
  obtain ⟨ra, rc, rfl⟩ := hr.shape
  obtain ⟨la, lcp, rfl⟩ := hF.sums.rd.shape
  clear hF hr hHt hlw hk13 hal htop hrl hrb
  generalize allF c t l = AL at *
  generalize bLs c t l = Ls at *
  generalize bOm c t l = Om at *
  generalize totalF l = tot at *
  generalize bOver c t l = ov at *
  generalize bRest c t l = rst at *
  generalize restF c l = rs0 at *
  generalize (keysF l).length = K at *
  go_enter Tryz.func10, Tryz.ntmps10
  go_upto_region 1 with (refine box_cfg rfl _ rfl c rfl ?_; intro w1 B1 G1 z1)
  have hb0 : w.heap.size < w1.heap.size := z1
  have hbb : w.heap.size ≤ w1.heap.size := Nat.le_of_lt z1
  have B2 := B1.same (World.grownBy_alloc w1 (.cells #[.int .i64 0, .int .u64 0, .slice none 0 0, .int .u64 0, .int .i64 0, .int .u64 0, .slice none 0 0] 32) none)
  have A2 := Blk.new w1 #[.int .i64 0, .int .u64 0, .slice none 0 0, .int .u64 0, .int .i64 0, .int .u64 0, .slice none 0 0] 32
  have G2 := grownBy_new_block G1 (.cells #[.int .i64 0, .int .u64 0, .slice none 0 0, .int .u64 0, .int .i64 0, .int .u64 0, .slice none 0 0] 32)
  generalize w1.alloc (.cells #[.int .i64 0, .int .u64 0, .slice none 0 0, .int .u64 0, .int .i64 0, .int .u64 0, .slice none 0 0] 32) = w2 at *
  generalize w1.heap.size = rb at *
  clear B1 G1 z1
  have B6 := B2.same (w' := w2.drew) (by (repeat (first | exact grownBy_refl _ _ | assumption | refine grownBy_new_block ?_ _ | refine grownBy_drew ?_ | refine grownBy_drewN ?_ _ | refine grownBy_setNew ?_ (by first | (simp; done) | omega | (simp; omega)) _)))
  have C6 := A2.same (w' := w2.drew) (by (repeat (first | exact grownBy_refl _ _ | assumption | refine grownBy_new_block ?_ _ | refine grownBy_drew ?_ | refine grownBy_drewN ?_ _ | refine grownBy_setNew ?_ (by first | (simp; done) | omega | (simp; omega)) _)))
  have K6 := grownBy_trans G2 (show World.grownBy w2 w2.drew none from (by (repeat (first | exact grownBy_refl _ _ | assumption | refine grownBy_new_block ?_ _ | refine grownBy_drew ?_ | refine grownBy_drewN ?_ _ | refine grownBy_setNew ?_ (by first | (simp; done) | omega | (simp; omega)) _))))
  have hbr6 : rb < w2.drew.heap.size := C6.lt
  (refine Rg.wp_region_rgZ 11 #[] (fun w w' => World.grownBy w w' none) (fun k _ w v w' => match k with | 2 => RdL lnF 3 w' v AL ∧ World.grownBy w w' none | 5 => (∃ v1 v2, v = .tuple #[v1, v2] ∧ RdL lnF 3 w' v1 Ls ∧ RdL lnF 3 w' v2 Om ∧ CapOk v1 ∧ From w.heap.size v1 ∧ From w.heap.size v2) ∧ World.grownBy w w' none | _ => False) (by kernel_rfl) (by kernel_rfl) (fun w => grownBy_refl w none) (fun _ _ _ h k => grownBy_trans h k) (fun _ _ _ _ _ h => h) ?_; simp only [List.take, List.drop])
  clear A2 B2 G2
  generalize w2.drew = w6 at *
  (refine Rg.tree_op rfl rfl ?_; intro x0 mx0 dx0)
  clear dx0
  have BX := B6.same mx0
  go_wp2_with (refine load_cfg rfl _ rfl _ rfl c (by assumption) ?_)
  refine ⟨grownBy_refl _ _, ?_⟩
  clear BX
  (refine Rg.tree_quiet 1 rfl (by first | exact Or.inl rfl | exact Or.inr rfl) ?_; simp only [List.take, List.drop, List.length_cons, List.length_nil, List.replicate, Nat.reduceAdd]; (try simp only [List.cons_append]); (try simp only [List.nil_append]); (repeat (go_big_quiet_step (fail))); refine wpQuiet_nil ?_)
  (refine Rg.tree_call rfl rfl rfl ?_; intro x3 mx3 dx3; refine ⟨?_, ?_⟩; · (unfold Rg.callSpec; go_simp; (refine (Hc1.out x3 (grownBy_trans K6 mx3)).mono ?_; rintro e w' ⟨v, rfl, o, g⟩; exact ⟨v, rfl, o.rd, g⟩)))
  clear dx3
  rintro v3 y3 ⟨R3, g3⟩
  refine ⟨g3, ?_⟩
  simp only [Act.put, List.setIfInBounds_toArray, List.set_cons_zero, List.set_cons_succ]
  (refine Rg.tree_quiet 1 rfl (by first | exact Or.inl rfl | exact Or.inr rfl) ?_; simp only [List.take, List.drop, List.length_cons, List.length_nil, List.replicate, Nat.reduceAdd]; (try simp only [List.cons_append]); (try simp only [List.nil_append]); (repeat (go_big_quiet_step (fail))); refine wpQuiet_nil ?_)
  (refine Rg.tree_op rfl rfl ?_; intro x5 mx5 dx5)
  clear dx5
  have bx := (B6.same mx5).cell
  go_wp2_with fail
  refine ⟨grownBy_refl _ _, ?_⟩
  clear bx
  (refine Rg.tree_call rfl rfl rfl ?_; intro x6 mx6 dx6; refine ⟨?_, ?_⟩; · (unfold Rg.callSpec; go_simp; (refine (Hc2.out x6 _ (RdL.same R3 (dx6.out 2 (by omega) (by kernel_rfl)))).mono ?_; rintro e w' ⟨v1, v2, rfl, h1, h2, h3, h4, h5, g⟩; exact ⟨_, rfl, ⟨v1, v2, rfl, h1, h2, h3, h4, h5⟩, g⟩)))
  clear dx6
  rintro v6 y6 ⟨⟨v1, v2, rfl, R1, R2, hc1, hf1, hf2⟩, g6⟩
  refine ⟨g6, ?_⟩
  simp only [Act.put, List.setIfInBounds_toArray, List.set_cons_zero, List.set_cons_succ]
  have hbx6 : rb < x6.heap.size := Nat.lt_of_lt_of_le hbr6 mx6.size
  (refine Rg.tree_quiet 5 rfl (by first | exact Or.inl rfl | exact Or.inr rfl) ?_; simp only [List.take, List.drop, List.length_cons, List.length_nil, List.replicate, Nat.reduceAdd]; (try simp only [List.cons_append]); (try simp only [List.nil_append]); (repeat (go_big_quiet_step (fail))); refine wpQuiet_nil ?_)
  (refine Rg.tree_nil ?_; intro x7 mx7 dx7 cx7)
  have RA7 := R1.same (dx7.out 5 (by omega))
  have RB7 := R2.same (dx7.out 5 (by omega))
  have C7 := C6.same mx7
  have B7 := B6.same mx7
  have K7 := grownBy_trans K6 mx7
  clear R1 R2 R3 g3 g6 mx0 mx3 mx5 mx6 mx7 dx7 cx7 C6 B6 K6 y3 y6
  obtain ⟨a1, k1, rfl⟩ := RA7.shape
  obtain ⟨a2, k2, rfl⟩ := RB7.shape
  have hx6 : w.heap.size ≤ x6.heap.size := by omega
  clear x0 x3 x5
  go_upto_region 2 with fail
  have hb7 : rb < x7.heap.size := C7.lt
  have B8 := B7.same (w' := x7.drew) (by (repeat (first | exact grownBy_refl _ _ | assumption | refine grownBy_new_block ?_ _ | refine grownBy_drew ?_ | refine grownBy_drewN ?_ _ | refine grownBy_setNew ?_ (by first | (simp; done) | omega | (simp; omega)) _)))
  have C8 := C7.same (w' := x7.drew) (by (repeat (first | exact grownBy_refl _ _ | assumption | refine grownBy_new_block ?_ _ | refine grownBy_drew ?_ | refine grownBy_drewN ?_ _ | refine grownBy_setNew ?_ (by first | (simp; done) | omega | (simp; omega)) _)))
  have RA8 := RA7.same (w' := x7.drew) (by (repeat (first | exact grownBy_refl _ _ | assumption | refine grownBy_new_block ?_ _ | refine grownBy_drew ?_ | refine grownBy_drewN ?_ _ | refine grownBy_setNew ?_ (by first | (simp; done) | omega | (simp; omega)) _)))
  have RB8 := RB7.same (w' := x7.drew) (by (repeat (first | exact grownBy_refl _ _ | assumption | refine grownBy_new_block ?_ _ | refine grownBy_drew ?_ | refine grownBy_drewN ?_ _ | refine grownBy_setNew ?_ (by first | (simp; done) | omega | (simp; omega)) _)))
  have K8 := grownBy_trans K7 (show World.grownBy x7 x7.drew none from (by (repeat (first | exact grownBy_refl _ _ | assumption | refine grownBy_new_block ?_ _ | refine grownBy_drew ?_ | refine grownBy_drewN ?_ _ | refine grownBy_setNew ?_ (by first | (simp; done) | omega | (simp; omega)) _))))
  have hb8 : rb < x7.drew.heap.size := hb7
  (refine Rg.wp_region_rgZ 17 #[] (fun w w' => World.grownBy w w' none) (fun k _ w v w' => match k with | 2 => v = .int .u64 tot ∧ World.grownBy w w' none | 5 => (∃ a cp, v = .slice a K cp) ∧ World.grownBy w w' none | 10 => v = .int .u64 rs0 ∧ World.grownBy w w' none | 11 => v = .int .u64 rst ∧ World.grownBy w w' none | _ => False) (by kernel_rfl) (by kernel_rfl) (fun w => grownBy_refl w none) (fun _ _ _ h k => grownBy_trans h k) (fun _ _ _ _ _ h => h) ?_; simp only [List.take, List.drop])
  clear B7 C7 RA7 RB7 K7 hb7
  generalize x7.drew = w8 at *
  (refine Rg.tree_quiet 2 rfl (by first | exact Or.inl rfl | exact Or.inr rfl) ?_; simp only [List.take, List.drop, List.length_cons, List.length_nil, List.replicate, Nat.reduceAdd]; (try simp only [List.cons_append]); (try simp only [List.nil_append]); (repeat (go_big_quiet_step (fail))); refine wpQuiet_nil ?_)
  (refine Rg.tree_call rfl rfl rfl ?_; intro y2 my2 dy2; refine ⟨?_, ?_⟩; · (unfold Rg.callSpec; go_simp; (refine (Hc3.out y2 (grownBy_trans K8 my2)).mono ?_; rintro e w' ⟨rfl, g⟩; exact ⟨_, rfl, rfl, g⟩)))
  clear dy2
  rintro v2 e2 ⟨rfl, g2⟩
  refine ⟨g2, ?_⟩
  simp only [Act.put, List.setIfInBounds_toArray, List.set_cons_zero, List.set_cons_succ]
  (refine Rg.tree_quiet 2 rfl (by first | exact Or.inl rfl | exact Or.inr rfl) ?_; simp only [List.take, List.drop, List.length_cons, List.length_nil, List.replicate, Nat.reduceAdd]; (try simp only [List.cons_append]); (try simp only [List.nil_append]); (repeat (go_big_quiet_step (fail))); refine wpQuiet_nil ?_)
  (refine Rg.tree_call rfl rfl rfl ?_; intro y5 my5 dy5; refine ⟨?_, ?_⟩; · (unfold Rg.callSpec; go_simp; (refine (Hc6.out y5 (grownBy_trans K8 my5)).mono ?_; rintro e w' ⟨a, cp, rfl, g⟩; exact ⟨_, rfl, ⟨a, cp, rfl⟩, g⟩)))
  clear dy5
  rintro v5 e5 ⟨⟨ka, kc, rfl⟩, g5⟩
  refine ⟨g5, ?_⟩
  simp only [Act.put, List.setIfInBounds_toArray, List.set_cons_zero, List.set_cons_succ]
  (refine Rg.tree_quiet 2 rfl (by first | exact Or.inl rfl | exact Or.inr rfl) ?_; simp only [List.take, List.drop, List.length_cons, List.length_nil, List.replicate, Nat.reduceAdd]; (try simp only [List.cons_append]); (try simp only [List.nil_append]); (repeat (go_big_quiet_step (fail))); refine wpQuiet_nil ?_)
  (refine Rg.tree_op rfl rfl ?_; intro y8 my8 dy8)
  clear dy8
  have BX := B8.same my8
  go_wp2_with (refine load_cfg rfl _ rfl _ rfl c (by assumption) ?_)
  refine ⟨grownBy_refl _ _, ?_⟩
  clear BX
  (refine Rg.tree_quiet 1 rfl (by first | exact Or.inl rfl | exact Or.inr rfl) ?_; simp only [List.take, List.drop, List.length_cons, List.length_nil, List.replicate, Nat.reduceAdd]; (try simp only [List.cons_append]); (try simp only [List.nil_append]); (repeat (go_big_quiet_step (fail))); refine wpQuiet_nil ?_)
  (refine Rg.tree_call rfl rfl rfl ?_; intro y10 my10 dy10; refine ⟨?_, ?_⟩; · (unfold Rg.callSpec; go_simp; (refine (Hc7.out y10 (grownBy_trans K8 my10)).mono ?_; rintro e w' ⟨rfl, g⟩; exact ⟨_, rfl, rfl, g⟩)))
  clear dy10
  rintro v10 e10 ⟨rfl, g10⟩
  refine ⟨g10, ?_⟩
  simp only [Act.put, List.setIfInBounds_toArray, List.set_cons_zero, List.set_cons_succ]
  (refine Rg.tree_call rfl rfl rfl ?_; intro y11 my11 dy11; refine ⟨?_, ?_⟩; · (unfold Rg.callSpec; go_simp; (refine (Hc8.out y11 _ (RB8.same my11)).mono ?_; rintro e w' ⟨rfl, g⟩; exact ⟨_, rfl, rfl, g⟩)))
  clear dy11
  rintro v11 e11 ⟨rfl, g11⟩
  refine ⟨g11, ?_⟩
  simp only [Act.put, List.setIfInBounds_toArray, List.set_cons_zero, List.set_cons_succ]
  (refine Rg.tree_op rfl rfl ?_; intro y12 my12 dy12)
  clear dy12
  have hz12 : w8.heap.size ≤ y12.heap.size := my12.size
  go_wp2_with fail
  refine ⟨World.grownBy_alloc _ _ _, ?_⟩
  have N12 := own_lit0 (e := 25) wordF 1 hz12
  have hs12 : (y12.alloc (.cells #[] 25)).heap.size = y12.heap.size + 1 := by simp
  generalize y12.alloc (.cells #[] 25) = e12 at *
  generalize hgy : y12.heap.size = g12 at *
  have Hgy := Lib.hid hgy
  clear hgy
  (refine Rg.tree_quiet 1 rfl (by first | exact Or.inl rfl | exact Or.inr rfl) ?_; simp only [List.take, List.drop, List.length_cons, List.length_nil, List.replicate, Nat.reduceAdd]; (try simp only [List.cons_append]); (try simp only [List.nil_append]); (repeat (go_big_quiet_step (fail))); refine wpQuiet_nil ?_)
  (refine Rg.tree_op rfl rfl ?_; intro y14 my14 dy14)
  have N14 := N12.same (dy14.out 12 (by omega) (by kernel_rfl))
  have R14 := RdL.same HR.out (grownBy_trans K8 my14)
  have z14 := my14.size
  clear dy14
  go_wp2_with (at_builtin; refine app_lit elt_word one_word N14 R14 rfl hb1 hb2 z14 (by rfl) _ _ (by rfl) (by rfl) (by rfl) ?_; intro v14 e14 o14 g14 l14; have Hg14 := Lib.hid g14; clear g14)
  refine ⟨Hg14.out, ?_⟩
  clear R14 N14 z14
  obtain ⟨a14, k14, rfl⟩ := o14.shape
  (refine Rg.tree_quiet 1 rfl (by first | exact Or.inl rfl | exact Or.inr rfl) ?_; simp only [List.take, List.drop, List.length_cons, List.length_nil, List.replicate, Nat.reduceAdd]; (try simp only [List.cons_append]); (try simp only [List.nil_append]); (repeat (go_big_quiet_step (fail))); refine wpQuiet_nil ?_)
  (refine Rg.tree_op rfl rfl ?_; intro y16 my16 dy16)
  clear dy16
  go_wp2_with fail
  refine ⟨World.grownBy_alloc _ _ _, ?_⟩
  have A16 := Blk.new y16 #[.int .i64 0, .int .u64 0, .slice none 0 0, .int .u64 0, .int .i64 0, .int .u64 0, .slice none 0 0] 32
  have hs16 : (y16.alloc (.cells #[.int .i64 0, .int .u64 0, .slice none 0 0, .int .u64 0, .int .i64 0, .int .u64 0, .slice none 0 0] 32)).heap.size = y16.heap.size + 1 := by simp
  have hz16 : w8.heap.size ≤ y16.heap.size := my16.size
  generalize y16.alloc (.cells #[.int .i64 0, .int .u64 0, .slice none 0 0, .int .u64 0, .int .i64 0, .int .u64 0, .slice none 0 0] 32) = e16 at *
  generalize hgy2 : y16.heap.size = br at *
  (refine Rg.tree_nil ?_; intro wz mwz dwz cwz)
  have q1 : e12.grownBy y16 none ∨ e16.grownBy y12 none := cwz.out 12 16 (by omega) (by omega) (by omega)
  have q2 : e14.grownBy y16 none ∨ e16.grownBy y14 none := cwz.out 14 16 (by omega) (by omega) (by omega)
  have hne : ∀ k, (Value.slice a14 rej.length k14).ownBlock = some k → k ≠ br := by
    intro k hk e
    subst e
    have hy := Hgy.out
    rcases q2 with h | h
    · have h1 := (o14.lt _ hk).2
      have h2 := h.size
      omega
    · have h1 := h.size
      rcases l14 with e | ⟨m, e, h2⟩
      · rw [hk] at e
        have e3 : k = g12 := by simpa [Value.ownBlock] using e
        rcases q1 with h | h
        · have := h.size; omega
        · have := h.size; omega
      · rw [hk] at e
        cases e
        omega
  have Az := A16.same (dwz.out 16 (by omega))
  have o9 := o14.same (dwz.out 14 (by omega))
  clear my2 g2 my5 g5 my8 my10 g10 my11 g11 my12 hs12 Hgy my14 Hg14 l14 my16 hs16 q1 q2 A16 o14 N12 hgy2 dwz cwz
  have a9 := Az.cell
  have f9 := Az.free
  go_upto_region 4 with fail
  clear a9 f9
  have hgr : World.grownBy wz (((((((wz.setCell ⟨br, 0, none⟩ (.int .i64 win)).setCell ⟨br, 1, none⟩ (.int .u64 tot)).setCell ⟨br, 2, none⟩ (.slice a1 Ls.length k1)).setCell ⟨br, 3, none⟩ (.int .u64 0)).setCell ⟨br, 4, none⟩ (.int .i64 K)).setCell ⟨br, 5, none⟩ (.int .u64 rst)).setCell ⟨br, 6, none⟩ (.slice a14 rej.length k14)) (some br) := grownBy_set (grownBy_set (grownBy_set (grownBy_set (grownBy_set (grownBy_set (grownBy_set (grownBy_refl _ _) _ _) _ _) _ _) _ _) _ _) _ _) _ _
  have hAr : Blk (((((((wz.setCell ⟨br, 0, none⟩ (.int .i64 win)).setCell ⟨br, 1, none⟩ (.int .u64 tot)).setCell ⟨br, 2, none⟩ (.slice a1 Ls.length k1)).setCell ⟨br, 3, none⟩ (.int .u64 0)).setCell ⟨br, 4, none⟩ (.int .i64 K)).setCell ⟨br, 5, none⟩ (.int .u64 rst)).setCell ⟨br, 6, none⟩ (.slice a14 rej.length k14)) br #[.int .i64 win, .int .u64 tot, .slice a1 Ls.length k1, .int .u64 0, .int .i64 K, .int .u64 rst, .slice a14 rej.length k14] := ((((((Az.set_ 0 _ rfl).set_ 1 _ rfl).set_ 2 _ rfl).set_ 3 _ rfl).set_ 4 _ rfl).set_ 5 _ rfl).set_ 6 _ rfl
  generalize ((((((wz.setCell ⟨br, 0, none⟩ (.int .i64 win)).setCell ⟨br, 1, none⟩ (.int .u64 tot)).setCell ⟨br, 2, none⟩ (.slice a1 Ls.length k1)).setCell ⟨br, 3, none⟩ (.int .u64 0)).setCell ⟨br, 4, none⟩ (.int .i64 K)).setCell ⟨br, 5, none⟩ (.int .u64 rst)).setCell ⟨br, 6, none⟩ (.slice a14 rej.length k14) = w10 at *
  have M10 := grownBy_new mwz hgr hz16
  have B10 := B8.same M10
  have C10 := C8.same M10
  have RA10 := RA8.same M10
  have K10 := grownBy_trans K8 M10
  have hwbr : w.heap.size ≤ br := by omega
  have o10 := o9.kept hgr (fun k hk e => hne k hk (by cases e; rfl))
  have hf9 := o10.from_
  have cp9 := o10.capOk
  have RC10 := o10.rd
  have A10 := hAr
  have hrbr : rb ≠ br := by omega
  have hbw : br < w10.heap.size := A10.lt
  have o10' := o10
  clear o9 o10 RC10 B8 RB8 mwz Az hAr hgr
  go_wp2_with fail
  have hlm := RA10.2.1
  go_loopw [12, 42] (fun s12 s42 wk => ∃ k : Nat, k ≤ Ls.length ∧ s42 = .int .i64 k ∧ s12 = .int .u64 (satL (loSum (Ls.take k))) ∧ w10.grownBy wk none) (fun _ s42 _ => Ls.length - (intOf s42).toNat)
  case atStart => exact ⟨0, Nat.zero_le _, rfl, rfl, grownBy_refl _ _⟩
  case round =>
    obtain ⟨k, hk, rfl, rfl, hg⟩ := hrel
    by_cases hlt : k < Ls.length
    · obtain ⟨g, off, cap, hv, hgl, hc⟩ := (RA10.same hg).at_ lnF_len hlt
      cases hv
      have c0 := hc 0 _ rfl
      have c1 := hc 1 _ rfl
      have c2 := hc 2 _ rfl
      rw [Nat.add_zero] at c0
      clear hc
      have hx := HLW.out Ls[k] (List.getElem_mem hlt)
      have hps : 0 ≤ loSum (Ls.take k) := loSum_pos fun x hx => (HLW.out x (List.mem_of_mem_take hx)).lo.1
      have w1' : W64 (satL (loSum (Ls.take k))) := satL_w hps
      have w2' : W64 Ls[k].lo := hx.lo
      have HS := Lib.hid (show satL (loSum (Ls.take (k + 1))) = satA (satL (loSum (Ls.take k))) Ls[k].lo by rw [List.take_succ_eq_append_getElem hlt, loSum_snoc, satL_add hps w2'.1])
      clear hx hps
      generalize satL (loSum (Ls.take k)) = T at *
      generalize Ls[k] = x at *
      have G2 := grownBy_new_block hg (.cells #[.string x.key, .int .u64 x.lo, .int .u64 x.hi] 40)
      have A2 := (Blk.new wr #[.string x.key, .int .u64 x.lo, .int .u64 x.hi] 40).cell
      go_wp2_with (go_at_call 37; refine (rsum_c T x.lo _ w1' w2').mono ?_; rintro e w' ⟨rfl, rfl⟩)
      exact ⟨⟨k + 1, by omega, by go_num, by rw [HS.out], G2⟩, by simp [intOf]; omega⟩
    · have hl : Ls.take k = Ls := List.take_of_length_le (by omega)
      rw [hl]
      have A11 := A10.same hg
      have M11 := grownBy_trans M10 hg
      have o11 := o10'.same hg
      clear A10 C10 RA10 K10 hg B10 M10 o10'
      have a11 := A11.cell
      have f11 := A11.free
      obtain ⟨qs, hqs⟩ := Hc5.out wr
      go_upto_region 10 with (go_at_call 38; refine hqs.mono ?_; rintro e w' ⟨rfl, rfl⟩)
      clear a11 f11 hqs
      have A12 : Blk (wr.setCell ⟨br, 3, none⟩ (.int .u64 ov)) br #[.int .i64 win, .int .u64 tot, .slice a1 Ls.length k1, .int .u64 ov, .int .i64 K, .int .u64 rst, .slice a14 rej.length k14] := A11.set_ 3 _ rfl
      have G12 := grownBy_set (grownBy_refl wr (some br)) 3 (.int .u64 ov)
      have M12 := grownBy_new M11 G12 hz16
      have RA12 := RA8.same M12
      have C12 := C8.same M12
      have K12 := grownBy_trans K8 M12
      have RC12 := (o11.kept G12 (fun k hk e => hne k hk (by cases e; rfl))).rd
      clear M11 G12 o11 A11 M12 RA8 C8 K8 hne
      generalize wr.setCell ⟨br, 3, none⟩ (.int .u64 ov) = w12 at *
      have a12 := A12.cell
      have f12 := C12.free
      have c12 := C12.cell
      go_wp2_with fail
      clear a12 f12 c12
      have hgc : World.grownBy w12 (((((((w12.setCell ⟨rb, 0, none⟩ (.int .i64 win)).setCell ⟨rb, 1, none⟩ (.int .u64 tot)).setCell ⟨rb, 2, none⟩ (.slice a1 Ls.length k1)).setCell ⟨rb, 3, none⟩ (.int .u64 ov)).setCell ⟨rb, 4, none⟩ (.int .i64 K)).setCell ⟨rb, 5, none⟩ (.int .u64 rst)).setCell ⟨rb, 6, none⟩ (.slice a14 rej.length k14)) (some rb) := grownBy_set (grownBy_set (grownBy_set (grownBy_set (grownBy_set (grownBy_set (grownBy_set (grownBy_refl _ _) _ _) _ _) _ _) _ _) _ _) _ _) _ _
      have hCr : Blk (((((((w12.setCell ⟨rb, 0, none⟩ (.int .i64 win)).setCell ⟨rb, 1, none⟩ (.int .u64 tot)).setCell ⟨rb, 2, none⟩ (.slice a1 Ls.length k1)).setCell ⟨rb, 3, none⟩ (.int .u64 ov)).setCell ⟨rb, 4, none⟩ (.int .i64 K)).setCell ⟨rb, 5, none⟩ (.int .u64 rst)).setCell ⟨rb, 6, none⟩ (.slice a14 rej.length k14)) rb #[.int .i64 win, .int .u64 tot, .slice a1 Ls.length k1, .int .u64 ov, .int .i64 K, .int .u64 rst, .slice a14 rej.length k14] := ((((((C12.set_ 0 _ rfl).set_ 1 _ rfl).set_ 2 _ rfl).set_ 3 _ rfl).set_ 4 _ rfl).set_ 5 _ rfl).set_ 6 _ rfl
      generalize ((((((w12.setCell ⟨rb, 0, none⟩ (.int .i64 win)).setCell ⟨rb, 1, none⟩ (.int .u64 tot)).setCell ⟨rb, 2, none⟩ (.slice a1 Ls.length k1)).setCell ⟨rb, 3, none⟩ (.int .u64 ov)).setCell ⟨rb, 4, none⟩ (.int .i64 K)).setCell ⟨rb, 5, none⟩ (.int .u64 rst)).setCell ⟨rb, 6, none⟩ (.slice a14 rej.length k14) = w13 at *
      have RA13 := RA12.keptFrom hf1 hgc hbx6
      have RC13 := RC12.keptFrom hf9 hgc hb8
      have K13 := grownBy_new K12 hgc hbb
      have rc13 := hCr.cell
      clear A12 C12 K12 RA12 RC12 hgc
      have hx8 : w.heap.size ≤ w8.heap.size := by omega
      refine bodyPost_ret (v := repV win tot (.slice a1 Ls.length k1) ov K rst (.slice a14 rej.length k14)) (by simp [results, Tryz.results10, go_sem, rc13]) rfl ?_
      exact HP.out _ _ ⟨_, _, rfl, RA13, RC13, hc1, cp9, hf1.le hx6, hf9.le hx8, K13⟩
end Go.Proofs.YtiagjiaahnkefaaGreat

/- Arguments that come in: slices of ints. -/
namespace Go.Proofs.YtiagjiaahnkefaaGreat
open Go.RowKit

theorem own : ownKnob Tryz.prog.godebug = none := by kernel_rfl
theorem laidOut : laidOutB Tryz.prog = true := by kernel_rfl

/-- A slice of integers that came in: it is nil; or it leads to a row of 'cap' cells, the numbers 'zs' (the first 'len' are its elements), each fitting its kind. -/
def IsRow (k : IntKind) (w : World) (a : Option Addr) (len cap : Nat) (zs : List Int) : Prop :=
  (a = none ∧ len = 0 ∧ cap = 0 ∧ zs = []) ∨
  ∃ x, a = some x ∧ len ≤ cap ∧ cap ≤ maxLen ∧ zs.length = cap ∧ (∀ i, i < zs.length → w.cell? (x.add i) = some (.int k (zs.getD i 0))) ∧ ∀ n ∈ zs, (Lit.int k n).wf = true

theorem IsRow.rd {k : IntKind} {w : World} {a : Option Addr} {len cap : Nat} {zs : List Int} (h : IsRow k w a len cap zs) : Rd w 1 (.slice a len cap) len ((zs.take len).map (fun x => Value.int k x)) := by
  rcases h with ⟨rfl, rfl, rfl, rfl⟩ | ⟨x, rfl, h1, h2, h3, h4, h5⟩
  · exact ⟨by simp, by omega, .inl ⟨rfl, _, _, rfl⟩⟩
  · have hm : len ≤ 9223372036854775807 := by unfold maxLen at h2; omega
    rcases Nat.eq_zero_or_pos len with rfl | h0
    · exact ⟨by simp, by omega, .inl ⟨rfl, _, _, rfl⟩⟩
    · obtain ⟨b, off, spot⟩ := x
      have hc := h4 0 (by omega)
      cases spot with
      | some s =>
        exfalso
        unfold Addr.add at hc
        simp [World.cell?] at hc
        split at hc <;> simp_all
      | none =>
        refine ⟨by simp; omega, hm, .inr ⟨b, off, cap, rfl, block_lt_of_cell hc, fun j u hu => ?_⟩⟩
        have hj : j < len := by
          have := (List.getElem?_eq_some_iff.1 hu).1
          simp at this; omega
        have := h4 j (by omega)
        have ha : (⟨b, off, none⟩ : Addr).add j = ⟨b, off + j, none⟩ := by unfold Addr.add; split <;> simp_all
        rw [ha] at this
        rw [this, ← hu]
        simp [hj, List.getElem?_eq_getElem (show j < zs.length by omega)]
end Go.Proofs.YtiagjiaahnkefaaGreat
