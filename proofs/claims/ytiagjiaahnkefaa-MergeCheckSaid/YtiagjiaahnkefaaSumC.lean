/- Which summaries are valid, and the error of others: the program. -/
import Derived.Test.YtiagjiaahnkefaaRowC
namespace Go.Proofs.Ytiagjiaahnkefaa
open Go.RowKit
attribute [local go_sem ↓] exec_load_cfg
attribute [local go_sem] run_loadCfgS

/-- The first error of a list. -/
def fstN (l : List Int) : Int := (l.find? (fun x => decide (x ≠ 0))).getD 0
theorem fstN_at {l : List Int} {j : Nat} (hj : j < l.length) (h : ∀ i, (hi : i < l.length) → i < j → l[i] = 0) (h2 : l[j] ≠ 0) : fstN l = l[j] := by
  unfold fstN
  rw [(List.find?_eq_some_iff_getElem (p := fun x => decide (x ≠ 0)) (b := l[j])).2 ⟨by simpa using h2, j, hj, rfl, fun i hi => by simp [h i (by omega) hi]⟩]
  rfl
theorem fstN_no {l : List Int} (h : ∀ i, (hi : i < l.length) → l[i] = 0) : fstN l = 0 := by
  unfold fstN
  rw [List.find?_eq_none.2]
  · rfl
  · intro x hx
    obtain ⟨i, hi, rfl⟩ := List.mem_iff_getElem.1 hx
    simp [h i hi]
def prevK (es : List Ent) : Nat → Option ByteArray
  | 0 => none
  | m + 1 => es[m]?.map (·.key)
def errAt (tot : Int) (es : List Ent) (i : Nat) : Int := match es[i]? with
  | some e => entErr tot (prevK es i) e
  | none => 0
def entsErr (tot : Int) (es : List Ent) : Int := fstN ((List.range es.length).map (errAt tot es))
theorem ents_at {tot : Int} {es : List Ent} {j : Nat} (hj : j < es.length) (h : ∀ i, i < j → errAt tot es i = 0) (h2 : errAt tot es j ≠ 0) : entsErr tot es = errAt tot es j := by
  unfold entsErr
  rw [fstN_at (j := j) (by simpa using hj) (fun i hi hij => by simpa using h i hij) (by simpa using h2)]
  simp
theorem ents_no {tot : Int} {es : List Ent} (h : ∀ i, i < es.length → errAt tot es i = 0) : entsErr tot es = 0 := fstN_no fun i hi => by simpa using h i (by simpa using hi)
def ownF (es : List Ent) : Int := es.foldl (fun n e => satA n e.own) 0
theorem ownF_snoc (es : List Ent) (e : Ent) : ownF (es ++ [e]) = satA (ownF es) e.own := by simp [ownF]
def sumErr (d n : Int) (s : Summ) : Int := if 9223372036854775808 < s.total ∨ s.total < s.untr then 1 else if 96 < s.es.length then 7 else if entsErr s.total s.es ≠ 0 then entsErr s.total s.es else if s.total < ownF s.es then 12 else rowsErr d n s.total s.rows
/-- What the model has of a summary that is small. -/
structure SumSmall (s : Summ) : Prop where
  key : ∀ e ∈ s.es, e.key.size ≤ 9223372036854775807
  rows : s.rows.length ≤ 1000
  row : ∀ r ∈ s.rows, r.length ≤ 9223372036854775807

theorem entry_c (i : Nat) (s : Summ) (w : World) (hR : SumRd w s) (hW : SumW s) (hi : i < s.es.length) (hk : ∀ e ∈ s.es, e.key.size ≤ 9223372036854775807) (ht : s.total ≤ 9223372036854775808) :
    Calls Try.prog 108 #[sumV s.total s.ve s.untr s.vr, .int .i64 i] w (RetInt (errAt s.total s.es i) w) := by
  have he : errAt s.total s.es i = entErr s.total (prevK s.es i) s.es[i] := by
    unfold errAt; rw [List.getElem?_eq_getElem hi]
  rw [he]
  cases i with
  | zero => exact entry0_c s w hR hW hi hk ht
  | succ m =>
    have := entryS_c m s w hR hW hi hk ht
    have e : prevK s.es (m + 1) = some s.es[m].key := by simp [prevK, List.getElem?_eq_getElem (show m < s.es.length by omega)]
    rw [e]
    exact this
theorem own_max {a b : Int} (ha : 0 ≤ b) (h : a = 18446744073709551615) : satA a b = 18446744073709551615 := by unfold satA; split <;> omega
theorem own_max2 {a b : Int} (h : fitA a b = false) : satA a b = 18446744073709551615 := by
  unfold fitA at h; unfold satA; simp only [decide_eq_false_iff_not] at h; rw [if_neg h]
theorem sum_1 {d n : Int} {s : Summ} (h : 9223372036854775808 < s.total ∨ s.total < s.untr) : sumErr d n s = 1 := by unfold sumErr; rw [if_pos h]
theorem sum_7 {d n : Int} {s : Summ} (h : ¬(9223372036854775808 < s.total ∨ s.total < s.untr)) (h2 : (96 : Int) < s.es.length) : sumErr d n s = 7 := by unfold sumErr; rw [if_neg h, if_pos (by omega)]
theorem sum_of {d n : Int} {s : Summ} (h : ¬(9223372036854775808 < s.total ∨ s.total < s.untr)) (h2 : (s.es.length : Int) ≤ 96) :
    sumErr d n s = if entsErr s.total s.es ≠ 0 then entsErr s.total s.es else if s.total < ownF s.es then 12 else rowsErr d n s.total s.rows := by unfold sumErr; rw [if_neg h, if_neg (by omega)]

set_option maxHeartbeats 1000000 in
set_option maxRecDepth 100000 in
theorem scheck_c (c : Cfg) (s : Summ) (w : World) (hR : SumRd w s) (hW : SumW s) (hS : SumSmall s) :
    Calls Try.prog 81 #[c.val, sumV s.total s.ve s.untr s.vr] w (RetInt (sumErr c.Depth c.Width s) w) := by
  have HR := Lib.hid hR
  have HW := Lib.hid hW
  have HS := Lib.hid hS
  obtain ⟨a1, k1, e1⟩ := hR.es.shape
  obtain ⟨a2, k2, e2⟩ := hR.vs.shape
  have hm := hR.es.2.1
  have h1 : 9223372036854775808 < s.total ∨ s.total < s.untr → sumErr c.Depth c.Width s = 1 := sum_1
  have h7 : ¬(9223372036854775808 < s.total ∨ s.total < s.untr) → (96 : Int) < s.es.length → sumErr c.Depth c.Width s = 7 := sum_7
  have ho : ¬(9223372036854775808 < s.total ∨ s.total < s.untr) → (s.es.length : Int) ≤ 96 → sumErr c.Depth c.Width s = if entsErr s.total s.es ≠ 0 then entsErr s.total s.es else if s.total < ownF s.es then 12 else rowsErr c.Depth c.Width s.total s.rows := sum_of
  have He := Lib.hid fun (i : Nat) (hi : i < s.es.length) (ht : s.total ≤ 9223372036854775808) (w' : World) (hg : w.grownBy w' none) => entry_c i s w' (hR.same hg) hW hi hS.key ht
  have Hr := Lib.hid fun (w' : World) (hg : w.grownBy w' none) => rows_c c s w' (hR.same hg) hS.rows hS.row
  have Hes := Lib.hid hR.es
  have Hew := Lib.hid hW.es
  rw [e1] at He Hes Hr ⊢
  rw [e2] at He Hr ⊢
  have H1 := Lib.hid h1
  have H7 := Lib.hid h7
  have HO := Lib.hid ho
  clear hR hW hS h1 h7 ho e1 e2 HR HW HS
  generalize sumErr c.Depth c.Width s = SE at *
  generalize rowsErr c.Depth c.Width s.total s.rows = RE at *
  obtain ⟨tot, ve, un, vr, es, vs, rows⟩ := s
  simp only at *
  go_enter Try.func81, Try.ntmps81
  go_upto_region 1 with (refine box_cfg rfl _ rfl c rfl ?_; intro w1 B1 G1 z1)
  have B2 : Blk (w1.alloc (.cells #[.int .u64 tot, .slice a1 es.length k1, .int .u64 un, .slice a2 vs.length k2] 68)) w1.heap.size #[.int .u64 tot, .slice a1 es.length k1, .int .u64 un, .slice a2 vs.length k2] := (by repeat (first | exact Blk.new' _ _ _ (by simp) | refine Blk.same ?_ (World.grownBy_alloc _ _ _) | refine Blk.drew ?_ _ | refine Blk.drew1 ?_ | refine Blk.set_ (by assumption) _ _ rfl | refine Blk.off ?_ (by first | omega | (simp; done) | (simp; omega)) _ _ | assumption))
  have hg : w.grownBy (w1.alloc (.cells #[.int .u64 tot, .slice a1 es.length k1, .int .u64 un, .slice a2 vs.length k2] 68)) none := grownBy_new_block G1 _
  have BC : BoxAt (w1.alloc (.cells #[.int .u64 tot, .slice a1 es.length k1, .int .u64 un, .slice a2 vs.length k2] 68)) w.heap.size c := B1.same (World.grownBy_alloc _ _ _)
  generalize w1.alloc (.cells #[.int .u64 tot, .slice a1 es.length k1, .int .u64 un, .slice a2 vs.length k2] 68) = w2 at *
  clear G1 B1
  have b2 := B2.cell
  generalize hbb : w1.heap.size = b at *
  generalize hcc : w.heap.size = cb at *
  go_wp2_with fail
  rotate_right
  · go_ret
    exact retInt (H1.out (Or.inl (by assumption))) hg
  · go_ret
    exact retInt (H1.out (by assumption)) hg
  · go_ret
    exact retInt (H7.out (by omega) (by assumption)) hg
  have ht : tot ≤ 9223372036854775808 := by assumption
  have HE := Lib.hid (HO.out (by omega) (by assumption))
  have hl96 : (es.length : Int) ≤ 96 := by assumption
  clear H1 H7 HO
  go_loopw [5, 6, 28] (fun s5 s6 s28 wr => ∃ (j : Nat) (ok : Bool), j ≤ es.length ∧ s28 = .int .i64 j ∧ s5 = .int .u64 (ownF (es.take j)) ∧ s6 = .bool ok ∧ W64 (ownF (es.take j)) ∧ (ok = false → ownF (es.take j) = 18446744073709551615) ∧ (∀ i, i < j → errAt tot es i = 0) ∧ w2.grownBy wr none) (fun _ _ s28 _ => es.length - (intOf s28).toNat)
  case atStart => exact ⟨0, true, Nat.zero_le _, rfl, rfl, rfl, w64_0, by simp, by omega, grownBy_refl _ _⟩
  case round =>
    obtain ⟨j, ok, hj, rfl, rfl, rfl, hT, hok, hall, hgr⟩ := hrel
    have Hall := Lib.hid hall
    have Hok := Lib.hid hok
    clear hall hok
    have hgg := grownBy_trans hg hgr
    have BCr := BC.same hgr
    have B2r := B2.same hgr
    have b3 := B2r.cell
    have b4 := fun o => (B2r.same (World.grownBy_alloc wr o none)).cell
    by_cases hlt : j < es.length
    · obtain ⟨g, off, cap, hv, hgl, c0, c1, c2⟩ := (Hes.out.same hgg).ent hlt
      cases hv
      have HS := Lib.hid (take_succ hlt)
      have Hs := Lib.hid (ownF_snoc (es.take j) es[j])
      obtain ⟨hw1, hw2⟩ := Hew.out _ (List.getElem_mem hlt)
      have hcall := fun w' (h' : wr.grownBy w' none) => He.out j hlt ht w' (grownBy_trans hgg h')
      have hat := fun h => ents_at (tot := tot) hlt Hall.out h
      have hno := fun (h : errAt tot es j = 0) => (fun i (hi : i < j + 1) => by
        by_cases e : i = j
        · subst e; exact h
        · exact Hall.out i (by omega) : ∀ i, i < j + 1 → errAt tot es i = 0)
      generalize ownF (es.take j) = T at *
      generalize es[j] = en at *
      by_cases hz : errAt tot es j = 0
      · have Hno := Lib.hid (hno hz)
        rw [hz] at hcall
        have Hc := Lib.hid hcall
        clear hz hno hat hcall
        have hW2 := satA_w hT hw1
        have hf2 := Lib.hid (own_max2 (a := T) (b := en.own))
        have hf3 := Lib.hid fun e => own_max (a := T) (b := en.own) hw1.1 e
        go_wp2_with (first | (go_at_call 108; refine (Hc.out _ (by (repeat (first | exact grownBy_refl _ _ | assumption | refine grownBy_new_block ?_ _ | refine grownBy_drew ?_ | refine grownBy_drewN ?_ _ | refine grownBy_setNew ?_ (by first | (simp; done) | omega | (simp; omega)) _)))).mono ?_; rintro e w5 ⟨rfl, G5⟩; have ke := ((Blk.new wr #[.string en.key, .int .u64 en.own, .int .u64 en.slack] 77).same G5).cell) | (go_at_call 52; refine (satAdd_c _ _ _ hT hw1).mono ?_; rintro e w' ⟨rfl, rfl⟩))
        · exact ⟨⟨j + 1, fitA T en.own, by omega, by go_num, by rw [HS.out, Hs.out], rfl, by rw [HS.out, Hs.out]; exact hW2, by rw [HS.out, Hs.out]; exact hf2.out, Hno.out, grownBy_trans hgr (grownBy_trans (World.grownBy_alloc _ _ _) G5)⟩, by simp [intOf]; omega⟩
        · have hx := hf3.out (Hok.out (by first | assumption | (simp; assumption) | simp_all))
          exact ⟨⟨j + 1, false, by omega, by go_num, by rw [HS.out, Hs.out], rfl, by rw [HS.out, Hs.out]; exact hW2, by rw [HS.out, Hs.out]; exact fun _ => hx, Hno.out, grownBy_trans hgr (grownBy_trans (World.grownBy_alloc _ _ _) G5)⟩, by simp [intOf]; omega⟩
      · have Hq := Lib.hid (p := SE = errAt tot es j) (by rw [HE.out, hat hz, if_pos hz])
        have Hc := Lib.hid hcall
        clear hno hat hcall HE
        generalize errAt tot es j = ee at *
        have hz2 : (ee != 0) = true := bne_iff_ne.2 hz
        go_wp2_with (first | (go_at_call 108; refine (Hc.out _ (by (repeat (first | exact grownBy_refl _ _ | assumption | refine grownBy_new_block ?_ _ | refine grownBy_drew ?_ | refine grownBy_drewN ?_ _ | refine grownBy_setNew ?_ (by first | (simp; done) | omega | (simp; omega)) _)))).mono ?_; rintro e w5 ⟨rfl, G5⟩))
        go_ret
        exact retInt Hq.out (grownBy_trans hgg (grownBy_trans (World.grownBy_alloc _ _ _) G5))
    · have hl : es.take j = es := List.take_of_length_le (by omega)
      have hez : entsErr tot es = 0 := ents_no fun i hi => Hall.out i (by omega)
      have hSE : SE = if tot < ownF es then 12 else RE := by rw [HE.out, hez, if_neg (by decide)]
      have HSE := Lib.hid hSE
      have hok := Hok.out
      rw [hl] at hT hok ⊢
      have Hok2 := Lib.hid hok
      clear hl hez hSE HE Hall hok Hok
      generalize ownF es = T at *
      go_wp2_with (first | (refine load_cfg rfl _ rfl _ rfl c (by assumption) ?_) | (go_at_call 109; refine (Hr.out _ hgg).mono ?_; rintro e w5 ⟨rfl, G5⟩))
      · go_ret
        exact retInt (HSE.out.trans (if_pos (by assumption))) hgg
      · go_ret
        exact retInt (HSE.out.trans (if_neg (by omega))) (grownBy_trans hgg G5)
      · have h : ¬ok = true := by assumption
        have hx := Hok2.out (by simpa using h)
        go_ret
        exact retInt (HSE.out.trans (if_pos (by omega))) hgg
end Go.Proofs.Ytiagjiaahnkefaa
