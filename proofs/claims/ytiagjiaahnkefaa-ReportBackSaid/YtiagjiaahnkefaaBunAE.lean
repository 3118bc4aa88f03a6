/- Several texts in one file; each begins with a comment that says what is proved in it. -/
import Derived.Test.YtiagjiaahnkefaaBunAD
import Derived.Test.YtiagjiaahnkefaaBunAB
import Derived.StillTailTactics
import Derived.Deep.CutBlock
import Derived.Deep.RegionLaw

/- Which summaries are valid, and the error of others: the program. -/
namespace Go.Proofs.Ytiagjiaahnkefaa
open Go.RowKit
attribute [local go_sem ↓] exec_load_cfg
attribute [local go_sem] run_loadCfgS

def leB (a b : ByteArray) : Bool := Op.bytesLess a.toList b.toList || a.toList == b.toList
/-- The error of an entry behind another one. -/
def entErr (tot : Int) (prev : Option ByteArray) (e : Ent) : Int :=
  if e.key.size = 0 then 3 else if 255 < e.key.size then 4 else if (prev.map (leB e.key)).getD false then 6 else if e.own = 0 ∨ tot < e.own + e.slack then 1 else 0
theorem isE {k : ByteArray} (h : k.toList.isEmpty = true) : k.size = 0 := by
  rw [ByteArray.size, ← Array.length_toList, ← ByteArray.toList_eq]; simpa using h
theorem isN {k : ByteArray} (h : k.toList.isEmpty = false) : k.size ≠ 0 := by
  rw [ByteArray.size, ← Array.length_toList, ← ByteArray.toList_eq]; intro e; rw [List.length_eq_zero_iff.1 e] at h; cases h
theorem err_empty {tot : Int} {p : Option ByteArray} {e : Ent} (h : e.key.toList.isEmpty = true) : entErr tot p e = 3 := by unfold entErr; rw [if_pos (isE h)]
theorem err_long {tot : Int} {p : Option ByteArray} {e : Ent} (h : e.key.toList.isEmpty = false) (h2 : 255 < (e.key.size : Int)) : entErr tot p e = 4 := by unfold entErr; rw [if_neg (isN h), if_pos (by omega)]
theorem err_order {tot : Int} {p : Option ByteArray} {e : Ent} (h : e.key.toList.isEmpty = false) (h2 : (e.key.size : Int) ≤ 255) (h3 : (p.map (leB e.key)).getD false = true) : entErr tot p e = 6 := by unfold entErr; rw [if_neg (isN h), if_neg (by omega), if_pos h3]
theorem err_range {tot : Int} {p : Option ByteArray} {e : Ent} (h : e.key.toList.isEmpty = false) (h2 : (e.key.size : Int) ≤ 255) (h3 : (p.map (leB e.key)).getD false = false) (h4 : e.own = 0 ∨ tot < e.own + e.slack) : entErr tot p e = 1 := by
  unfold entErr; rw [if_neg (isN h), if_neg (by omega), if_neg (by rw [h3]; decide), if_pos h4]
theorem err_ok {tot : Int} {p : Option ByteArray} {e : Ent} (h : e.key.toList.isEmpty = false) (h2 : (e.key.size : Int) ≤ 255) (h3 : (p.map (leB e.key)).getD false = false) (h4 : e.own ≠ 0) (h5 : e.own + e.slack ≤ tot) : entErr tot p e = 0 := by
  unfold entErr; rw [if_neg (isN h), if_neg (by omega), if_neg (by rw [h3]; decide), if_neg (by omega)]
theorem sat_ok {a b t : Int} (h : fitA a b = true) (h2 : satA a b ≤ t) : a + b ≤ t := by
  unfold fitA at h; unfold satA at h2; simp only [decide_eq_true_eq] at h; rw [if_pos h] at h2; exact h2
theorem sat_no {a b t : Int} (ht : t ≤ 9223372036854775808) (h : ¬fitA a b = true) : t < a + b := by
  unfold fitA at h; simp only [decide_eq_true_eq] at h; omega
theorem sat_big {a b t : Int} (h : fitA a b = true) (h2 : t < satA a b) : t < a + b := by
  unfold fitA at h; unfold satA at h2; simp only [decide_eq_true_eq] at h; rw [if_pos h] at h2; exact h2
theorem range_of {a b t : Int} (h : fitA a b = true) (h2 : (a == 0) = true ∨ t < satA a b) : a = 0 ∨ t < a + b := by
  rcases h2 with h2 | h2
  · exact Or.inl (by simpa using h2)
  · exact Or.inr (sat_big h h2)
def prevKey (es : List Ent) (i : Nat) : Option ByteArray := if i = 0 then none else (es[i - 1]?).map (·.key)


set_option maxHeartbeats 1000000 in
set_option maxRecDepth 100000 in
theorem entry0_c (s : Summ) (w : World) (hR : SumRd w s) (hW : SumW s) (hi : 0 < s.es.length) (hk : ∀ e ∈ s.es, e.key.size ≤ 9223372036854775807) (ht : s.total ≤ 9223372036854775808) :
    Calls Try.prog 108 #[sumV s.total s.ve s.untr s.vr, .int .i64 0] w (RetInt (entErr s.total none s.es[0]) w) := by
  obtain ⟨tot, ve, un, vr, es, vs, rows⟩ := s
  obtain ⟨a1, k1, e1⟩ := hR.es.shape
  obtain ⟨a2, k2, e2⟩ := hR.vs.shape
  simp only at e1 e2 hi hk ht ⊢
  subst e1
  subst e2
  obtain ⟨g, off, cap, hv, hgl, c0, c1, c2⟩ := hR.es.ent hi
  cases hv
  obtain ⟨h1, h2⟩ := hW.es _ (List.getElem_mem hi)
  have h3 := hk _ (List.getElem_mem hi)
  simp only [Nat.zero_mul, Nat.add_zero] at c0 c1 c2
  have Ht := Lib.hid ht
  clear hR hW hk ht
  generalize es[0] = en at *
  go_enter Try.func108, Try.ntmps108
  go_wp2_with fail
  · go_ret
    exact retInt (err_empty (by assumption)) (by (repeat (first | exact grownBy_refl _ _ | assumption | refine grownBy_new_block ?_ _ | refine grownBy_drew ?_ | refine grownBy_drewN ?_ _ | refine grownBy_setNew ?_ (by first | (simp; done) | omega | (simp; omega)) _)))
  · go_ret
    exact retInt (err_long (by assumption) (by assumption)) (by (repeat (first | exact grownBy_refl _ _ | assumption | refine grownBy_new_block ?_ _ | refine grownBy_drew ?_ | refine grownBy_drewN ?_ _ | refine grownBy_setNew ?_ (by first | (simp; done) | omega | (simp; omega)) _)))
  · have he : en.key.toList.isEmpty = false := by assumption
    have hl : (en.key.size : Int) ≤ 255 := by assumption
    have HE := Lib.hid he
    have HLn := Lib.hid hl
    clear he hl
    go_quiet (fail)
    have B1 : Blk (((w.alloc (.cells #[.int .u64 tot, .slice (some ⟨g, off, none⟩) es.length k1, .int .u64 un, .slice a2 vs.length k2] 68)).alloc (.cells #[.string en.key, .int .u64 en.own, .int .u64 en.slack] 77)).drewN nq) w.heap.size #[.int .u64 tot, .slice (some ⟨g, off, none⟩) es.length k1, .int .u64 un, .slice a2 vs.length k2] := (by repeat (first | exact Blk.new' _ _ _ (by simp) | refine Blk.same ?_ (World.grownBy_alloc _ _ _) | refine Blk.drew ?_ _ | refine Blk.drew1 ?_ | refine Blk.set_ (by assumption) _ _ rfl | refine Blk.off ?_ (by first | omega | (simp; done) | (simp; omega)) _ _ | assumption))
    have B2 : Blk (((w.alloc (.cells #[.int .u64 tot, .slice (some ⟨g, off, none⟩) es.length k1, .int .u64 un, .slice a2 vs.length k2] 68)).alloc (.cells #[.string en.key, .int .u64 en.own, .int .u64 en.slack] 77)).drewN nq) (w.heap.size + 1) #[.string en.key, .int .u64 en.own, .int .u64 en.slack] := (by repeat (first | exact Blk.new' _ _ _ (by simp) | refine Blk.same ?_ (World.grownBy_alloc _ _ _) | refine Blk.drew ?_ _ | refine Blk.drew1 ?_ | refine Blk.set_ (by assumption) _ _ rfl | refine Blk.off ?_ (by first | omega | (simp; done) | (simp; omega)) _ _ | assumption))
    have hg : w.grownBy (((w.alloc (.cells #[.int .u64 tot, .slice (some ⟨g, off, none⟩) es.length k1, .int .u64 un, .slice a2 vs.length k2] 68)).alloc (.cells #[.string en.key, .int .u64 en.own, .int .u64 en.slack] 77)).drewN nq) none := (by (repeat (first | exact grownBy_refl _ _ | assumption | refine grownBy_new_block ?_ _ | refine grownBy_drew ?_ | refine grownBy_drewN ?_ _ | refine grownBy_setNew ?_ (by first | (simp; done) | omega | (simp; omega)) _)))
    generalize ((w.alloc (.cells #[.int .u64 tot, .slice (some ⟨g, off, none⟩) es.length k1, .int .u64 un, .slice a2 vs.length k2] 68)).alloc (.cells #[.string en.key, .int .u64 en.own, .int .u64 en.slack] 77)).drewN nq = wq at *
    have b1 := B1.cell
    have b2 := B2.cell
    generalize w.heap.size = b at *
    clear c0 c1 c2 B1 B2
    have HP := Lib.hid (p := ((none : Option ByteArray).map (leB en.key)).getD false = false) rfl
    go_wp2_with (go_at_call 52; refine (satAdd_c _ _ _ h1 h2).mono ?_; rintro e w' ⟨rfl, rfl⟩)
    all_goals go_ret
    all_goals first
      | exact retInt (err_range HE.out HLn.out HP.out (Or.inl (by assumption))) hg
      | exact retInt (err_range HE.out HLn.out HP.out (Or.inr (sat_no Ht.out (by assumption)))) hg
      | exact retInt (err_range HE.out HLn.out HP.out (range_of (by assumption) (by assumption))) hg
      | exact retInt (err_ok HE.out HLn.out HP.out (by assumption) (sat_ok (by assumption) (And.right (by assumption)))) hg
set_option maxHeartbeats 1000000 in
set_option maxRecDepth 100000 in
theorem entryS_c (m : Nat) (s : Summ) (w : World) (hR : SumRd w s) (hW : SumW s) (hi : m + 1 < s.es.length) (hk : ∀ e ∈ s.es, e.key.size ≤ 9223372036854775807) (ht : s.total ≤ 9223372036854775808) :
    Calls Try.prog 108 #[sumV s.total s.ve s.untr s.vr, .int .i64 (m + 1 : Nat)] w (RetInt (entErr s.total (some s.es[m].key) s.es[m + 1]) w) := by
  obtain ⟨tot, ve, un, vr, es, vs, rows⟩ := s
  obtain ⟨a1, k1, e1⟩ := hR.es.shape
  obtain ⟨a2, k2, e2⟩ := hR.vs.shape
  simp only at e1 e2 hi hk ht ⊢
  subst e1
  subst e2
  obtain ⟨g, off, cap, hv, hgl, c0, c1, c2⟩ := hR.es.ent hi
  cases hv
  obtain ⟨h1, h2⟩ := hW.es _ (List.getElem_mem hi)
  have h3 := hk _ (List.getElem_mem hi)
  obtain ⟨g', off', cap', hv', hgl', p0, p1, p2⟩ := hR.es.ent (k := m) (by simp only; omega)
  cases hv'
  have hd : decide ((0 : Int) < ((m + 1 : Nat) : Int)) = true := decide_eq_true (by omega)
  have hx : ((m + 1 : Nat) : Int) - 1 = (m : Int) := by omega
  have hm1 : (0 : Int) ≤ (m : Int) := by omega
  have hm2 : (m : Int) < (es.length : Int) := by omega
  have hm3 : (0 : Int) ≤ ((m + 1 : Nat) : Int) := by omega
  have hm4 : ((m + 1 : Nat) : Int) < (es.length : Int) := by omega
  have hlen := hR.es.2.1
  have Ht := Lib.hid ht
  clear hR hW hk ht
  generalize es[m].key = pk at *
  generalize es[m + 1] = en at *
  go_enter Try.func108, Try.ntmps108
  go_wp2_with fail
  · go_ret
    exact retInt (err_empty (by assumption)) (by (repeat (first | exact grownBy_refl _ _ | assumption | refine grownBy_new_block ?_ _ | refine grownBy_drew ?_ | refine grownBy_drewN ?_ _ | refine grownBy_setNew ?_ (by first | (simp; done) | omega | (simp; omega)) _)))
  · go_ret
    exact retInt (err_long (by assumption) (by assumption)) (by (repeat (first | exact grownBy_refl _ _ | assumption | refine grownBy_new_block ?_ _ | refine grownBy_drew ?_ | refine grownBy_drewN ?_ _ | refine grownBy_setNew ?_ (by first | (simp; done) | omega | (simp; omega)) _)))
  · have he : en.key.toList.isEmpty = false := by assumption
    have hl : (en.key.size : Int) ≤ 255 := by assumption
    have HE := Lib.hid he
    have HLn := Lib.hid hl
    clear he hl
    go_quiet (fail)
    have Hb := Lib.hid (p := (Op.bytesLess en.key.toList pk.toList || en.key.toList == pk.toList) = ((some pk).map (leB en.key)).getD false) rfl
    generalize (Op.bytesLess en.key.toList pk.toList || en.key.toList == pk.toList) = bx at *
    have B1 : Blk (((w.alloc (.cells #[.int .u64 tot, .slice (some ⟨g, off, none⟩) es.length k1, .int .u64 un, .slice a2 vs.length k2] 68)).alloc (.cells #[.string en.key, .int .u64 en.own, .int .u64 en.slack] 77)).drewN nq) w.heap.size #[.int .u64 tot, .slice (some ⟨g, off, none⟩) es.length k1, .int .u64 un, .slice a2 vs.length k2] := (by repeat (first | exact Blk.new' _ _ _ (by simp) | refine Blk.same ?_ (World.grownBy_alloc _ _ _) | refine Blk.drew ?_ _ | refine Blk.drew1 ?_ | refine Blk.set_ (by assumption) _ _ rfl | refine Blk.off ?_ (by first | omega | (simp; done) | (simp; omega)) _ _ | assumption))
    have B2 : Blk (((w.alloc (.cells #[.int .u64 tot, .slice (some ⟨g, off, none⟩) es.length k1, .int .u64 un, .slice a2 vs.length k2] 68)).alloc (.cells #[.string en.key, .int .u64 en.own, .int .u64 en.slack] 77)).drewN nq) (w.heap.size + 1) #[.string en.key, .int .u64 en.own, .int .u64 en.slack] := (by repeat (first | exact Blk.new' _ _ _ (by simp) | refine Blk.same ?_ (World.grownBy_alloc _ _ _) | refine Blk.drew ?_ _ | refine Blk.drew1 ?_ | refine Blk.set_ (by assumption) _ _ rfl | refine Blk.off ?_ (by first | omega | (simp; done) | (simp; omega)) _ _ | assumption))
    have hg : w.grownBy (((w.alloc (.cells #[.int .u64 tot, .slice (some ⟨g, off, none⟩) es.length k1, .int .u64 un, .slice a2 vs.length k2] 68)).alloc (.cells #[.string en.key, .int .u64 en.own, .int .u64 en.slack] 77)).drewN nq) none := (by (repeat (first | exact grownBy_refl _ _ | assumption | refine grownBy_new_block ?_ _ | refine grownBy_drew ?_ | refine grownBy_drewN ?_ _ | refine grownBy_setNew ?_ (by first | (simp; done) | omega | (simp; omega)) _)))
    generalize ((w.alloc (.cells #[.int .u64 tot, .slice (some ⟨g, off, none⟩) es.length k1, .int .u64 un, .slice a2 vs.length k2] 68)).alloc (.cells #[.string en.key, .int .u64 en.own, .int .u64 en.slack] 77)).drewN nq = wq at *
    have b1 := B1.cell
    have b2 := B2.cell
    generalize w.heap.size = b at *
    clear c0 c1 c2 B1 B2
    cases bx
    · have HP := Lib.hid (p := ((some pk).map (leB en.key)).getD false = false) Hb.out.symm
      go_wp2_with (go_at_call 52; refine (satAdd_c _ _ _ h1 h2).mono ?_; rintro e w' ⟨rfl, rfl⟩)
      all_goals go_ret
      all_goals first
        | exact retInt (err_range HE.out HLn.out HP.out (Or.inl (by assumption))) hg
        | exact retInt (err_range HE.out HLn.out HP.out (Or.inr (sat_no Ht.out (by assumption)))) hg
        | exact retInt (err_range HE.out HLn.out HP.out (range_of (by assumption) (by assumption))) hg
        | exact retInt (err_ok HE.out HLn.out HP.out (by assumption) (sat_ok (by assumption) (And.right (by assumption)))) hg
    · have HP := Lib.hid (p := ((some pk).map (leB en.key)).getD false = true) Hb.out.symm
      go_wp2_with fail
      go_ret
      exact retInt (err_order HE.out HLn.out HP.out) hg
end Go.Proofs.Ytiagjiaahnkefaa

/- Which rows are valid: the program. -/
namespace Go.Proofs.Ytiagjiaahnkefaa
open Go.RowKit
attribute [local go_sem ↓] exec_load_cfg
attribute [local go_sem] run_loadCfgS

theorem gt_c (n t : Int) (b : Nat) (w : World) (hb : w.cell? ⟨b, 0, none⟩ = some (.int .u64 t)) (_ : b < w.heap.size) : Calls Try.prog 124 #[.int .u64 n, .pointer (some ⟨b, 0, none⟩)] w (RetBool (decide (t < n)) w) := by
  go_enter Try.func124, Try.ntmps124
  go_wp2
  go_ret
  exact retBool rfl (grownBy_refl _ _)
def gtF (t : Int) (row : List Int) : Bool := row.any fun n => decide (t < n)
theorem gtF_no {t : Int} {row : List Int} (h : ∀ j, (hj : j < row.length) → decide (t < row[j]) = false) : gtF t row = false := by
  unfold gtF; rw [List.any_eq_false]
  intro x hx
  obtain ⟨j, hj, rfl⟩ := List.mem_iff_getElem.1 hx
  simpa using h j hj
theorem gtF_yes {t : Int} {row : List Int} {j : Nat} (hj : j < row.length) (h : decide (t < row[j]) = true) : gtF t row = true := by
  unfold gtF; rw [List.any_eq_true]
  exact ⟨_, List.getElem_mem hj, h⟩
def IdxAny (b : Bool) (w : World) (e : Ending) (w' : World) : Prop := ∃ i : Int, e = .returned (.int .i64 i) ∧ decide (0 ≤ i) = b ∧ w.grownBy w' none
set_option maxHeartbeats 400000 in
theorem idxW_c (a : Option Addr) (cp : Nat) (row : List Int) (t : Int) (kb : Nat) (w : World) (h : RdL wordF 1 w (.slice a row.length cp) row) (hb : w.cell? ⟨kb, 0, none⟩ = some (.int .u64 t)) (hlt : kb < w.heap.size) :
    Calls Try.prog 139 #[.slice a row.length cp, .func (Fn.func 124) #[] #[.pointer (some ⟨kb, 0, none⟩)]] w (IdxAny (gtF t row) w) := by
  have H := Lib.hid h
  have hm := h.2.1
  have Hb := Lib.hid hb
  clear h hb
  go_enter Try.func139, Try.ntmps139
  go_wp2_with fail
  go_loopw [8] (fun s8 wr => ∃ j : Nat, j ≤ row.length ∧ s8 = .int .i64 j ∧ (∀ i, (hi : i < row.length) → i < j → decide (t < row[i]) = false) ∧ w.grownBy wr none) (fun s8 _ => row.length - (intOf s8).toNat)
  case atStart => exact ⟨0, Nat.zero_le _, rfl, by intro i _ h; omega, grownBy_refl _ _⟩
  case round =>
    obtain ⟨j, hj, rfl, hall, hg⟩ := hrel
    have Hall := Lib.hid hall
    clear hall
    by_cases hjl : j < row.length
    · obtain ⟨g, off, cap, hv, hgl, c0⟩ := (H.out.same hg).one word_one hjl
      cases hv
      have hkb : wr.cell? ⟨kb, 0, none⟩ = some (.int .u64 t) := ((grownBy_cells hg).1 kb 0 hlt (by simp)).trans Hb.out
      have hkl := Nat.lt_of_lt_of_le hlt hg.size
      cases hq : decide (t < row[j])
      · have Hq := Lib.hid hq
        have hf := gt_c row[j] t kb wr hkb hkl
        rw [hq] at hf
        clear hq hkb
        generalize hee : row[j] = x at hf c0
        clear hee
        go_wp2_with (go_at_call 124; refine hf.mono ?_; rintro e w2 ⟨rfl, G2⟩)
        refine ⟨⟨j + 1, by omega, by go_num, ?_, grownBy_trans hg G2⟩, by simp [intOf]; omega⟩
        intro i hi hij
        by_cases e : i = j
        · subst e; exact Hq.out
        · exact Hall.out i hi (by omega)
      · have Hq := Lib.hid (gtF_yes hjl hq)
        have hf := gt_c row[j] t kb wr hkb hkl
        rw [hq] at hf
        clear hq hkb
        generalize hee : row[j] = x at hf c0
        clear hee
        go_wp2_with (go_at_call 124; refine hf.mono ?_; rintro e w2 ⟨rfl, G2⟩)
        go_ret
        exact ⟨_, rfl, by rw [Hq.out]; exact decide_eq_true (by omega), grownBy_trans hg G2⟩
    · have Hq := Lib.hid (gtF_no (t := t) (row := row) fun i hi => Hall.out i hi (by omega))
      go_wp2_with fail
      go_ret
      exact ⟨_, rfl, by rw [Hq.out]; rfl, hg⟩
theorem hasW_c (a : Option Addr) (cp : Nat) (row : List Int) (t : Int) (kb : Nat) (w : World) (h : RdL wordF 1 w (.slice a row.length cp) row) (hb : w.cell? ⟨kb, 0, none⟩ = some (.int .u64 t)) (hlt : kb < w.heap.size) :
    Calls Try.prog 123 #[.slice a row.length cp, .func (Fn.func 124) #[] #[.pointer (some ⟨kb, 0, none⟩)]] w (RetBool (gtF t row) w) := by
  go_enter Try.func123, Try.ntmps123
  go_wp2_with (go_at_call 139; refine (idxW_c a cp row t kb _ h hb hlt).mono ?_; rintro e w2 ⟨i, rfl, hi, G2⟩)
  go_ret
  rw [← hi]
  exact retBool rfl G2

/-- The error of rows. -/
def badLen (n : Int) (rows : List (List Int)) : Bool := rows.any fun r => decide ((r.length : Int) ≠ n)
def badNum (t : Int) (rows : List (List Int)) : Bool := rows.any (gtF t)
def rowsErr (d n t : Int) (rows : List (List Int)) : Int := if rows.length = 0 then 0 else if (rows.length : Int) ≠ d then 3 else if badLen n rows then 3 else if badNum t rows then 1 else 0
theorem rows_0 {d n t : Int} {rows : List (List Int)} {m : Nat} (e : m = rows.length) (h : ((m : Int) == 0) = true) : rowsErr d n t rows = 0 := by
  have := beq_iff_eq.1 h
  unfold rowsErr; rw [if_pos (by omega)]
theorem rows_3 {d n t : Int} {rows : List (List Int)} {m : Nat} (e : m = rows.length) (h : ((m : Int) == 0) = false) (h2 : ((m : Int) != d) = true) : rowsErr d n t rows = 3 := by
  have := beq_eq_false_iff_ne.1 h
  have := bne_iff_ne.1 h2
  unfold rowsErr; rw [if_neg (by omega), if_pos (by omega)]
theorem rows_of {d n t : Int} {rows : List (List Int)} {m : Nat} (e : m = rows.length) (h : ((m : Int) == 0) = false) (h2 : ((m : Int) != d) = false) : rowsErr d n t rows = if badLen n rows then 3 else if badNum t rows then 1 else 0 := by
  have := beq_eq_false_iff_ne.1 h
  have := bne_eq_false_iff_eq.1 h2
  unfold rowsErr; rw [if_neg (by omega), if_neg (by omega)]
theorem any_no {α : Type} {p : α → Bool} {l : List α} (h : ∀ j, (hj : j < l.length) → p l[j] = false) : l.any p = false := by
  rw [List.any_eq_false]
  intro x hx
  obtain ⟨j, hj, rfl⟩ := List.mem_iff_getElem.1 hx
  simpa using h j hj
theorem any_yes {α : Type} {p : α → Bool} {l : List α} {j : Nat} (hj : j < l.length) (h : p l[j] = true) : l.any p = true := by
  rw [List.any_eq_true]
  exact ⟨_, List.getElem_mem hj, h⟩

set_option maxHeartbeats 1000000 in
set_option maxRecDepth 100000 in
theorem rows_c (c : Cfg) (s : Summ) (w : World) (hR : SumRd w s) (hc1 : s.rows.length ≤ 1000) (hc2 : ∀ r ∈ s.rows, r.length ≤ 9223372036854775807) :
    Calls Try.prog 109 #[c.val, sumV s.total s.ve s.untr s.vr] w (RetInt (rowsErr c.Depth c.Width s.total s.rows) w) := by
  obtain ⟨tot, ve, un, vr, es, vs, rows⟩ := s
  obtain ⟨a1, k1, e1⟩ := hR.es.shape
  obtain ⟨a2, k2, e2⟩ := hR.vs.shape
  have hlen := hR.len
  simp only at hlen e1 e2 hc1 hc2 ⊢
  subst e1
  subst e2
  have HR := Lib.hid hR.rowsRd
  have Hlen := Lib.hid hlen
  have Hc := Lib.hid hc2
  have hv2 : vs.length ≤ 1000 := by omega
  clear hR hlen hc2
  go_enter Try.func109, Try.ntmps109
  go_upto_region 1 with (refine box_cfg rfl _ rfl c rfl ?_; intro w1 B1 G1 z1)
  have B2 : Blk (w1.alloc (.cells #[.int .u64 tot, .slice a1 es.length k1, .int .u64 un, .slice a2 vs.length k2] 68)) w1.heap.size #[.int .u64 tot, .slice a1 es.length k1, .int .u64 un, .slice a2 vs.length k2] := (by repeat (first | exact Blk.new' _ _ _ (by simp) | refine Blk.same ?_ (World.grownBy_alloc _ _ _) | refine Blk.drew ?_ _ | refine Blk.drew1 ?_ | refine Blk.set_ (by assumption) _ _ rfl | refine Blk.off ?_ (by first | omega | (simp; done) | (simp; omega)) _ _ | assumption))
  have hg : w.grownBy (w1.alloc (.cells #[.int .u64 tot, .slice a1 es.length k1, .int .u64 un, .slice a2 vs.length k2] 68)) none := grownBy_new_block G1 _
  have BC : BoxAt (w1.alloc (.cells #[.int .u64 tot, .slice a1 es.length k1, .int .u64 un, .slice a2 vs.length k2] 68)) w.heap.size c := B1.same (World.grownBy_alloc _ _ _)
  generalize w1.alloc (.cells #[.int .u64 tot, .slice a1 es.length k1, .int .u64 un, .slice a2 vs.length k2] 68) = w2 at *
  clear G1 B1
  have b2 := B2.cell
  have bc := BC.cell
  generalize hbb : w1.heap.size = b at *
  generalize hcc : w.heap.size = cb at *
  go_wp2_with fail
  · have hz := rows_0 (d := c.Depth) (n := c.Width) (t := tot) Hlen.out (by assumption)
    go_ret
    exact retInt hz hg
  · have hz := rows_3 (d := c.Depth) (n := c.Width) (t := tot) Hlen.out (by assumption) (by assumption)
    go_ret
    exact retInt hz hg
  have HE := Lib.hid (rows_of (d := c.Depth) (n := c.Width) (t := tot) Hlen.out (by assumption) (by assumption))
  go_loopw [22] (fun s22 wr => ∃ j : Nat, j ≤ vs.length ∧ s22 = .int .i64 j ∧ (∀ i, (hi : i < rows.length) → i < j → decide ((rows[i].length : Int) ≠ c.Width) = false) ∧ w2 = wr) (fun s22 _ => vs.length - (intOf s22).toNat)
  case atStart => exact ⟨0, Nat.zero_le _, rfl, by intro i _ h; omega, rfl⟩
  case round =>
    obtain ⟨j, hj, rfl, hall, rfl⟩ := hrel
    have Hall := Lib.hid hall
    clear hall
    by_cases hjv : j < vs.length
    · have hjl : j < rows.length := by have := Hlen.out; omega
      obtain ⟨g, off, cap, hv, hgl, c1⟩ := (HR.out.same hg).rd.one val_one hjv
      cases hv
      have hrow := Hc.out _ (List.getElem_mem hjl)
      have hRR := (HR.out.same hg).all j vs[j] rows[j] (List.getElem?_eq_getElem hjv) (List.getElem?_eq_getElem hjl)
      have HN := Lib.hid (fun h : decide ((rows[j].length : Int) ≠ c.Width) = true => any_yes (p := fun r : List Int => decide ((r.length : Int) ≠ c.Width)) hjl h)
      have HY := Lib.hid (fun h : decide ((rows[j].length : Int) ≠ c.Width) = false => (fun i (hi : i < rows.length) (hij : i < j + 1) => by
        by_cases e : i = j
        · subst e; exact h
        · exact Hall.out i hi (by omega) : ∀ i, (hi : i < rows.length) → i < j + 1 → decide ((rows[i].length : Int) ≠ c.Width) = false))
      generalize vs[j] = u at *
      generalize rows[j] = row at *
      obtain ⟨ra, rc, rfl⟩ := hRR.shape
      clear hRR
      go_wp2_with fail
      · have h : ((row.length : Int) != c.Width) = true := by assumption
        have hb : badLen c.Width rows = true := HN.out (decide_eq_true (bne_iff_ne.1 h))
        have hz : rowsErr c.Depth c.Width tot rows = 3 := by rw [HE.out, if_pos hb]
        go_ret
        exact retInt hz hg
      · have h : ((row.length : Int) != c.Width) = false := by assumption
        exact ⟨⟨j + 1, by omega, by go_num, HY.out (decide_eq_false (fun e => e (bne_eq_false_iff_eq.1 h))), trivial⟩, by simp [intOf]; omega⟩
    · have hb : badLen c.Width rows = false := any_no fun i hi => Hall.out i hi (by have := Hlen.out; omega)
      have HE2 := Lib.hid (p := rowsErr c.Depth c.Width tot rows = if badNum tot rows then 1 else 0) (by rw [HE.out, if_neg (by rw [hb]; decide)])
      clear HE hb Hall
      go_wp2_with fail
      go_loopw [35] (fun s35 wr => ∃ j : Nat, j ≤ vs.length ∧ s35 = .int .i64 j ∧ (∀ i, (hi : i < rows.length) → i < j → gtF tot rows[i] = false) ∧ w2.grownBy wr none) (fun s35 _ => vs.length - (intOf s35).toNat)
      case atStart => exact ⟨0, Nat.zero_le _, rfl, by intro i _ h; omega, grownBy_refl _ _⟩
      case round =>
        clear hj hjv
        obtain ⟨j, hj, rfl, hall, hgr⟩ := hrel
        have Hall := Lib.hid hall
        clear hall
        have hgg := grownBy_trans hg hgr
        by_cases hjv : j < vs.length
        · have hjl : j < rows.length := by have := Hlen.out; omega
          obtain ⟨g, off, cap, hv, hgl, c1⟩ := (HR.out.same hgg).rd.one val_one hjv
          cases hv
          have hRR := (HR.out.same hgg).all j vs[j] rows[j] (List.getElem?_eq_getElem hjv) (List.getElem?_eq_getElem hjl)
          have HN := Lib.hid (fun h : gtF tot rows[j] = true => any_yes (p := gtF tot) hjl h)
          have HY := Lib.hid (fun h : gtF tot rows[j] = false => (fun i (hi : i < rows.length) (hij : i < j + 1) => by
            by_cases e : i = j
            · subst e; exact h
            · exact Hall.out i hi (by omega) : ∀ i, (hi : i < rows.length) → i < j + 1 → gtF tot rows[i] = false))
          generalize vs[j] = u at *
          generalize rows[j] = row at *
          obtain ⟨ra, rc, rfl⟩ := hRR.shape
          have B3 := B2.same hgr
          have b3 := B3.cell
          have hcall := hasW_c ra rc row tot b wr hRR (b3 0) B3.lt
          cases hq : gtF tot row
          · rw [hq] at hcall
            have Hq := Lib.hid (HY.out hq)
            clear hq HN HY hRR
            go_wp2_with (go_at_call 123; refine hcall.mono ?_; rintro e w5 ⟨rfl, G5⟩)
            exact ⟨⟨j + 1, by omega, by go_num, Hq.out, grownBy_trans hgr G5⟩, by simp [intOf]; omega⟩
          · rw [hq] at hcall
            have hbn : badNum tot rows = true := HN.out hq
            have Hq := Lib.hid (p := rowsErr c.Depth c.Width tot rows = 1) (by rw [HE2.out, if_pos hbn])
            clear hbn
            clear hq HN HY hRR
            go_wp2_with (go_at_call 123; refine hcall.mono ?_; rintro e w5 ⟨rfl, G5⟩)
            go_ret
            exact retInt Hq.out (grownBy_trans hgg G5)
        · have hb : badNum tot rows = false := any_no fun i hi => Hall.out i hi (by have := Hlen.out; omega)
          have hz : rowsErr c.Depth c.Width tot rows = 0 := by rw [HE2.out, if_neg (by rw [hb]; decide)]
          have Hz := Lib.hid hz
          clear hz hb
          go_wp2_with fail
          go_ret
          exact retInt Hz.out hgg
end Go.Proofs.Ytiagjiaahnkefaa

/- Which summaries are valid, and the error of others: the program. -/
namespace Go.Proofs.Ytiagjiaahnkefaa
open Go.RowKit
attribute [local go_sem ↓] exec_load_cfg
attribute [local go_sem] run_loadCfgS

/-- The first error of a list. -/
def fstN (l : List Int) : Int := (l.find? (fun x => decide (x ≠ 0))).getD 0
theorem fstN_at {l : List Int} {j : Nat} (hj : j < l.length) (h : ∀ i, (hi : i < l.length) → i < j → l[i] = 0) (h2 : l[j] ≠ 0) : fstN l = l[j] := by
  unfold fstN
  rw [(List.find?_eq_some_iff_getElem (p := fun x => decide (x ≠ 0)) (b := l[j])).2 ⟨by simpa using h2, j, hj, rfl, fun i hi => by simp [h i (by omega) hi]⟩]
  rfl
theorem fstN_no {l : List Int} (h : ∀ i, (hi : i < l.length) → l[i] = 0) : fstN l = 0 := by
  unfold fstN
  rw [List.find?_eq_none.2]
  · rfl
  · intro x hx
    obtain ⟨i, hi, rfl⟩ := List.mem_iff_getElem.1 hx
    simp [h i hi]
def prevK (es : List Ent) : Nat → Option ByteArray
  | 0 => none
  | m + 1 => es[m]?.map (·.key)
def errAt (tot : Int) (es : List Ent) (i : Nat) : Int := match es[i]? with
  | some e => entErr tot (prevK es i) e
  | none => 0
def entsErr (tot : Int) (es : List Ent) : Int := fstN ((List.range es.length).map (errAt tot es))
theorem ents_at {tot : Int} {es : List Ent} {j : Nat} (hj : j < es.length) (h : ∀ i, i < j → errAt tot es i = 0) (h2 : errAt tot es j ≠ 0) : entsErr tot es = errAt tot es j := by
  unfold entsErr
  rw [fstN_at (j := j) (by simpa using hj) (fun i hi hij => by simpa using h i hij) (by simpa using h2)]
  simp
theorem ents_no {tot : Int} {es : List Ent} (h : ∀ i, i < es.length → errAt tot es i = 0) : entsErr tot es = 0 := fstN_no fun i hi => by simpa using h i (by simpa using hi)
def ownF (es : List Ent) : Int := es.foldl (fun n e => satA n e.own) 0
theorem ownF_snoc (es : List Ent) (e : Ent) : ownF (es ++ [e]) = satA (ownF es) e.own := by simp [ownF]
def sumErr (d n : Int) (s : Summ) : Int := if 9223372036854775808 < s.total ∨ s.total < s.untr then 1 else if 96 < s.es.length then 7 else if entsErr s.total s.es ≠ 0 then entsErr s.total s.es else if s.total < ownF s.es then 12 else rowsErr d n s.total s.rows
/-- What the model has of a summary that is small. -/
structure SumSmall (s : Summ) : Prop where
  key : ∀ e ∈ s.es, e.key.size ≤ 9223372036854775807
  rows : s.rows.length ≤ 1000
  row : ∀ r ∈ s.rows, r.length ≤ 9223372036854775807

theorem entry_c (i : Nat) (s : Summ) (w : World) (hR : SumRd w s) (hW : SumW s) (hi : i < s.es.length) (hk : ∀ e ∈ s.es, e.key.size ≤ 9223372036854775807) (ht : s.total ≤ 9223372036854775808) :
    Calls Try.prog 108 #[sumV s.total s.ve s.untr s.vr, .int .i64 i] w (RetInt (errAt s.total s.es i) w) := by
  have he : errAt s.total s.es i = entErr s.total (prevK s.es i) s.es[i] := by
    unfold errAt; rw [List.getElem?_eq_getElem hi]
  rw [he]
  cases i with
  | zero => exact entry0_c s w hR hW hi hk ht
  | succ m =>
    have := entryS_c m s w hR hW hi hk ht
    have e : prevK s.es (m + 1) = some s.es[m].key := by simp [prevK, List.getElem?_eq_getElem (show m < s.es.length by omega)]
    rw [e]
    exact this
theorem own_max {a b : Int} (ha : 0 ≤ b) (h : a = 18446744073709551615) : satA a b = 18446744073709551615 := by unfold satA; split <;> omega
theorem own_max2 {a b : Int} (h : fitA a b = false) : satA a b = 18446744073709551615 := by
  unfold fitA at h; unfold satA; simp only [decide_eq_false_iff_not] at h; rw [if_neg h]
theorem sum_1 {d n : Int} {s : Summ} (h : 9223372036854775808 < s.total ∨ s.total < s.untr) : sumErr d n s = 1 := by unfold sumErr; rw [if_pos h]
theorem sum_7 {d n : Int} {s : Summ} (h : ¬(9223372036854775808 < s.total ∨ s.total < s.untr)) (h2 : (96 : Int) < s.es.length) : sumErr d n s = 7 := by unfold sumErr; rw [if_neg h, if_pos (by omega)]
theorem sum_of {d n : Int} {s : Summ} (h : ¬(9223372036854775808 < s.total ∨ s.total < s.untr)) (h2 : (s.es.length : Int) ≤ 96) :
    sumErr d n s = if entsErr s.total s.es ≠ 0 then entsErr s.total s.es else if s.total < ownF s.es then 12 else rowsErr d n s.total s.rows := by unfold sumErr; rw [if_neg h, if_neg (by omega)]

set_option maxHeartbeats 1000000 in
set_option maxRecDepth 100000 in
theorem scheck_c (c : Cfg) (s : Summ) (w : World) (hR : SumRd w s) (hW : SumW s) (hS : SumSmall s) :
    Calls Try.prog 81 #[c.val, sumV s.total s.ve s.untr s.vr] w (RetInt (sumErr c.Depth c.Width s) w) := by
  have HR := Lib.hid hR
  have HW := Lib.hid hW
  have HS := Lib.hid hS
  obtain ⟨a1, k1, e1⟩ := hR.es.shape
  obtain ⟨a2, k2, e2⟩ := hR.vs.shape
  have hm := hR.es.2.1
  have h1 : 9223372036854775808 < s.total ∨ s.total < s.untr → sumErr c.Depth c.Width s = 1 := sum_1
  have h7 : ¬(9223372036854775808 < s.total ∨ s.total < s.untr) → (96 : Int) < s.es.length → sumErr c.Depth c.Width s = 7 := sum_7
  have ho : ¬(9223372036854775808 < s.total ∨ s.total < s.untr) → (s.es.length : Int) ≤ 96 → sumErr c.Depth c.Width s = if entsErr s.total s.es ≠ 0 then entsErr s.total s.es else if s.total < ownF s.es then 12 else rowsErr c.Depth c.Width s.total s.rows := sum_of
  have He := Lib.hid fun (i : Nat) (hi : i < s.es.length) (ht : s.total ≤ 9223372036854775808) (w' : World) (hg : w.grownBy w' none) => entry_c i s w' (hR.same hg) hW hi hS.key ht
  have Hr := Lib.hid fun (w' : World) (hg : w.grownBy w' none) => rows_c c s w' (hR.same hg) hS.rows hS.row
  have Hes := Lib.hid hR.es
  have Hew := Lib.hid hW.es
  rw [e1] at He Hes Hr ⊢
  rw [e2] at He Hr ⊢
  have H1 := Lib.hid h1
  have H7 := Lib.hid h7
  have HO := Lib.hid ho
  clear hR hW hS h1 h7 ho e1 e2 HR HW HS
  generalize sumErr c.Depth c.Width s = SE at *
  generalize rowsErr c.Depth c.Width s.total s.rows = RE at *
  obtain ⟨tot, ve, un, vr, es, vs, rows⟩ := s
  simp only at *
  go_enter Try.func81, Try.ntmps81
  go_upto_region 1 with (refine box_cfg rfl _ rfl c rfl ?_; intro w1 B1 G1 z1)
  have B2 : Blk (w1.alloc (.cells #[.int .u64 tot, .slice a1 es.length k1, .int .u64 un, .slice a2 vs.length k2] 68)) w1.heap.size #[.int .u64 tot, .slice a1 es.length k1, .int .u64 un, .slice a2 vs.length k2] := (by repeat (first | exact Blk.new' _ _ _ (by simp) | refine Blk.same ?_ (World.grownBy_alloc _ _ _) | refine Blk.drew ?_ _ | refine Blk.drew1 ?_ | refine Blk.set_ (by assumption) _ _ rfl | refine Blk.off ?_ (by first | omega | (simp; done) | (simp; omega)) _ _ | assumption))
  have hg : w.grownBy (w1.alloc (.cells #[.int .u64 tot, .slice a1 es.length k1, .int .u64 un, .slice a2 vs.length k2] 68)) none := grownBy_new_block G1 _
  have BC : BoxAt (w1.alloc (.cells #[.int .u64 tot, .slice a1 es.length k1, .int .u64 un, .slice a2 vs.length k2] 68)) w.heap.size c := B1.same (World.grownBy_alloc _ _ _)
  generalize w1.alloc (.cells #[.int .u64 tot, .slice a1 es.length k1, .int .u64 un, .slice a2 vs.length k2] 68) = w2 at *
  clear G1 B1
  have b2 := B2.cell
  generalize hbb : w1.heap.size = b at *
  generalize hcc : w.heap.size = cb at *
  go_wp2_with fail
  rotate_right
  · go_ret
    exact retInt (H1.out (Or.inl (by assumption))) hg
  · go_ret
    exact retInt (H1.out (by assumption)) hg
  · go_ret
    exact retInt (H7.out (by omega) (by assumption)) hg
  have ht : tot ≤ 9223372036854775808 := by assumption
  have HE := Lib.hid (HO.out (by omega) (by assumption))
  have hl96 : (es.length : Int) ≤ 96 := by assumption
  clear H1 H7 HO
  go_loopw [5, 6, 28] (fun s5 s6 s28 wr => ∃ (j : Nat) (ok : Bool), j ≤ es.length ∧ s28 = .int .i64 j ∧ s5 = .int .u64 (ownF (es.take j)) ∧ s6 = .bool ok ∧ W64 (ownF (es.take j)) ∧ (ok = false → ownF (es.take j) = 18446744073709551615) ∧ (∀ i, i < j → errAt tot es i = 0) ∧ w2.grownBy wr none) (fun _ _ s28 _ => es.length - (intOf s28).toNat)
  case atStart => exact ⟨0, true, Nat.zero_le _, rfl, rfl, rfl, w64_0, by simp, by omega, grownBy_refl _ _⟩
  case round =>
    obtain ⟨j, ok, hj, rfl, rfl, rfl, hT, hok, hall, hgr⟩ := hrel
    have Hall := Lib.hid hall
    have Hok := Lib.hid hok
    clear hall hok
    have hgg := grownBy_trans hg hgr
    have BCr := BC.same hgr
    have B2r := B2.same hgr
    have b3 := B2r.cell
    have b4 := fun o => (B2r.same (World.grownBy_alloc wr o none)).cell
    by_cases hlt : j < es.length
    · obtain ⟨g, off, cap, hv, hgl, c0, c1, c2⟩ := (Hes.out.same hgg).ent hlt
      cases hv
      have HS := Lib.hid (take_succ hlt)
      have Hs := Lib.hid (ownF_snoc (es.take j) es[j])
      obtain ⟨hw1, hw2⟩ := Hew.out _ (List.getElem_mem hlt)
      have hcall := fun w' (h' : wr.grownBy w' none) => He.out j hlt ht w' (grownBy_trans hgg h')
      have hat := fun h => ents_at (tot := tot) hlt Hall.out h
      have hno := fun (h : errAt tot es j = 0) => (fun i (hi : i < j + 1) => by
        by_cases e : i = j
        · subst e; exact h
        · exact Hall.out i (by omega) : ∀ i, i < j + 1 → errAt tot es i = 0)
      generalize ownF (es.take j) = T at *
      generalize es[j] = en at *
      by_cases hz : errAt tot es j = 0
      · have Hno := Lib.hid (hno hz)
        rw [hz] at hcall
        have Hc := Lib.hid hcall
        clear hz hno hat hcall
        have hW2 := satA_w hT hw1
        have hf2 := Lib.hid (own_max2 (a := T) (b := en.own))
        have hf3 := Lib.hid fun e => own_max (a := T) (b := en.own) hw1.1 e
        go_wp2_with (first | (go_at_call 108; refine (Hc.out _ (by (repeat (first | exact grownBy_refl _ _ | assumption | refine grownBy_new_block ?_ _ | refine grownBy_drew ?_ | refine grownBy_drewN ?_ _ | refine grownBy_setNew ?_ (by first | (simp; done) | omega | (simp; omega)) _)))).mono ?_; rintro e w5 ⟨rfl, G5⟩; have ke := ((Blk.new wr #[.string en.key, .int .u64 en.own, .int .u64 en.slack] 77).same G5).cell) | (go_at_call 52; refine (satAdd_c _ _ _ hT hw1).mono ?_; rintro e w' ⟨rfl, rfl⟩))
        · exact ⟨⟨j + 1, fitA T en.own, by omega, by go_num, by rw [HS.out, Hs.out], rfl, by rw [HS.out, Hs.out]; exact hW2, by rw [HS.out, Hs.out]; exact hf2.out, Hno.out, grownBy_trans hgr (grownBy_trans (World.grownBy_alloc _ _ _) G5)⟩, by simp [intOf]; omega⟩
        · have hx := hf3.out (Hok.out (by first | assumption | (simp; assumption) | simp_all))
          exact ⟨⟨j + 1, false, by omega, by go_num, by rw [HS.out, Hs.out], rfl, by rw [HS.out, Hs.out]; exact hW2, by rw [HS.out, Hs.out]; exact fun _ => hx, Hno.out, grownBy_trans hgr (grownBy_trans (World.grownBy_alloc _ _ _) G5)⟩, by simp [intOf]; omega⟩
      · have Hq := Lib.hid (p := SE = errAt tot es j) (by rw [HE.out, hat hz, if_pos hz])
        have Hc := Lib.hid hcall
        clear hno hat hcall HE
        generalize errAt tot es j = ee at *
        have hz2 : (ee != 0) = true := bne_iff_ne.2 hz
        go_wp2_with (first | (go_at_call 108; refine (Hc.out _ (by (repeat (first | exact grownBy_refl _ _ | assumption | refine grownBy_new_block ?_ _ | refine grownBy_drew ?_ | refine grownBy_drewN ?_ _ | refine grownBy_setNew ?_ (by first | (simp; done) | omega | (simp; omega)) _)))).mono ?_; rintro e w5 ⟨rfl, G5⟩))
        go_ret
        exact retInt Hq.out (grownBy_trans hgg (grownBy_trans (World.grownBy_alloc _ _ _) G5))
    · have hl : es.take j = es := List.take_of_length_le (by omega)
      have hez : entsErr tot es = 0 := ents_no fun i hi => Hall.out i (by omega)
      have hSE : SE = if tot < ownF es then 12 else RE := by rw [HE.out, hez, if_neg (by decide)]
      have HSE := Lib.hid hSE
      have hok := Hok.out
      rw [hl] at hT hok ⊢
      have Hok2 := Lib.hid hok
      clear hl hez hSE HE Hall hok Hok
      generalize ownF es = T at *
      go_wp2_with (first | (refine load_cfg rfl _ rfl _ rfl c (by assumption) ?_) | (go_at_call 109; refine (Hr.out _ hgg).mono ?_; rintro e w5 ⟨rfl, G5⟩))
      · go_ret
        exact retInt (HSE.out.trans (if_pos (by assumption))) hgg
      · go_ret
        exact retInt (HSE.out.trans (if_neg (by omega))) (grownBy_trans hgg G5)
      · have h : ¬ok = true := by assumption
        have hx := Hok2.out (by simpa using h)
        go_ret
        exact retInt (HSE.out.trans (if_pos (by omega))) hgg
end Go.Proofs.Ytiagjiaahnkefaa

/- The entries that the deck makes are valid: plain laws. -/
namespace Go.Proofs.Ytiagjiaahnkefaa
open Go.RowKit

def keyS (n : Int) : ByteArray := ⟨#[UInt8.ofNat n.toNat]⟩
theorem keyS_list (n : Int) : (keyS n).toList = [UInt8.ofNat n.toNat] := by rw [ByteArray.toList_eq]; rfl
theorem keyS_lt {n m : Int} (h0 : 0 ≤ n) (h : n < m) (h1 : m ≤ 255) : leB (keyS m) (keyS n) = false := by
  have a : (UInt8.ofNat m.toNat).toNat = m.toNat := by rw [UInt8.toNat_ofNat']; omega
  have b : (UInt8.ofNat n.toNat).toNat = n.toNat := by rw [UInt8.toNat_ofNat']; omega
  unfold leB
  rw [keyS_list, keyS_list]
  have h2 : ¬ (UInt8.ofNat m.toNat < UInt8.ofNat n.toNat) := by rw [UInt8.lt_iff_toNat_lt, a, b]; omega
  have h3 : UInt8.ofNat m.toNat ≠ UInt8.ofNat n.toNat := by intro e; have := congrArg UInt8.toNat e; rw [a, b] at this; omega
  simp [Op.bytesLess, h2, h3]
structure EntsG (tot left key : Int) (es : List Ent) : Prop where
  err : ∀ i, i < es.length → errAt tot es i = 0
  own : ownF es = tot - left
  keys : ∀ e ∈ es, ∃ n, e.key = keyS n ∧ 97 ≤ n ∧ n ≤ key
  num : ∀ e ∈ es, W64 e.own ∧ W64 e.slack
  sum : ∀ e ∈ es, e.own + e.slack ≤ tot
theorem EntsG.nil (tot : Int) : EntsG tot tot 97 [] := ⟨by simp, by simp [ownF], by simp, by simp, by simp⟩
theorem EntsG.snoc {tot left key key2 own slack : Int} {es : List Ent} (h : EntsG tot left key es) (ht : tot ≤ 9223372036854775808) (hl : left ≤ tot) (hk0 : 97 ≤ key) (hk : key < key2) (hk2 : key2 ≤ 255)
    (ho : 1 ≤ own) (ho2 : own ≤ left) (hs : 0 ≤ slack) (hs2 : slack ≤ tot - own) : EntsG tot (left - own) key2 (es ++ [⟨keyS key2, own, slack⟩]) := by
  refine ⟨fun i hi => ?_, ?_, fun e he => ?_, fun e he => ?_, fun e he => ?_⟩
  · have hi' : i < es.length + 1 := by simpa using hi
    have hp : prevK (es ++ [⟨keyS key2, own, slack⟩]) i = prevK es i := by
      cases i with
      | zero => rfl
      | succ m => simp only [prevK]; rw [List.getElem?_append_left (by omega)]
    rcases Nat.lt_or_ge i es.length with h1 | h1
    · have := h.err i h1
      unfold errAt at this ⊢
      rw [hp, List.getElem?_append_left h1]
      exact this
    · obtain rfl : i = es.length := by omega
      unfold errAt
      rw [hp, List.getElem?_append_right (Nat.le_refl _), Nat.sub_self]
      show entErr tot (prevK es es.length) ⟨keyS key2, own, slack⟩ = 0
      refine err_ok (by simp [keyS_list]) (by show ((keyS key2).size : Int) ≤ 255; have : (keyS key2).size = 1 := rfl; omega) ?_ (by simp; omega) (by simp; omega)
      cases hl : es.length with
      | zero => rfl
      | succ m =>
        simp only [prevK]
        rw [List.getElem?_eq_getElem (by omega)]
        obtain ⟨n, h2, h3, h4⟩ := h.keys es[m] (List.getElem_mem _)
        simp only [Option.map_some, Option.getD_some]
        rw [h2]
        exact keyS_lt (by omega) (by omega) hk2
  · rw [ownF_snoc, h.own]
    unfold satA
    rw [if_pos (by simp; omega)]
    simp; omega
  · rcases List.mem_append.1 he with he | he
    · obtain ⟨n, h2, h3, h4⟩ := h.keys e he
      exact ⟨n, h2, h3, by omega⟩
    · obtain rfl := List.mem_singleton.1 he
      exact ⟨key2, rfl, by omega, Int.le_refl _⟩
  · rcases List.mem_append.1 he with he | he
    · exact h.num e he
    · obtain rfl := List.mem_singleton.1 he
      unfold W64
      simp only
      omega
  · rcases List.mem_append.1 he with he | he
    · exact h.sum e he
    · obtain rfl := List.mem_singleton.1 he
      simp only
      omega
/-- A summary of the deck's. -/
structure SummG (c : Cfg) (s : Summ) : Prop where
  err : sumErr c.Depth c.Width s = 0
  num : SumW s
  small : SumSmall s
  keys : ∀ e ∈ s.es, ∃ n, e.key = keyS n ∧ 97 ≤ n ∧ n ≤ 109
  few : s.es.length ≤ 4
  total : s.total * (2 * c.Shards) ≤ 9223372036854775808
  len : s.rows.length ≤ 4
  row : ∀ r ∈ s.rows, r.length ≤ 256
  pos : 0 ≤ s.total
  sum : ∀ e ∈ s.es, e.own + e.slack ≤ s.total
  un : s.untr ≤ s.total
  wid : ∀ r ∈ s.rows, (r.length : Int) = c.Width
theorem summG {c : Cfg} {tot left key un : Int} {es : List Ent} {ve vr : Value} {vs : List Value} {rows : List (List Int)} (h : EntsG tot left key es) (h0 : 0 ≤ tot) (ht : tot * (2 * c.Shards) ≤ 9223372036854775808) (hsh : 1 ≤ c.Shards) (hle : 0 ≤ left) (hlen : es.length ≤ 4) (hkey : key ≤ 109) (hu : 0 ≤ un) (hu2 : un ≤ tot)
    (hd : 0 ≤ c.Depth ∧ c.Depth ≤ 4) (hw : 0 ≤ c.Width ∧ c.Width ≤ 256) (hr : rows = [] ∨ (rows.length : Int) = c.Depth ∧ ∀ r ∈ rows, (r.length : Int) = c.Width ∧ ∀ x ∈ r, 0 ≤ x ∧ x ≤ tot) : SummG c ⟨tot, ve, un, vr, es, vs, rows⟩ := by
  have ht2 : tot ≤ 9223372036854775808 := by
    have h1 : tot * 1 ≤ tot * (2 * c.Shards) := Int.mul_le_mul_of_nonneg_left (by omega) h0
    omega
  have hrow : ∀ r ∈ rows, (r.length : Int) = c.Width ∧ ∀ x ∈ r, 0 ≤ x ∧ x ≤ tot := by
    rcases hr with rfl | hr
    · simp
    · exact hr.2
  have hrl : rows.length ≤ 4 := by
    rcases hr with rfl | hr
    · simp
    · omega
  have hre : rowsErr c.Depth c.Width tot rows = 0 := by
    unfold rowsErr
    by_cases e : rows.length = 0
    · rw [if_pos e]
    · rw [if_neg e]
      rcases hr with rfl | hr
      · exact absurd rfl e
      · rw [if_neg (by omega)]
        have h1 : badLen c.Width rows = false := any_no fun j hj => by
          have := (hr.2 _ (List.getElem_mem hj)).1
          simp [this]
        have h2 : badNum tot rows = false := any_no fun j hj => gtF_no fun i hi => by
          have := ((hr.2 _ (List.getElem_mem hj)).2 _ (List.getElem_mem hi)).2
          simp; omega
        rw [h1, h2]; rfl
  have hW : ∀ x : Int, 0 ≤ x → x ≤ tot → W64 x := fun x a b => by unfold W64; omega
  refine ⟨?_, ⟨hW _ h0 (Int.le_refl _), hW _ hu hu2, h.num, fun r hr x hx => hW _ ((hrow r hr).2 x hx).1 ((hrow r hr).2 x hx).2⟩, ⟨fun e he => ?_, by show rows.length ≤ 1000; omega, fun r hr => by have := (hrow r hr).1; omega⟩,
    fun e he => ?_, hlen, ht, hrl, fun r hr => by have := (hrow r hr).1; omega, h0, h.sum, hu2, fun r hr => (hrow r hr).1⟩
  · unfold sumErr
    simp only
    rw [if_neg (by omega), if_neg (by omega), ents_no h.err]
    simp only [ne_eq, not_true, if_false]
    rw [h.own, if_neg (by omega), hre]
  · obtain ⟨n, h2, _⟩ := h.keys e he
    rw [h2]; show (1 : Nat) ≤ _; omega
  · obtain ⟨n, h2, h3, h4⟩ := h.keys e he
    exact ⟨n, h2, h3, by omega⟩
end Go.Proofs.Ytiagjiaahnkefaa

/- What the references say of a valid configuration: Config, Tracked. -/
namespace Go.Proofs.Ytiagjiaahnkefaa
open Go.RowKit

@[go_sem] theorem run_max_int4 {P : Program} (w : World) (ts : Array TypeId) (t : TypeId) (k k' k'' k3 : IntKind) (x y z u : Int) : (Builtin.max_ ts t #[.int k x, .int k' y, .int k'' z, .int k3 u]).run P w = .ok (.int k (max (max (max x y) z) u)) w := by
  have e : ∀ a b : Int, (if b > a then b else a) = max a b := fun a b => by
    rw [Int.max_def]; split <;> split <;> omega
  simp [Builtin.max_, Builtin.max2, e]

set_option maxHeartbeats 1000000 in
set_option maxRecDepth 100000 in
theorem rconfig_c (c : Cfg) (l : List (Int × Int)) (t : List Int) (w : World) (hn : CfgNums c) (hm : CfgMem c l t w) (hc : CfgCls c l) :
    Calls Try.prog 100 #[c.val] w fun e w' => e = .returned (.int .i64 0) ∧ w.grownBy w' none := by
  obtain ⟨a1, a2⟩ := hn.queue
  obtain ⟨a3, a4⟩ := hn.slots
  obtain ⟨a5, a6⟩ := hn.exact
  obtain ⟨a7, a8⟩ := hn.depth
  obtain ⟨a9, a10⟩ := hn.width
  obtain ⟨a11, a12⟩ := hn.top
  obtain ⟨a13, a14⟩ := hn.key
  have b1 : decide (c.Queue < 1) = false := decide_eq_false (by omega)
  have b2 : decide (64 < c.Queue) = false := decide_eq_false (by omega)
  have b3 : decide (c.Slots < 1) = false := decide_eq_false (by omega)
  have b4 : decide (64 < c.Slots) = false := decide_eq_false (by omega)
  have b5 : decide (c.Exact < 0) = false := decide_eq_false (by omega)
  have b6 : decide (32 < c.Exact) = false := decide_eq_false (by omega)
  have b7 : decide (c.Depth < 1) = false := decide_eq_false (by omega)
  have b8 : decide (4 < c.Depth) = false := decide_eq_false (by omega)
  have b9 : decide (c.Width < 1) = false := decide_eq_false (by omega)
  have b10 : decide (256 < c.Width) = false := decide_eq_false (by omega)
  have b11 : decide (c.Top < 1) = false := decide_eq_false (by omega)
  have b12 : decide (64 < c.Top) = false := decide_eq_false (by omega)
  have b13 : decide (c.Key < 1) = false := decide_eq_false (by omega)
  have b14 : decide (255 < c.Key) = false := decide_eq_false (by omega)
  have hp := hc.ok.pos
  obtain ⟨g, off, cap, hv, hgl, hcl⟩ := hm.classes.cell clsF_len hp
  obtain ⟨p, hlast⟩ : ∃ p, l[l.length - 1]? = some p := ⟨l[l.length - 1], List.getElem?_eq_getElem (by omega)⟩
  have c0 : w.cell? ⟨g, off + (l.length - 1) * 2, none⟩ = some (.int .i64 p.1) := hcl _ p hlast 0 _ rfl
  obtain ⟨q1, q2, q3⟩ := hc.last p hlast
  have e1 : ((l.length : Int) - 1).toNat = l.length - 1 := by omega
  have e2 : (1 : Int) ≤ l.length := by omega
  have e3 : (0 : Int) ≤ (l.length : Int) - 1 := by omega
  have e4 : 1 ≤ l.length := hp
  have e5 : l.length ≤ 8 := hc.ok.len
  have b15 : decide (p.1 < max (max (max (8 * c.Width) 32) 24) c.Key) = false := decide_eq_false (by omega)
  have Hn := Lib.hid hn
  have Hm := Lib.hid hm
  have Hc := Lib.hid hc
  have Hv := Lib.hid hv
  have Hmode := Lib.hid hn.mode
  have hpos := Lib.hid hp
  clear hn hm hc hcl hlast hv a1 a2 a3 a4 a5 a6 a7 a8 a11 a12
  have am : ∃ m1 m2, (c.Mode != 1) = m1 ∧ (c.Mode != 2) = m2 ∧ (m1 && m2) = false := by
    refine ⟨_, _, rfl, rfl, ?_⟩
    rcases Hmode.out with h | h <;> simp [h]
  obtain ⟨m1, m2, am1, am2, am3⟩ := am
  cases m1 <;> cases m2
  case true.true => simp at am3
  all_goals
    clear am3
    go_enter Try.func100, Try.ntmps100
    go_upto_region 1 with (refine box_cfg rfl _ rfl c rfl ?_; intro w1 B1 G1 z1)
    simp only [List.append_eq, List.cons_append, List.nil_append]
    go_wp2_with (first | (refine box_cfg rfl _ rfl c rfl ?_; intro w1 B1 G1 z1) | (refine load_cfg rfl _ rfl _ rfl c (by assumption) ?_) | (refine load_cfg_if rfl _ rfl _ rfl c (by assumption) ?_) | (go_at_call 119; refine (rclock_c c _ Hn.out).mono ?_; rintro e w2 ⟨rfl, G2⟩; have B2 := B1.same G2; have K2 := grownBy_trans G1 G2; clear B1 G1 G2) | (go_at_call 82; refine (routes_c c l t _ Hn.out (Hm.out.same K2)).mono ?_; rintro e w3 ⟨rfl, G3⟩; have B3 := B2.same G3; have K3 := grownBy_trans K2 G3; have hb3 := B3.cell; clear B2 G3 K2) | (go_at_call 120; refine (classes_c _ l _ (Hm.out.same K3).classes Hc.out.ok).mono ?_; rintro e w4 ⟨rfl, G4⟩; have hb4 := (B3.same G4).cell; have K4 := Lib.hid (grownBy_trans K3 G4); simp only [Cfg.arr, Hv.out] at hb4; have hc4 := ((grownBy_cells K4.out).1 _ (off + (l.length - 1) * 2) hgl (by simp)).trans c0; clear hb3 B3 G4 K3))
    go_ret
    exact ⟨rfl, K4.out⟩

set_option maxHeartbeats 1000000 in
theorem tracked_c (c : Cfg) (l : List (Int × Int)) (t : List Int) (w : World) (hn : CfgNums c) (hm : CfgMem c l t w) (hc : CfgCls c l) :
    Calls Try.prog 102 #[c.val] w fun e w' => e = .returned (.int .i64 (c.Shards * c.Windows * (c.Slots + c.Exact))) ∧ w.grownBy w' none := by
  obtain ⟨a1, a2⟩ := hn.shards
  obtain ⟨a3, a4⟩ := hn.windows
  obtain ⟨a5, a6⟩ := hn.slots
  obtain ⟨a7, a8⟩ := hn.exact
  have m1 : c.Shards * c.Windows ≤ 64 := by
    have := Int.mul_le_mul a2 a4 (by omega) (by omega); simpa using this
  have m0 : 0 ≤ c.Shards * c.Windows := Int.mul_nonneg (by omega) (by omega)
  have m2 : c.Shards * c.Windows * (c.Slots + c.Exact) ≤ 6144 := by
    have := Int.mul_le_mul m1 (show c.Slots + c.Exact ≤ 96 by omega) (by omega) (by omega); simpa using this
  have m3 : 0 ≤ c.Shards * c.Windows * (c.Slots + c.Exact) := Int.mul_nonneg m0 (by omega)
  have Hn := Lib.hid hn
  have Hm := Lib.hid hm
  have Hc := Lib.hid hc
  clear hn hm hc
  go_enter Try.func102, Try.ntmps102
  go_wp2_with (first | (refine box_cfg rfl _ rfl c rfl ?_; intro w1 B1 G1 z1) | (refine load_cfg rfl _ rfl _ rfl c (by assumption) ?_) | (go_at_call 100; refine (rconfig_c c l t _ Hn.out (Hm.out.same G1) Hc.out).mono ?_; rintro e w2 ⟨rfl, G2⟩; have hb2 := (BoxAt.same (by assumption) G2).cell))
  go_ret
  exact ⟨rfl, grownBy_trans G1 G2⟩
end Go.Proofs.Ytiagjiaahnkefaa

/- The demand of a configuration, as it is specified: what it leaves, its numbers not said. -/
namespace Go.Proofs.Ytiagjiaahnkefaa
open Go.RowKit

/-- What Demand leaves (its numbers are not said here). -/
def DemandPost (n : Nat) (w : World) (e : Ending) (w' : World) : Prop :=
  ∃ B out, e = .returned (.tuple #[.slice (some ⟨B, 0, none⟩) n n, .int .i64 0]) ∧ w.heap.size ≤ B ∧ OutAt w' B out ∧ out.length = n ∧ w.grownBy w' none

structure DemSt (c : Cfg) (n : Nat) (w : World) (B : Nat) (wx : World) : Prop where
  box : BoxAt wx w.heap.size c
  out : ∃ out, OutAt wx B out ∧ out.length = n
  grown : w.grownBy wx none
  lt : w.heap.size < B
theorem DemSt.set {c : Cfg} {n : Nat} {w : World} {B : Nat} {wx : World} (h : DemSt c n w B wx) (k : Nat) (x : Int) : DemSt c n w B (wx.setCell ⟨B, k, none⟩ (.int .i64 x)) := by
  obtain ⟨out, ho, hl⟩ := h.out
  refine ⟨h.box.kept (grownBy_set (grownBy_refl wx _) k _) (by have := h.lt; simp; omega), ⟨_, ho.set k x, by simpa using hl⟩, grownBy_setNew h.grown (Nat.le_of_lt h.lt) _, h.lt⟩
theorem DemSt.drew {c : Cfg} {n : Nat} {w : World} {B : Nat} {wx : World} (h : DemSt c n w B wx) : DemSt c n w B wx.drew := ⟨⟨h.box.block⟩, h.out, grownBy_drew h.grown, h.lt⟩
theorem DemSt.same {c : Cfg} {n : Nat} {w : World} {B : Nat} {wx wy : World} (h : DemSt c n w B wx) (hg : wx.grownBy wy none) : DemSt c n w B wy := by
  obtain ⟨out, ho, hl⟩ := h.out
  exact ⟨h.box.same hg, ⟨out, ho.kept hg (by simp), hl⟩, grownBy_trans h.grown hg, h.lt⟩

theorem DemSt.cell {c : Cfg} {n : Nat} {w : World} {B : Nat} {wx : World} (h : DemSt c n w B wx) {k : Nat} (hk : k < n) : ∃ x, wx.cell? ⟨B, k, none⟩ = some (.int .i64 x) := by
  obtain ⟨out, ho, hl⟩ := h.out
  exact ⟨_, ho.cell (by omega)⟩
theorem DemSt.free {c : Cfg} {n : Nat} {w : World} {B : Nat} {wx : World} (h : DemSt c n w B wx) (k : Nat) : wx.frozen? ⟨B, k, none⟩ = false := by
  obtain ⟨out, ho, hl⟩ := h.out
  exact ho.free k
theorem DemSt.bLt {c : Cfg} {n : Nat} {w : World} {B : Nat} {wx : World} (h : DemSt c n w B wx) : B < wx.heap.size := by
  obtain ⟨out, ho, hl⟩ := h.out
  exact ho.lt
theorem keepS {c : Cfg} {n : Nat} {w : World} {B k : Nat} {x : Value} {w1 w2 : World} (hg : w1.grownBy w2 none) (h2 : DemSt c n w B w1) (h1 : w1.cell? ⟨B, k, none⟩ = some x) :
    w2.cell? ⟨B, k, none⟩ = some x ∧ w2.frozen? ⟨B, k, none⟩ = false ∧ isCfg w2 w.heap.size = true ∧ readCfg w2 w.heap.size = c.val ∧ DemSt c n w B w2 :=
  ⟨((grownBy_cells hg).1 B k h2.bLt (by simp)).trans h1, (h2.same hg).free k, (h2.same hg).box.is, (h2.same hg).box.reads, h2.same hg⟩

theorem keepH {c : Cfg} {n : Nat} {w : World} {B k : Nat} {x : Value} {w1 w2 : World} (hg : w1.grownBy w2 none)
    (h : w1.cell? ⟨B, k, none⟩ = some x ∧ w1.frozen? ⟨B, k, none⟩ = false ∧ isCfg w1 w.heap.size = true ∧ readCfg w1 w.heap.size = c.val ∧ DemSt c n w B w1) :
    w2.cell? ⟨B, k, none⟩ = some x ∧ w2.frozen? ⟨B, k, none⟩ = false ∧ isCfg w2 w.heap.size = true ∧ readCfg w2 w.heap.size = c.val ∧ DemSt c n w B w2 :=
  keepS hg h.2.2.2.2 h.1
theorem grownH {c : Cfg} {n : Nat} {w : World} {B : Nat} {w1 : World} {p q r s : Prop} (h : p ∧ q ∧ r ∧ s ∧ DemSt c n w B w1) : w.grownBy w1 none := h.2.2.2.2.grown

attribute [local go_sem ↓] exec_load_cfg
attribute [local go_sem] run_loadCfgS

set_option maxHeartbeats 1000000 in
set_option maxRecDepth 100000 in
theorem demand_c (c : Cfg) (l : List (Int × Int)) (t : List Int) (w : World) (hn : CfgNums c) (hm : CfgMem c l t w) (hc : CfgCls c l) :
    Calls Try.prog 69 #[c.val] w (DemandPost l.length w) := by
  obtain ⟨a11, a12⟩ := hn.width
  have hp : 0 < l.length := hc.ok.pos
  have hp8 : l.length ≤ 8 := hc.ok.len
  obtain ⟨g, off, cap, hv, hgl, hcl⟩ := hm.classes.cell clsF_len hp
  have k1 := fitI_lt (8 * c.Width) hp
  have k2 := fitI_lt 32 hp
  have k3 := fitI_lt 24 hp
  have Hn := Lib.hid hn
  have Hm := Lib.hid hm
  have Hc := Lib.hid hc
  have Hv := Lib.hid hv
  have HR : Hid (∀ w', w.grownBy w' none → RdL clsF 2 w' (.slice (some ⟨g, off, none⟩) l.length cap) l) := Lib.hid fun w' hg => by rw [← hv]; exact (hm.same hg).classes
  have hmk := make_ints l.length (by omega)
  clear hn hm hc hcl hv
  go_enter Try.func69, Try.ntmps69
  go_upto_region 6 with (first | (refine box_cfg rfl _ rfl c rfl ?_; intro w1 B1 G1 z1) | (refine load_cfg rfl _ rfl _ rfl c (by assumption) ?_) | (go_at_call 100; refine (rconfig_c c l t _ Hn.out (Hm.out.same G1) Hc.out).mono ?_; rintro e w2 ⟨rfl, G2⟩; have B2 := B1.same G2; have K2 := grownBy_trans G1 G2; have hb2 := B2.cell; simp only [Cfg.arr, Hv.out] at hb2; have z2 := Nat.lt_of_lt_of_le z1 G2.size; clear G1 G2 B1 z1) | (go_at_call 101; refine (fit_c _ l _ _ (HR.out _ (grownBy_trans K2 (World.grownBy_alloc w2 _ _)))).mono ?_; rintro e w3 ⟨rfl, G3⟩; have B3 := (B2.same (World.grownBy_alloc w2 _ _)).same G3; have O3 := Lib.hid ((OutAt.new w2 l.length).kept G3 (by simp)); have K3 := grownBy_trans (grownBy_trans K2 (World.grownBy_alloc w2 _ _)) G3; have hb3 := B3.cell; simp only [Cfg.arr, Hv.out] at hb3; clear hb2 G3 B2))
  obtain ⟨B, hB⟩ : ∃ B, B = w2.heap.size := ⟨_, rfl⟩
  have S3 : DemSt c l.length w B w3 := ⟨B3, ⟨_, by rw [hB]; exact O3.out, by simp⟩, K3, by rw [hB]; exact z2⟩
  have oc := (O3.out.cell (k := fitI l (8 * c.Width)) (by simpa using k1))
  have of := O3.out.free (fitI l (8 * c.Width))
  have ok : (0 : Int) ≤ (fitI l (8 * c.Width) : Nat) := by omega
  have ok' : ((fitI l (8 * c.Width) : Nat) : Int) < l.length := by omega
  rw [← hB] at oc of
  rw [← hB]
  clear hmk B3 O3 K3 hB
  go_cut [5] (fun s5 wx => s5 = .slice (some ⟨B, 0, none⟩) l.length l.length ∧ DemSt c l.length w B wx)
  case first =>
    go_still_tail 14, (by kernel_rfl)
    go_wp2_with fail
    go_meet
    exact ⟨rfl, S3.drew.set _ _⟩
  case rest =>
    obtain ⟨rfl, S4⟩ := hcut
    clear hb3
    have hb4 := S4.box.cell
    simp only [Cfg.arr, Hv.out] at hb4
    go_upto_region 8 with (go_at_call 101; refine (fit_c _ l _ _ (HR.out _ S4.grown)).mono ?_; rintro e w5 ⟨rfl, G5⟩; have S5 := S4.same G5; clear G5 hb4)
    go_cut [5] (fun s5 wx => s5 = .slice (some ⟨B, 0, none⟩) l.length l.length ∧ DemSt c l.length w B wx)
    case first =>
      obtain ⟨x5, hx5⟩ := S5.cell k2
      have hk2 : (0 : Int) ≤ (fitI l 32 : Nat) := by omega
      have hk2' : ((fitI l 32 : Nat) : Int) < l.length := by omega
      obtain ⟨r1, r2, r3⟩ := S5.box.re
      have r4 := cell_regrown hx5
      have r5 := call_re (w := w5) fun w' hg => tracked_c c l t w' Hn.out (Hm.out.same (grownBy_trans S5.grown hg)) Hc.out
      refine Tail.wp_region_tail_grown 8 (by kernel_rfl) (by kernel_rfl) ?_
      simp only [List.take, List.drop]
      repeat (go_big_quiet_step (exact r5 _ _))
      refine wpQuiet_nil ?_
      rintro _ ⟨⟨d5, os5⟩, rfl⟩
      have S5' := S5.same (grown_re w5 d5 os5)
      have hx5' := S5'.cell k2
      have hf5 := S5'.free (fitI l 32)
      clear r1 r2 r3 r4 r5
      generalize Go.Sort.grow (redrawn w5 d5) os5 = w6 at *
      obtain ⟨x6, hx6⟩ := hx5'
      go_wp2_with fail
      go_meet
      exact ⟨rfl, DemSt.set (by assumption) _ _⟩
    case rest =>
      obtain ⟨rfl, S6⟩ := hcut
      have hb6 := S6.box.cell
      simp only [Cfg.arr, Hv.out] at hb6
      go_upto_region 10 with (go_at_call 101; refine (fit_c _ l _ _ (HR.out _ S6.grown)).mono ?_; rintro e w7 ⟨rfl, G7⟩; have S7 := S6.same G7; clear G7 hb6)
      go_cut [5] (fun s5 wx => s5 = .slice (some ⟨B, 0, none⟩) l.length l.length ∧ DemSt c l.length w B wx)
      case first =>
        obtain ⟨x7, hx7⟩ := S7.cell k3
        have hk3 : (0 : Int) ≤ (fitI l 24 : Nat) := by omega
        have hk3' : ((fitI l 24 : Nat) : Int) < l.length := by omega
        have hf7 := S7.free (fitI l 24)
        have hb7 := S7.box.cell
        go_still_tail 11, (by kernel_rfl)
        go_wp2_with fail
        go_meet
        exact ⟨rfl, S7.drew.set _ _⟩
      case rest =>
        obtain ⟨rfl, S8⟩ := hcut
        obtain ⟨y1, y2⟩ := Hn.out.key
        go_wp2_with fail
        go_loopw [12, 13] (fun s12 s13 wr => ∃ (k : Nat) (la : Int), s13 = .int .i64 k ∧ s12 = .int .i64 la ∧ (k : Int) ≤ c.Key + 1 ∧ DemSt c l.length w B wr) (fun _ s13 _ => (c.Key + 1 - intOf s13).toNat)
        case atStart => exact ⟨1, -1, rfl, rfl, by omega, S8⟩
        case round =>
          obtain ⟨k, la, rfl, rfl, hk, S9⟩ := hrel
          have hb9 := S9.box.cell
          simp only [Cfg.arr, Hv.out] at hb9
          have kk := fitI_lt (l := l) (k : Int) hp
          by_cases hlt : (k : Int) ≤ c.Key
          · cases hq : ((fitI l (k : Int) : Int) != la)
            · go_wp2_with (go_at_call 101; refine (fit_c _ l _ _ (HR.out _ S9.grown)).mono ?_; rintro e w10 ⟨rfl, G10⟩)
              exact ⟨⟨k + 1, la, by go_num, rfl, by omega, S9.same G10⟩, by simp [intOf]; omega⟩
            · go_wp2_with (go_at_call 101; refine (fit_c _ l _ _ (HR.out _ S9.grown)).mono ?_; rintro e w10 ⟨rfl, G10⟩; have S10 := S9.same G10; clear G10 hb9)
              obtain ⟨x10, hx10⟩ := S10.cell kk
              have hk4 : (0 : Int) ≤ (fitI l (k : Int) : Nat) := by omega
              have hk4' : ((fitI l (k : Int) : Nat) : Int) < l.length := by omega
              obtain ⟨r1, r2, r3⟩ := S10.box.re
              have r4 := cell_regrown hx10
              have r5 := call_re (w := w10) fun w' hg => tracked_c c l t w' Hn.out (Hm.out.same (grownBy_trans S10.grown hg)) Hc.out
              refine Tail.wp_region_tail_grown 14 (by kernel_rfl) (by kernel_rfl) ?_
              simp only [List.take, List.drop]
              repeat (go_big_quiet_step (exact r5 _ _))
              refine wpQuiet_nil ?_
              rintro _ ⟨⟨d5, os5⟩, rfl⟩
              have S10' := S10.same (grown_re w10 d5 os5)
              have hx10' := S10'.cell kk
              have hf10 := S10'.free (fitI l (k : Int))
              clear r1 r2 r3 r4 r5 hx10
              generalize Go.Sort.grow (redrawn w10 d5) os5 = w11 at *
              obtain ⟨x11, hx11⟩ := hx10'
              go_wp2_with fail
              refine ⟨⟨k + 1, _, by go_num, rfl, by omega, S10'.set _ _⟩, ?_⟩
              simp [intOf]; omega
          · go_wp2_with fail
            go_ret2
            obtain ⟨out, ho, hl⟩ := S9.out
            exact ⟨B, out, rfl, Nat.le_of_lt S9.lt, ho, hl, S9.grown⟩
end Go.Proofs.Ytiagjiaahnkefaa
