/- Which rows are valid: the program. -/
import Derived.Test.YtiagjiaahnkefaaChk
namespace Go.Proofs.Ytiagjiaahnkefaa
open Go.RowKit
attribute [local go_sem ↓] exec_load_cfg
attribute [local go_sem] run_loadCfgS

theorem gt_c (n t : Int) (b : Nat) (w : World) (hb : w.cell? ⟨b, 0, none⟩ = some (.int .u64 t)) (_ : b < w.heap.size) : Calls Try.prog 124 #[.int .u64 n, .pointer (some ⟨b, 0, none⟩)] w (RetBool (decide (t < n)) w) := by
  go_enter Try.func124, Try.ntmps124
  go_wp2
  go_ret
  exact retBool rfl (grownBy_refl _ _)
def gtF (t : Int) (row : List Int) : Bool := row.any fun n => decide (t < n)
theorem gtF_no {t : Int} {row : List Int} (h : ∀ j, (hj : j < row.length) → decide (t < row[j]) = false) : gtF t row = false := by
  unfold gtF; rw [List.any_eq_false]
  intro x hx
  obtain ⟨j, hj, rfl⟩ := List.mem_iff_getElem.1 hx
  simpa using h j hj
theorem gtF_yes {t : Int} {row : List Int} {j : Nat} (hj : j < row.length) (h : decide (t < row[j]) = true) : gtF t row = true := by
  unfold gtF; rw [List.any_eq_true]
  exact ⟨_, List.getElem_mem hj, h⟩
def IdxAny (b : Bool) (w : World) (e : Ending) (w' : World) : Prop := ∃ i : Int, e = .returned (.int .i64 i) ∧ decide (0 ≤ i) = b ∧ w.grownBy w' none
set_option maxHeartbeats 400000 in
theorem idxW_c (a : Option Addr) (cp : Nat) (row : List Int) (t : Int) (kb : Nat) (w : World) (h : RdL wordF 1 w (.slice a row.length cp) row) (hb : w.cell? ⟨kb, 0, none⟩ = some (.int .u64 t)) (hlt : kb < w.heap.size) :
    Calls Try.prog 139 #[.slice a row.length cp, .func (Fn.func 124) #[] #[.pointer (some ⟨kb, 0, none⟩)]] w (IdxAny (gtF t row) w) := by
  have H := Lib.hid h
  have hm := h.2.1
  have Hb := Lib.hid hb
  clear h hb
  go_enter Try.func139, Try.ntmps139
  go_wp2_with fail
  go_loopw [8] (fun s8 wr => ∃ j : Nat, j ≤ row.length ∧ s8 = .int .i64 j ∧ (∀ i, (hi : i < row.length) → i < j → decide (t < row[i]) = false) ∧ w.grownBy wr none) (fun s8 _ => row.length - (intOf s8).toNat)
  case atStart => exact ⟨0, Nat.zero_le _, rfl, by intro i _ h; omega, grownBy_refl _ _⟩
  case round =>
    obtain ⟨j, hj, rfl, hall, hg⟩ := hrel
    have Hall := Lib.hid hall
    clear hall
    by_cases hjl : j < row.length
    · obtain ⟨g, off, cap, hv, hgl, c0⟩ := (H.out.same hg).one word_one hjl
      cases hv
      have hkb : wr.cell? ⟨kb, 0, none⟩ = some (.int .u64 t) := ((grownBy_cells hg).1 kb 0 hlt (by simp)).trans Hb.out
      have hkl := Nat.lt_of_lt_of_le hlt hg.size
      cases hq : decide (t < row[j])
      · have Hq := Lib.hid hq
        have hf := gt_c row[j] t kb wr hkb hkl
        rw [hq] at hf
        clear hq hkb
        generalize hee : row[j] = x at hf c0
        clear hee
        go_wp2_with (go_at_call 124; refine hf.mono ?_; rintro e w2 ⟨rfl, G2⟩)
        refine ⟨⟨j + 1, by omega, by go_num, ?_, grownBy_trans hg G2⟩, by simp [intOf]; omega⟩
        intro i hi hij
        by_cases e : i = j
        · subst e; exact Hq.out
        · exact Hall.out i hi (by omega)
      · have Hq := Lib.hid (gtF_yes hjl hq)
        have hf := gt_c row[j] t kb wr hkb hkl
        rw [hq] at hf
        clear hq hkb
        generalize hee : row[j] = x at hf c0
        clear hee
        go_wp2_with (go_at_call 124; refine hf.mono ?_; rintro e w2 ⟨rfl, G2⟩)
        go_ret
        exact ⟨_, rfl, by rw [Hq.out]; exact decide_eq_true (by omega), grownBy_trans hg G2⟩
    · have Hq := Lib.hid (gtF_no (t := t) (row := row) fun i hi => Hall.out i hi (by omega))
      go_wp2_with fail
      go_ret
      exact ⟨_, rfl, by rw [Hq.out]; rfl, hg⟩
theorem hasW_c (a : Option Addr) (cp : Nat) (row : List Int) (t : Int) (kb : Nat) (w : World) (h : RdL wordF 1 w (.slice a row.length cp) row) (hb : w.cell? ⟨kb, 0, none⟩ = some (.int .u64 t)) (hlt : kb < w.heap.size) :
    Calls Try.prog 123 #[.slice a row.length cp, .func (Fn.func 124) #[] #[.pointer (some ⟨kb, 0, none⟩)]] w (RetBool (gtF t row) w) := by
  go_enter Try.func123, Try.ntmps123
  go_wp2_with (go_at_call 139; refine (idxW_c a cp row t kb _ h hb hlt).mono ?_; rintro e w2 ⟨i, rfl, hi, G2⟩)
  go_ret
  rw [← hi]
  exact retBool rfl G2

/-- The error of rows. -/
def badLen (n : Int) (rows : List (List Int)) : Bool := rows.any fun r => decide ((r.length : Int) ≠ n)
def badNum (t : Int) (rows : List (List Int)) : Bool := rows.any (gtF t)
def rowsErr (d n t : Int) (rows : List (List Int)) : Int := if rows.length = 0 then 0 else if (rows.length : Int) ≠ d then 3 else if badLen n rows then 3 else if badNum t rows then 1 else 0
theorem rows_0 {d n t : Int} {rows : List (List Int)} {m : Nat} (e : m = rows.length) (h : ((m : Int) == 0) = true) : rowsErr d n t rows = 0 := by
  have := beq_iff_eq.1 h
  unfold rowsErr; rw [if_pos (by omega)]
theorem rows_3 {d n t : Int} {rows : List (List Int)} {m : Nat} (e : m = rows.length) (h : ((m : Int) == 0) = false) (h2 : ((m : Int) != d) = true) : rowsErr d n t rows = 3 := by
  have := beq_eq_false_iff_ne.1 h
  have := bne_iff_ne.1 h2
  unfold rowsErr; rw [if_neg (by omega), if_pos (by omega)]
theorem rows_of {d n t : Int} {rows : List (List Int)} {m : Nat} (e : m = rows.length) (h : ((m : Int) == 0) = false) (h2 : ((m : Int) != d) = false) : rowsErr d n t rows = if badLen n rows then 3 else if badNum t rows then 1 else 0 := by
  have := beq_eq_false_iff_ne.1 h
  have := bne_eq_false_iff_eq.1 h2
  unfold rowsErr; rw [if_neg (by omega), if_neg (by omega)]
theorem any_no {α : Type} {p : α → Bool} {l : List α} (h : ∀ j, (hj : j < l.length) → p l[j] = false) : l.any p = false := by
  rw [List.any_eq_false]
  intro x hx
  obtain ⟨j, hj, rfl⟩ := List.mem_iff_getElem.1 hx
  simpa using h j hj
theorem any_yes {α : Type} {p : α → Bool} {l : List α} {j : Nat} (hj : j < l.length) (h : p l[j] = true) : l.any p = true := by
  rw [List.any_eq_true]
  exact ⟨_, List.getElem_mem hj, h⟩

set_option maxHeartbeats 1000000 in
set_option maxRecDepth 100000 in
theorem rows_c (c : Cfg) (s : Summ) (w : World) (hR : SumRd w s) (hc1 : s.rows.length ≤ 1000) (hc2 : ∀ r ∈ s.rows, r.length ≤ 9223372036854775807) :
    Calls Try.prog 109 #[c.val, sumV s.total s.ve s.untr s.vr] w (RetInt (rowsErr c.Depth c.Width s.total s.rows) w) := by
  obtain ⟨tot, ve, un, vr, es, vs, rows⟩ := s
  obtain ⟨a1, k1, e1⟩ := hR.es.shape
  obtain ⟨a2, k2, e2⟩ := hR.vs.shape
  have hlen := hR.len
  simp only at hlen e1 e2 hc1 hc2 ⊢
  subst e1
  subst e2
  have HR := Lib.hid hR.rowsRd
  have Hlen := Lib.hid hlen
  have Hc := Lib.hid hc2
  have hv2 : vs.length ≤ 1000 := by omega
  clear hR hlen hc2
  go_enter Try.func109, Try.ntmps109
  go_upto_region 1 with (refine box_cfg rfl _ rfl c rfl ?_; intro w1 B1 G1 z1)
  have B2 : Blk (w1.alloc (.cells #[.int .u64 tot, .slice a1 es.length k1, .int .u64 un, .slice a2 vs.length k2] 68)) w1.heap.size #[.int .u64 tot, .slice a1 es.length k1, .int .u64 un, .slice a2 vs.length k2] := (by repeat (first | exact Blk.new' _ _ _ (by simp) | refine Blk.same ?_ (World.grownBy_alloc _ _ _) | refine Blk.drew ?_ _ | refine Blk.drew1 ?_ | refine Blk.set_ (by assumption) _ _ rfl | refine Blk.off ?_ (by first | omega | (simp; done) | (simp; omega)) _ _ | assumption))
  have hg : w.grownBy (w1.alloc (.cells #[.int .u64 tot, .slice a1 es.length k1, .int .u64 un, .slice a2 vs.length k2] 68)) none := grownBy_new_block G1 _
  have BC : BoxAt (w1.alloc (.cells #[.int .u64 tot, .slice a1 es.length k1, .int .u64 un, .slice a2 vs.length k2] 68)) w.heap.size c := B1.same (World.grownBy_alloc _ _ _)
  generalize w1.alloc (.cells #[.int .u64 tot, .slice a1 es.length k1, .int .u64 un, .slice a2 vs.length k2] 68) = w2 at *
  clear G1 B1
  have b2 := B2.cell
  have bc := BC.cell
  generalize hbb : w1.heap.size = b at *
  generalize hcc : w.heap.size = cb at *
  go_wp2_with fail
  · have hz := rows_0 (d := c.Depth) (n := c.Width) (t := tot) Hlen.out (by assumption)
    go_ret
    exact retInt hz hg
  · have hz := rows_3 (d := c.Depth) (n := c.Width) (t := tot) Hlen.out (by assumption) (by assumption)
    go_ret
    exact retInt hz hg
  have HE := Lib.hid (rows_of (d := c.Depth) (n := c.Width) (t := tot) Hlen.out (by assumption) (by assumption))
  go_loopw [22] (fun s22 wr => ∃ j : Nat, j ≤ vs.length ∧ s22 = .int .i64 j ∧ (∀ i, (hi : i < rows.length) → i < j → decide ((rows[i].length : Int) ≠ c.Width) = false) ∧ w2 = wr) (fun s22 _ => vs.length - (intOf s22).toNat)
  case atStart => exact ⟨0, Nat.zero_le _, rfl, by intro i _ h; omega, rfl⟩
  case round =>
    obtain ⟨j, hj, rfl, hall, rfl⟩ := hrel
    have Hall := Lib.hid hall
    clear hall
    by_cases hjv : j < vs.length
    · have hjl : j < rows.length := by have := Hlen.out; omega
      obtain ⟨g, off, cap, hv, hgl, c1⟩ := (HR.out.same hg).rd.one val_one hjv
      cases hv
      have hrow := Hc.out _ (List.getElem_mem hjl)
      have hRR := (HR.out.same hg).all j vs[j] rows[j] (List.getElem?_eq_getElem hjv) (List.getElem?_eq_getElem hjl)
      have HN := Lib.hid (fun h : decide ((rows[j].length : Int) ≠ c.Width) = true => any_yes (p := fun r : List Int => decide ((r.length : Int) ≠ c.Width)) hjl h)
      have HY := Lib.hid (fun h : decide ((rows[j].length : Int) ≠ c.Width) = false => (fun i (hi : i < rows.length) (hij : i < j + 1) => by
        by_cases e : i = j
        · subst e; exact h
        · exact Hall.out i hi (by omega) : ∀ i, (hi : i < rows.length) → i < j + 1 → decide ((rows[i].length : Int) ≠ c.Width) = false))
      generalize vs[j] = u at *
      generalize rows[j] = row at *
      obtain ⟨ra, rc, rfl⟩ := hRR.shape
      clear hRR
      go_wp2_with fail
      · have h : ((row.length : Int) != c.Width) = true := by assumption
        have hb : badLen c.Width rows = true := HN.out (decide_eq_true (bne_iff_ne.1 h))
        have hz : rowsErr c.Depth c.Width tot rows = 3 := by rw [HE.out, if_pos hb]
        go_ret
        exact retInt hz hg
      · have h : ((row.length : Int) != c.Width) = false := by assumption
        exact ⟨⟨j + 1, by omega, by go_num, HY.out (decide_eq_false (fun e => e (bne_eq_false_iff_eq.1 h))), trivial⟩, by simp [intOf]; omega⟩
    · have hb : badLen c.Width rows = false := any_no fun i hi => Hall.out i hi (by have := Hlen.out; omega)
      have HE2 := Lib.hid (p := rowsErr c.Depth c.Width tot rows = if badNum tot rows then 1 else 0) (by rw [HE.out, if_neg (by rw [hb]; decide)])
      clear HE hb Hall
      go_wp2_with fail
      go_loopw [35] (fun s35 wr => ∃ j : Nat, j ≤ vs.length ∧ s35 = .int .i64 j ∧ (∀ i, (hi : i < rows.length) → i < j → gtF tot rows[i] = false) ∧ w2.grownBy wr none) (fun s35 _ => vs.length - (intOf s35).toNat)
      case atStart => exact ⟨0, Nat.zero_le _, rfl, by intro i _ h; omega, grownBy_refl _ _⟩
      case round =>
        clear hj hjv
        obtain ⟨j, hj, rfl, hall, hgr⟩ := hrel
        have Hall := Lib.hid hall
        clear hall
        have hgg := grownBy_trans hg hgr
        by_cases hjv : j < vs.length
        · have hjl : j < rows.length := by have := Hlen.out; omega
          obtain ⟨g, off, cap, hv, hgl, c1⟩ := (HR.out.same hgg).rd.one val_one hjv
          cases hv
          have hRR := (HR.out.same hgg).all j vs[j] rows[j] (List.getElem?_eq_getElem hjv) (List.getElem?_eq_getElem hjl)
          have HN := Lib.hid (fun h : gtF tot rows[j] = true => any_yes (p := gtF tot) hjl h)
          have HY := Lib.hid (fun h : gtF tot rows[j] = false => (fun i (hi : i < rows.length) (hij : i < j + 1) => by
            by_cases e : i = j
            · subst e; exact h
            · exact Hall.out i hi (by omega) : ∀ i, (hi : i < rows.length) → i < j + 1 → gtF tot rows[i] = false))
          generalize vs[j] = u at *
          generalize rows[j] = row at *
          obtain ⟨ra, rc, rfl⟩ := hRR.shape
          have B3 := B2.same hgr
          have b3 := B3.cell
          have hcall := hasW_c ra rc row tot b wr hRR (b3 0) B3.lt
          cases hq : gtF tot row
          · rw [hq] at hcall
            have Hq := Lib.hid (HY.out hq)
            clear hq HN HY hRR
            go_wp2_with (go_at_call 123; refine hcall.mono ?_; rintro e w5 ⟨rfl, G5⟩)
            exact ⟨⟨j + 1, by omega, by go_num, Hq.out, grownBy_trans hgr G5⟩, by simp [intOf]; omega⟩
          · rw [hq] at hcall
            have hbn : badNum tot rows = true := HN.out hq
            have Hq := Lib.hid (p := rowsErr c.Depth c.Width tot rows = 1) (by rw [HE2.out, if_pos hbn])
            clear hbn
            clear hq HN HY hRR
            go_wp2_with (go_at_call 123; refine hcall.mono ?_; rintro e w5 ⟨rfl, G5⟩)
            go_ret
            exact retInt Hq.out (grownBy_trans hgg G5)
        · have hb : badNum tot rows = false := any_no fun i hi => Hall.out i hi (by have := Hlen.out; omega)
          have hz : rowsErr c.Depth c.Width tot rows = 0 := by rw [HE2.out, if_neg (by rw [hb]; decide)]
          have Hz := Lib.hid hz
          clear hz hb
          go_wp2_with fail
          go_ret
          exact retInt Hz.out hgg
end Go.Proofs.Ytiagjiaahnkefaa
