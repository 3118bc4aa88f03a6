/- Which summaries are valid: the reference. -/
import Derived.Test.YtiagjiaahnkefaaSumC
namespace Go.Proofs.Ytiagjiaahnkefaa
open Go.RowKit
attribute [local go_sem ↓] exec_load_cfg
attribute [local go_sem] run_loadCfgS
theorem rows_none {d n t : Int} {rows : List (List Int)} {m : Nat} (e : m = rows.length) (h : ¬ 0 < m) : rowsErr d n t rows = if badLen n rows then 3 else if badNum t rows then 1 else 0 := by
  have h0 : rows = [] := List.length_eq_zero_iff.1 (by omega)
  subst h0
  rfl
theorem exact_range {own slack tot : Int} (h : (own == 0) = true ∨ (!exactB own slack tot) = true) : own = 0 ∨ tot < own + slack := by
  unfold exactB at h; simp at h; omega
theorem exact_ok {own slack tot : Int} (h : (own == 0) = false ∧ (!exactB own slack tot) = false) : own ≠ 0 ∧ own + slack ≤ tot := by
  unfold exactB at h; simp at h; omega

set_option maxHeartbeats 1000000 in
set_option maxRecDepth 100000 in
theorem rsummary_c (c : Cfg) (s : Summ) (w : World) (hR : SumRd w s) (hW : SumW s) (hS : SumSmall s) :
    Calls Try.prog 83 #[c.val, sumV s.total s.ve s.untr s.vr] w (RetInt (sumErr c.Depth c.Width s) w) := by
  have HR := Lib.hid hR
  have HW := Lib.hid hW
  have HS := Lib.hid hS
  obtain ⟨a1, k1, e1⟩ := hR.es.shape
  obtain ⟨a2, k2, e2⟩ := hR.vs.shape
  have hm := hR.es.2.1
  have h1 : 9223372036854775808 < s.total ∨ s.total < s.untr → sumErr c.Depth c.Width s = 1 := sum_1
  have h7 : ¬(9223372036854775808 < s.total ∨ s.total < s.untr) → (96 : Int) < s.es.length → sumErr c.Depth c.Width s = 7 := sum_7
  have ho : ¬(9223372036854775808 < s.total ∨ s.total < s.untr) → (s.es.length : Int) ≤ 96 → sumErr c.Depth c.Width s = if entsErr s.total s.es ≠ 0 then entsErr s.total s.es else if s.total < ownF s.es then 12 else rowsErr c.Depth c.Width s.total s.rows := sum_of
  have HRow := Lib.hid hR.rowsRd
  have Hvl := Lib.hid hR.len
  have hv2 : s.vs.length ≤ 1000 := by rw [hR.len]; exact hS.rows
  have hwt := hW.total
  have Hsl := Lib.hid hS.row
  have Hkey := Lib.hid hS.key
  have Hes := Lib.hid hR.es
  have Hew := Lib.hid hW.es
  rw [e1] at Hes ⊢
  rw [e2] at HRow ⊢
  have H1 := Lib.hid h1
  have H7 := Lib.hid h7
  have HO := Lib.hid ho
  clear hR hW hS h1 h7 ho e1 e2 HR HW HS
  generalize sumErr c.Depth c.Width s = SE at *
  obtain ⟨tot, ve, un, vr, es, vs, rows⟩ := s
  simp only at *
  go_enter Try.func83, Try.ntmps83
  go_upto_region 1 with (refine box_cfg rfl _ rfl c rfl ?_; intro w1 B1 G1 z1)
  have B2 : Blk (w1.alloc (.cells #[.int .u64 tot, .slice a1 es.length k1, .int .u64 un, .slice a2 vs.length k2] 68)) w1.heap.size #[.int .u64 tot, .slice a1 es.length k1, .int .u64 un, .slice a2 vs.length k2] := (by repeat (first | exact Blk.new' _ _ _ (by simp) | refine Blk.same ?_ (World.grownBy_alloc _ _ _) | refine Blk.drew ?_ _ | refine Blk.drew1 ?_ | refine Blk.set_ (by assumption) _ _ rfl | refine Blk.off ?_ (by first | omega | (simp; done) | (simp; omega)) _ _ | assumption))
  have hg : w.grownBy (w1.alloc (.cells #[.int .u64 tot, .slice a1 es.length k1, .int .u64 un, .slice a2 vs.length k2] 68)) none := grownBy_new_block G1 _
  have BC : BoxAt (w1.alloc (.cells #[.int .u64 tot, .slice a1 es.length k1, .int .u64 un, .slice a2 vs.length k2] 68)) w.heap.size c := B1.same (World.grownBy_alloc _ _ _)
  generalize w1.alloc (.cells #[.int .u64 tot, .slice a1 es.length k1, .int .u64 un, .slice a2 vs.length k2] 68) = w2 at *
  clear G1 B1
  have b2 := B2.cell
  generalize hbb : w1.heap.size = b at *
  generalize hcc : w.heap.size = cb at *
  go_wp2_with fail
  rotate_right
  · go_ret
    exact retInt (H1.out (Or.inl (by assumption))) hg
  · go_ret
    exact retInt (H1.out (by assumption)) hg
  · go_ret
    exact retInt (H7.out (by omega) (by assumption)) hg
  have ht : tot ≤ 9223372036854775808 := by assumption
  have HE := Lib.hid (HO.out (by omega) (by assumption))
  have hl96 : (es.length : Int) ≤ 96 := by assumption
  clear H1 H7 HO
  go_loopw [5, 31] (fun s5 s31 wr => ∃ (j : Nat), j ≤ es.length ∧ s31 = .int .i64 j ∧ s5 = .int .u64 (ownF (es.take j)) ∧ W64 (ownF (es.take j)) ∧ (∀ i, i < j → errAt tot es i = 0) ∧ w2.grownBy wr none) (fun _ s31 _ => es.length - (intOf s31).toNat)
  case atStart => exact ⟨0, Nat.zero_le _, rfl, rfl, w64_0, by omega, grownBy_refl _ _⟩
  case round =>
    obtain ⟨j, hj, rfl, rfl, hT, hall, hgr⟩ := hrel
    have Hall := Lib.hid hall
    clear hall
    have hgg := grownBy_trans hg hgr
    have BCr := BC.same hgr
    have B2r := B2.same hgr
    have b3 := B2r.cell
    have b4 := fun o => (B2r.same (World.grownBy_alloc wr o none)).cell
    by_cases hlt : j < es.length
    · obtain ⟨g, off, cap, hv, hgl, c0, c1, c2⟩ := (Hes.out.same hgg).ent hlt
      cases hv
      have HS := Lib.hid (take_succ hlt)
      have Hs := Lib.hid (ownF_snoc (es.take j) es[j])
      obtain ⟨hw1, hw2⟩ := Hew.out _ (List.getElem_mem hlt)
      have hks := Hkey.out _ (List.getElem_mem hlt)
      have HX : Hid (∀ k, entErr tot (prevK es j) es[j] = k → k ≠ 0 → SE = k) := Lib.hid fun k h hk => by
        have he : errAt tot es j = k := by unfold errAt; rw [List.getElem?_eq_getElem hlt]; exact h
        rw [HE.out, ents_at (tot := tot) hlt Hall.out (by rw [he]; exact hk), he, if_pos hk]
      have Hno : Hid (entErr tot (prevK es j) es[j] = 0 → ∀ i, i < j + 1 → errAt tot es i = 0) := Lib.hid fun h i hi => by
        by_cases e : i = j
        · subst e; unfold errAt; rw [List.getElem?_eq_getElem hlt]; exact h
        · exact Hall.out i (by omega)
      generalize ownF (es.take j) = T at *
      generalize es[j] = en at *
      go_wp2_with fail
      · go_ret
        exact retInt (HX.out 3 (err_empty (by assumption)) (by decide)) (grownBy_trans hgg (World.grownBy_alloc _ _ _))
      · go_ret
        exact retInt (HX.out 4 (err_long (by assumption) (by assumption)) (by decide)) (grownBy_trans hgg (World.grownBy_alloc _ _ _))
      have he : en.key.toList.isEmpty = false := by assumption
      have hl : (en.key.size : Int) ≤ 255 := by assumption
      have HEm := Lib.hid he
      have HLn := Lib.hid hl
      clear he hl
      by_cases h0 : 0 < j
      · obtain ⟨m, rfl⟩ : ∃ m, j = m + 1 := ⟨j - 1, by omega⟩
        obtain ⟨g', off', cap', hv', hgl', p0, p1, p2⟩ := (Hes.out.same hgg).ent (k := m) (by omega)
        cases hv'
        have hpk : prevK es (m + 1) = some es[m].key := by simp [prevK, List.getElem?_eq_getElem (show m < es.length by omega)]
        rw [hpk] at HX Hno
        have hd : decide ((0 : Int) < ((m + 1 : Nat) : Int)) = true := decide_eq_true (by omega)
        have hx : ((m + 1 : Nat) : Int) - 1 = (m : Int) := by omega
        have hm1 : (0 : Int) ≤ (m : Int) := by omega
        have hm2 : (m : Int) < (es.length : Int) := by omega
        have pp := fun o => ((grownBy_cells (World.grownBy_alloc wr o none)).1 g (off + m * 3) hgl (by simp)).trans p0
        clear hpk p1 p2
        generalize es[m].key = pk at *
        go_quiet (fail)
        have Hb := Lib.hid (p := (Op.bytesLess en.key.toList pk.toList || en.key.toList == pk.toList) = ((some pk).map (leB en.key)).getD false) rfl
        generalize (Op.bytesLess en.key.toList pk.toList || en.key.toList == pk.toList) = bx at *
        clear pp
        have BE : Blk ((wr.alloc (.cells #[.string en.key, .int .u64 en.own, .int .u64 en.slack] 77)).drewN nq) wr.heap.size #[.string en.key, .int .u64 en.own, .int .u64 en.slack] := (by repeat (first | exact Blk.new' _ _ _ (by simp) | refine Blk.same ?_ (World.grownBy_alloc _ _ _) | refine Blk.drew ?_ _ | refine Blk.drew1 ?_ | refine Blk.set_ (by assumption) _ _ rfl | refine Blk.off ?_ (by first | omega | (simp; done) | (simp; omega)) _ _ | assumption))
        have BS : Blk ((wr.alloc (.cells #[.string en.key, .int .u64 en.own, .int .u64 en.slack] 77)).drewN nq) b #[.int .u64 tot, .slice (some ⟨g, off, none⟩) es.length k1, .int .u64 un, .slice a2 vs.length k2] := Blk.drew (B2r.same (World.grownBy_alloc _ _ _)) _
        have Kq : wr.grownBy ((wr.alloc (.cells #[.string en.key, .int .u64 en.own, .int .u64 en.slack] 77)).drewN nq) none := (by (repeat (first | exact grownBy_refl _ _ | assumption | refine grownBy_new_block ?_ _ | refine grownBy_drew ?_ | refine grownBy_drewN ?_ _ | refine grownBy_setNew ?_ (by first | (simp; done) | omega | (simp; omega)) _)))
        generalize (wr.alloc (.cells #[.string en.key, .int .u64 en.own, .int .u64 en.slack] 77)).drewN nq = wq at *
        have be := BE.cell
        have bs := BS.cell
        clear b4 BS
        cases bx
        · have HP := Lib.hid (p := ((some pk).map (leB en.key)).getD false = false) Hb.out.symm
          have hW2 := satA_w hT hw1
          go_wp2_with (first | (go_at_call 111; refine (rExact_c en.own en.slack tot _ hw1 hw2 hwt).mono ?_; rintro e w5 ⟨rfl, G5⟩; have be5 := (BE.same G5).cell) | (go_at_call 84; refine (rsum_c T en.own _ hT hw1).mono ?_; rintro e w' ⟨rfl, rfl⟩))
          · go_ret
            exact retInt (HX.out 1 (err_range HEm.out HLn.out HP.out (Or.inl (by assumption))) (by decide)) (grownBy_trans hgg Kq)
          · go_ret
            exact retInt (HX.out 1 (err_range HEm.out HLn.out HP.out (exact_range (by assumption))) (by decide)) (grownBy_trans (grownBy_trans hgg Kq) G5)
          · obtain ⟨q1, q2⟩ := exact_ok (own := en.own) (slack := en.slack) (tot := tot) (by assumption)
            have hN := Hno.out (err_ok HEm.out HLn.out HP.out q1 q2)
            exact ⟨⟨(m + 1) + 1, by omega, by go_num, by rw [HS.out, Hs.out], by rw [HS.out, Hs.out]; exact hW2, hN, grownBy_trans hgr (grownBy_trans Kq G5)⟩, by simp [intOf]; omega⟩
        · have HP := Lib.hid (p := ((some pk).map (leB en.key)).getD false = true) Hb.out.symm
          go_wp2_with fail
          go_ret
          exact retInt (HX.out 6 (err_order HEm.out HLn.out HP.out) (by decide)) (grownBy_trans hgg Kq)
      · have hj0 : j = 0 := by omega
        subst hj0
        go_quiet (fail)
        have BE : Blk ((wr.alloc (.cells #[.string en.key, .int .u64 en.own, .int .u64 en.slack] 77)).drewN nq) wr.heap.size #[.string en.key, .int .u64 en.own, .int .u64 en.slack] := (by repeat (first | exact Blk.new' _ _ _ (by simp) | refine Blk.same ?_ (World.grownBy_alloc _ _ _) | refine Blk.drew ?_ _ | refine Blk.drew1 ?_ | refine Blk.set_ (by assumption) _ _ rfl | refine Blk.off ?_ (by first | omega | (simp; done) | (simp; omega)) _ _ | assumption))
        have BS : Blk ((wr.alloc (.cells #[.string en.key, .int .u64 en.own, .int .u64 en.slack] 77)).drewN nq) b #[.int .u64 tot, .slice (some ⟨g, off, none⟩) es.length k1, .int .u64 un, .slice a2 vs.length k2] := Blk.drew (B2r.same (World.grownBy_alloc _ _ _)) _
        have Kq : wr.grownBy ((wr.alloc (.cells #[.string en.key, .int .u64 en.own, .int .u64 en.slack] 77)).drewN nq) none := (by (repeat (first | exact grownBy_refl _ _ | assumption | refine grownBy_new_block ?_ _ | refine grownBy_drew ?_ | refine grownBy_drewN ?_ _ | refine grownBy_setNew ?_ (by first | (simp; done) | omega | (simp; omega)) _)))
        generalize (wr.alloc (.cells #[.string en.key, .int .u64 en.own, .int .u64 en.slack] 77)).drewN nq = wq at *
        have be := BE.cell
        have bs := BS.cell
        clear b4 BS
        have HP := Lib.hid (p := ((prevK es 0).map (leB en.key)).getD false = false) rfl
        have hW2 := satA_w hT hw1
        go_wp2_with (first | (go_at_call 111; refine (rExact_c en.own en.slack tot _ hw1 hw2 hwt).mono ?_; rintro e w5 ⟨rfl, G5⟩; have be5 := (BE.same G5).cell) | (go_at_call 84; refine (rsum_c T en.own _ hT hw1).mono ?_; rintro e w' ⟨rfl, rfl⟩))
        · go_ret
          exact retInt (HX.out 1 (err_range HEm.out HLn.out HP.out (Or.inl (by assumption))) (by decide)) (grownBy_trans hgg Kq)
        · go_ret
          exact retInt (HX.out 1 (err_range HEm.out HLn.out HP.out (exact_range (by assumption))) (by decide)) (grownBy_trans (grownBy_trans hgg Kq) G5)
        · obtain ⟨q1, q2⟩ := exact_ok (own := en.own) (slack := en.slack) (tot := tot) (by assumption)
          have hN := Hno.out (err_ok HEm.out HLn.out HP.out q1 q2)
          exact ⟨⟨0 + 1, by omega, by go_num, by rw [HS.out, Hs.out], by rw [HS.out, Hs.out]; exact hW2, hN, grownBy_trans hgr (grownBy_trans Kq G5)⟩, by simp [intOf]; omega⟩
    · have hl : es.take j = es := List.take_of_length_le (by omega)
      have hez : entsErr tot es = 0 := ents_no fun i hi => Hall.out i (by omega)
      have hSE : SE = if tot < ownF es then 12 else rowsErr c.Depth c.Width tot rows := by rw [HE.out, hez, if_neg (by decide)]
      have HSE := Lib.hid hSE
      rw [hl] at hT ⊢
      have hb8 := BCr.cell
      clear hl hez hSE HE Hall b4
      generalize ownF es = T at *
      go_wp2_with fail
      · go_ret
        exact retInt (HSE.out.trans (if_pos (by assumption))) hgg
      · have h0 : 0 < vs.length := by assumption
        have hq : rowsErr c.Depth c.Width tot rows = 3 := rows_3 Hvl.out (beq_eq_false_iff_ne.2 (by omega)) (by assumption)
        go_ret
        exact retInt (HSE.out.trans ((if_neg (by omega)).trans hq)) hgg
      · have h0 : 0 < vs.length := by assumption
        have HQ := Lib.hid (HSE.out.trans ((if_neg (by omega)).trans (rows_of (n := c.Width) (t := tot) Hvl.out (beq_eq_false_iff_ne.2 (by omega)) (by assumption))))
        generalize ((vs.length : Int) != c.Depth) = bq at *
        have hbq : bq = false := by assumption
        subst hbq
        clear h0
        clear HSE
        go_loopw [98] (fun s98 wy => ∃ j : Nat, j ≤ vs.length ∧ s98 = .int .i64 j ∧ (∀ i, (hi : i < rows.length) → i < j → decide ((rows[i].length : Int) ≠ c.Width) = false) ∧ wr = wy) (fun s98 _ => vs.length - (intOf s98).toNat)
        case atStart => exact ⟨0, Nat.zero_le _, rfl, by intro i _ h; omega, rfl⟩
        case round =>
          clear hj hlt
          obtain ⟨j, hj, rfl, hall, rfl⟩ := hrel
          have Hall := Lib.hid hall
          clear hall
          by_cases hjv : j < vs.length
          · have hjl : j < rows.length := by have := Hvl.out; omega
            obtain ⟨g, off, cap, hv, hgl, c1⟩ := (HRow.out.same hgg).rd.one val_one hjv
            cases hv
            have hrow := Hsl.out _ (List.getElem_mem hjl)
            have hRR := (HRow.out.same hgg).all j vs[j] rows[j] (List.getElem?_eq_getElem hjv) (List.getElem?_eq_getElem hjl)
            have HN := Lib.hid (fun h : decide ((rows[j].length : Int) ≠ c.Width) = true => any_yes (p := fun r : List Int => decide ((r.length : Int) ≠ c.Width)) hjl h)
            have HY := Lib.hid (fun h : decide ((rows[j].length : Int) ≠ c.Width) = false => (fun i (hi : i < rows.length) (hij : i < j + 1) => by
              by_cases e : i = j
              · subst e; exact h
              · exact Hall.out i hi (by omega) : ∀ i, (hi : i < rows.length) → i < j + 1 → decide ((rows[i].length : Int) ≠ c.Width) = false))
            generalize vs[j] = u at *
            generalize rows[j] = row at *
            obtain ⟨ra, rc, rfl⟩ := hRR.shape
            clear hRR
            go_wp2_with fail
            · have h : ((row.length : Int) != c.Width) = true := by assumption
              have hb : badLen c.Width rows = true := HN.out (decide_eq_true (bne_iff_ne.1 h))
              have hz : SE = 3 := by rw [HQ.out, if_pos hb]
              go_ret
              exact retInt hz hgg
            · have h : ((row.length : Int) != c.Width) = false := by assumption
              exact ⟨⟨j + 1, by omega, by go_num, HY.out (decide_eq_false (fun e => e (bne_eq_false_iff_eq.1 h))), trivial⟩, by simp [intOf]; omega⟩
          · have hb : badLen c.Width rows = false := any_no fun i hi => Hall.out i hi (by have := Hvl.out; omega)
            have HQ2 := Lib.hid (p := SE = if badNum tot rows then 1 else 0) (by rw [HQ.out, if_neg (by rw [hb]; decide)])
            clear HQ hb Hall
            go_wp2_with fail
            go_loopw [111] (fun s111 wy => ∃ j : Nat, j ≤ vs.length ∧ s111 = .int .i64 j ∧ (∀ i, (hi : i < rows.length) → i < j → gtF tot rows[i] = false) ∧ wr = wy) (fun s111 _ => vs.length - (intOf s111).toNat)
            case atStart => exact ⟨0, Nat.zero_le _, rfl, by intro i _ h; omega, rfl⟩
            case round =>
              clear hj hjv
              obtain ⟨j, hj, rfl, hall, rfl⟩ := hrel
              have Hall := Lib.hid hall
              clear hall
              by_cases hjv : j < vs.length
              · have hjl : j < rows.length := by have := Hvl.out; omega
                obtain ⟨g, off, cap, hv, hgl, c1⟩ := (HRow.out.same hgg).rd.one val_one hjv
                cases hv
                have hRR := (HRow.out.same hgg).all j vs[j] rows[j] (List.getElem?_eq_getElem hjv) (List.getElem?_eq_getElem hjl)
                have hrow := Hsl.out _ (List.getElem_mem hjl)
                have HN := Lib.hid (fun h : gtF tot rows[j] = true => any_yes (p := gtF tot) hjl h)
                have HY := Lib.hid (fun h : gtF tot rows[j] = false => (fun i (hi : i < rows.length) (hij : i < j + 1) => by
                  by_cases e : i = j
                  · subst e; exact h
                  · exact Hall.out i hi (by omega) : ∀ i, (hi : i < rows.length) → i < j + 1 → gtF tot rows[i] = false))
                generalize vs[j] = u at *
                generalize rows[j] = row at *
                obtain ⟨ra, rc, rfl⟩ := hRR.shape
                have HRR := Lib.hid hRR
                clear hRR
                go_wp2_with fail
                go_loopw [117] (fun s117 wy => ∃ k : Nat, k ≤ row.length ∧ s117 = .int .i64 k ∧ (∀ i, (hi : i < row.length) → i < k → decide (tot < row[i]) = false) ∧ wr = wy) (fun s117 _ => row.length - (intOf s117).toNat)
                case atStart => exact ⟨0, Nat.zero_le _, rfl, by intro i _ h; omega, rfl⟩
                case round =>
                  obtain ⟨k, hk, rfl, hall, rfl⟩ := hrel
                  have Hal2 := Lib.hid hall
                  clear hall
                  by_cases hkl : k < row.length
                  · obtain ⟨gx, offx, capx, hvx, hgx, cx⟩ := HRR.out.one word_one hkl
                    cases hvx
                    have HN2 := Lib.hid (fun h : decide (tot < row[k]) = true => gtF_yes hkl h)
                    have HY2 := Lib.hid (fun h : decide (tot < row[k]) = false => (fun i (hi : i < row.length) (hij : i < k + 1) => by
                      by_cases e : i = k
                      · subst e; exact h
                      · exact Hal2.out i hi (by omega) : ∀ i, (hi : i < row.length) → i < k + 1 → decide (tot < row[i]) = false))
                    generalize row[k] = x at *
                    go_wp2_with fail
                    · have hb : badNum tot rows = true := HN.out (HN2.out (decide_eq_true (by assumption)))
                      have hz : SE = 1 := by rw [HQ2.out, if_pos hb]
                      go_ret
                      exact retInt hz hgg
                    · exact ⟨⟨k + 1, by omega, by go_num, HY2.out (decide_eq_false (by omega)), trivial⟩, by simp [intOf]; omega⟩
                  · have hgt := HY.out (gtF_no fun i hi => Hal2.out i hi (by omega))
                    have Hgt := Lib.hid hgt
                    clear hgt
                    go_wp2_with fail
                    exact ⟨⟨j + 1, by omega, by go_num, Hgt.out, trivial⟩, by simp [intOf]; omega⟩
              · have hb : badNum tot rows = false := any_no fun i hi => Hall.out i hi (by have := Hvl.out; omega)
                have hz : SE = 0 := by rw [HQ2.out, if_neg (by rw [hb]; decide)]
                have Hz := Lib.hid hz
                clear hz hb
                go_wp2_with fail
                go_ret
                exact retInt Hz.out hgg
      · have h0 : ¬ 0 < vs.length := by assumption
        have HQ := Lib.hid (HSE.out.trans ((if_neg (by omega)).trans (rows_none (d := c.Depth) (n := c.Width) (t := tot) Hvl.out h0)))
        have hz : SE = 0 := by
          have hr0 : rows = [] := List.length_eq_zero_iff.1 (by have := Hvl.out; omega)
          rw [HQ.out, hr0]; rfl
        have Hz := Lib.hid hz
        clear HSE HQ hz
        go_loopw [98] (fun s98 wy => s98 = .int .i64 0 ∧ wr = wy) (fun _ _ => 0)
        case atStart => exact ⟨rfl, rfl⟩
        case round =>
          obtain ⟨rfl, rfl⟩ := hrel
          go_wp2_with fail
          go_loopw [111] (fun s111 wy => s111 = .int .i64 0 ∧ wr = wy) (fun _ _ => 0)
          case atStart => exact ⟨rfl, rfl⟩
          case round =>
            obtain ⟨rfl, rfl⟩ := hrel
            go_wp2_with fail
            go_ret
            exact retInt Hz.out hgg
end Go.Proofs.Ytiagjiaahnkefaa
