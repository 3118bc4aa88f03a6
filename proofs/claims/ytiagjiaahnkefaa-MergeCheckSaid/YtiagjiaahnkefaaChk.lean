/- Which summaries are valid, and the error of others: the program. -/
import Derived.Test.YtiagjiaahnkefaaBounds
namespace Go.Proofs.Ytiagjiaahnkefaa
open Go.RowKit
attribute [local go_sem ↓] exec_load_cfg
attribute [local go_sem] run_loadCfgS

def leB (a b : ByteArray) : Bool := Op.bytesLess a.toList b.toList || a.toList == b.toList
/-- The error of an entry behind another one. -/
def entErr (tot : Int) (prev : Option ByteArray) (e : Ent) : Int :=
  if e.key.size = 0 then 3 else if 255 < e.key.size then 4 else if (prev.map (leB e.key)).getD false then 6 else if e.own = 0 ∨ tot < e.own + e.slack then 1 else 0
theorem isE {k : ByteArray} (h : k.toList.isEmpty = true) : k.size = 0 := by
  rw [ByteArray.size, ← Array.length_toList, ← ByteArray.toList_eq]; simpa using h
theorem isN {k : ByteArray} (h : k.toList.isEmpty = false) : k.size ≠ 0 := by
  rw [ByteArray.size, ← Array.length_toList, ← ByteArray.toList_eq]; intro e; rw [List.length_eq_zero_iff.1 e] at h; cases h
theorem err_empty {tot : Int} {p : Option ByteArray} {e : Ent} (h : e.key.toList.isEmpty = true) : entErr tot p e = 3 := by unfold entErr; rw [if_pos (isE h)]
theorem err_long {tot : Int} {p : Option ByteArray} {e : Ent} (h : e.key.toList.isEmpty = false) (h2 : 255 < (e.key.size : Int)) : entErr tot p e = 4 := by unfold entErr; rw [if_neg (isN h), if_pos (by omega)]
theorem err_order {tot : Int} {p : Option ByteArray} {e : Ent} (h : e.key.toList.isEmpty = false) (h2 : (e.key.size : Int) ≤ 255) (h3 : (p.map (leB e.key)).getD false = true) : entErr tot p e = 6 := by unfold entErr; rw [if_neg (isN h), if_neg (by omega), if_pos h3]
theorem err_range {tot : Int} {p : Option ByteArray} {e : Ent} (h : e.key.toList.isEmpty = false) (h2 : (e.key.size : Int) ≤ 255) (h3 : (p.map (leB e.key)).getD false = false) (h4 : e.own = 0 ∨ tot < e.own + e.slack) : entErr tot p e = 1 := by
  unfold entErr; rw [if_neg (isN h), if_neg (by omega), if_neg (by rw [h3]; decide), if_pos h4]
theorem err_ok {tot : Int} {p : Option ByteArray} {e : Ent} (h : e.key.toList.isEmpty = false) (h2 : (e.key.size : Int) ≤ 255) (h3 : (p.map (leB e.key)).getD false = false) (h4 : e.own ≠ 0) (h5 : e.own + e.slack ≤ tot) : entErr tot p e = 0 := by
  unfold entErr; rw [if_neg (isN h), if_neg (by omega), if_neg (by rw [h3]; decide), if_neg (by omega)]
theorem sat_ok {a b t : Int} (h : fitA a b = true) (h2 : satA a b ≤ t) : a + b ≤ t := by
  unfold fitA at h; unfold satA at h2; simp only [decide_eq_true_eq] at h; rw [if_pos h] at h2; exact h2
theorem sat_no {a b t : Int} (ht : t ≤ 9223372036854775808) (h : ¬fitA a b = true) : t < a + b := by
  unfold fitA at h; simp only [decide_eq_true_eq] at h; omega
theorem sat_big {a b t : Int} (h : fitA a b = true) (h2 : t < satA a b) : t < a + b := by
  unfold fitA at h; unfold satA at h2; simp only [decide_eq_true_eq] at h; rw [if_pos h] at h2; exact h2
theorem range_of {a b t : Int} (h : fitA a b = true) (h2 : (a == 0) = true ∨ t < satA a b) : a = 0 ∨ t < a + b := by
  rcases h2 with h2 | h2
  · exact Or.inl (by simpa using h2)
  · exact Or.inr (sat_big h h2)
def prevKey (es : List Ent) (i : Nat) : Option ByteArray := if i = 0 then none else (es[i - 1]?).map (·.key)


set_option maxHeartbeats 1000000 in
set_option maxRecDepth 100000 in
theorem entry0_c (s : Summ) (w : World) (hR : SumRd w s) (hW : SumW s) (hi : 0 < s.es.length) (hk : ∀ e ∈ s.es, e.key.size ≤ 9223372036854775807) (ht : s.total ≤ 9223372036854775808) :
    Calls Try.prog 108 #[sumV s.total s.ve s.untr s.vr, .int .i64 0] w (RetInt (entErr s.total none s.es[0]) w) := by
  obtain ⟨tot, ve, un, vr, es, vs, rows⟩ := s
  obtain ⟨a1, k1, e1⟩ := hR.es.shape
  obtain ⟨a2, k2, e2⟩ := hR.vs.shape
  simp only at e1 e2 hi hk ht ⊢
  subst e1
  subst e2
  obtain ⟨g, off, cap, hv, hgl, c0, c1, c2⟩ := hR.es.ent hi
  cases hv
  obtain ⟨h1, h2⟩ := hW.es _ (List.getElem_mem hi)
  have h3 := hk _ (List.getElem_mem hi)
  simp only [Nat.zero_mul, Nat.add_zero] at c0 c1 c2
  have Ht := Lib.hid ht
  clear hR hW hk ht
  generalize es[0] = en at *
  go_enter Try.func108, Try.ntmps108
  go_wp2_with fail
  · go_ret
    exact retInt (err_empty (by assumption)) (by (repeat (first | exact grownBy_refl _ _ | assumption | refine grownBy_new_block ?_ _ | refine grownBy_drew ?_ | refine grownBy_drewN ?_ _ | refine grownBy_setNew ?_ (by first | (simp; done) | omega | (simp; omega)) _)))
  · go_ret
    exact retInt (err_long (by assumption) (by assumption)) (by (repeat (first | exact grownBy_refl _ _ | assumption | refine grownBy_new_block ?_ _ | refine grownBy_drew ?_ | refine grownBy_drewN ?_ _ | refine grownBy_setNew ?_ (by first | (simp; done) | omega | (simp; omega)) _)))
  · have he : en.key.toList.isEmpty = false := by assumption
    have hl : (en.key.size : Int) ≤ 255 := by assumption
    have HE := Lib.hid he
    have HLn := Lib.hid hl
    clear he hl
    go_quiet (fail)
    have B1 : Blk (((w.alloc (.cells #[.int .u64 tot, .slice (some ⟨g, off, none⟩) es.length k1, .int .u64 un, .slice a2 vs.length k2] 68)).alloc (.cells #[.string en.key, .int .u64 en.own, .int .u64 en.slack] 77)).drewN nq) w.heap.size #[.int .u64 tot, .slice (some ⟨g, off, none⟩) es.length k1, .int .u64 un, .slice a2 vs.length k2] := (by repeat (first | exact Blk.new' _ _ _ (by simp) | refine Blk.same ?_ (World.grownBy_alloc _ _ _) | refine Blk.drew ?_ _ | refine Blk.drew1 ?_ | refine Blk.set_ (by assumption) _ _ rfl | refine Blk.off ?_ (by first | omega | (simp; done) | (simp; omega)) _ _ | assumption))
    have B2 : Blk (((w.alloc (.cells #[.int .u64 tot, .slice (some ⟨g, off, none⟩) es.length k1, .int .u64 un, .slice a2 vs.length k2] 68)).alloc (.cells #[.string en.key, .int .u64 en.own, .int .u64 en.slack] 77)).drewN nq) (w.heap.size + 1) #[.string en.key, .int .u64 en.own, .int .u64 en.slack] := (by repeat (first | exact Blk.new' _ _ _ (by simp) | refine Blk.same ?_ (World.grownBy_alloc _ _ _) | refine Blk.drew ?_ _ | refine Blk.drew1 ?_ | refine Blk.set_ (by assumption) _ _ rfl | refine Blk.off ?_ (by first | omega | (simp; done) | (simp; omega)) _ _ | assumption))
    have hg : w.grownBy (((w.alloc (.cells #[.int .u64 tot, .slice (some ⟨g, off, none⟩) es.length k1, .int .u64 un, .slice a2 vs.length k2] 68)).alloc (.cells #[.string en.key, .int .u64 en.own, .int .u64 en.slack] 77)).drewN nq) none := (by (repeat (first | exact grownBy_refl _ _ | assumption | refine grownBy_new_block ?_ _ | refine grownBy_drew ?_ | refine grownBy_drewN ?_ _ | refine grownBy_setNew ?_ (by first | (simp; done) | omega | (simp; omega)) _)))
    generalize ((w.alloc (.cells #[.int .u64 tot, .slice (some ⟨g, off, none⟩) es.length k1, .int .u64 un, .slice a2 vs.length k2] 68)).alloc (.cells #[.string en.key, .int .u64 en.own, .int .u64 en.slack] 77)).drewN nq = wq at *
    have b1 := B1.cell
    have b2 := B2.cell
    generalize w.heap.size = b at *
    clear c0 c1 c2 B1 B2
    have HP := Lib.hid (p := ((none : Option ByteArray).map (leB en.key)).getD false = false) rfl
    go_wp2_with (go_at_call 52; refine (satAdd_c _ _ _ h1 h2).mono ?_; rintro e w' ⟨rfl, rfl⟩)
    all_goals go_ret
    all_goals first
      | exact retInt (err_range HE.out HLn.out HP.out (Or.inl (by assumption))) hg
      | exact retInt (err_range HE.out HLn.out HP.out (Or.inr (sat_no Ht.out (by assumption)))) hg
      | exact retInt (err_range HE.out HLn.out HP.out (range_of (by assumption) (by assumption))) hg
      | exact retInt (err_ok HE.out HLn.out HP.out (by assumption) (sat_ok (by assumption) (And.right (by assumption)))) hg
set_option maxHeartbeats 1000000 in
set_option maxRecDepth 100000 in
theorem entryS_c (m : Nat) (s : Summ) (w : World) (hR : SumRd w s) (hW : SumW s) (hi : m + 1 < s.es.length) (hk : ∀ e ∈ s.es, e.key.size ≤ 9223372036854775807) (ht : s.total ≤ 9223372036854775808) :
    Calls Try.prog 108 #[sumV s.total s.ve s.untr s.vr, .int .i64 (m + 1 : Nat)] w (RetInt (entErr s.total (some s.es[m].key) s.es[m + 1]) w) := by
  obtain ⟨tot, ve, un, vr, es, vs, rows⟩ := s
  obtain ⟨a1, k1, e1⟩ := hR.es.shape
  obtain ⟨a2, k2, e2⟩ := hR.vs.shape
  simp only at e1 e2 hi hk ht ⊢
  subst e1
  subst e2
  obtain ⟨g, off, cap, hv, hgl, c0, c1, c2⟩ := hR.es.ent hi
  cases hv
  obtain ⟨h1, h2⟩ := hW.es _ (List.getElem_mem hi)
  have h3 := hk _ (List.getElem_mem hi)
  obtain ⟨g', off', cap', hv', hgl', p0, p1, p2⟩ := hR.es.ent (k := m) (by simp only; omega)
  cases hv'
  have hd : decide ((0 : Int) < ((m + 1 : Nat) : Int)) = true := decide_eq_true (by omega)
  have hx : ((m + 1 : Nat) : Int) - 1 = (m : Int) := by omega
  have hm1 : (0 : Int) ≤ (m : Int) := by omega
  have hm2 : (m : Int) < (es.length : Int) := by omega
  have hm3 : (0 : Int) ≤ ((m + 1 : Nat) : Int) := by omega
  have hm4 : ((m + 1 : Nat) : Int) < (es.length : Int) := by omega
  have hlen := hR.es.2.1
  have Ht := Lib.hid ht
  clear hR hW hk ht
  generalize es[m].key = pk at *
  generalize es[m + 1] = en at *
  go_enter Try.func108, Try.ntmps108
  go_wp2_with fail
  · go_ret
    exact retInt (err_empty (by assumption)) (by (repeat (first | exact grownBy_refl _ _ | assumption | refine grownBy_new_block ?_ _ | refine grownBy_drew ?_ | refine grownBy_drewN ?_ _ | refine grownBy_setNew ?_ (by first | (simp; done) | omega | (simp; omega)) _)))
  · go_ret
    exact retInt (err_long (by assumption) (by assumption)) (by (repeat (first | exact grownBy_refl _ _ | assumption | refine grownBy_new_block ?_ _ | refine grownBy_drew ?_ | refine grownBy_drewN ?_ _ | refine grownBy_setNew ?_ (by first | (simp; done) | omega | (simp; omega)) _)))
  · have he : en.key.toList.isEmpty = false := by assumption
    have hl : (en.key.size : Int) ≤ 255 := by assumption
    have HE := Lib.hid he
    have HLn := Lib.hid hl
    clear he hl
    go_quiet (fail)
    have Hb := Lib.hid (p := (Op.bytesLess en.key.toList pk.toList || en.key.toList == pk.toList) = ((some pk).map (leB en.key)).getD false) rfl
    generalize (Op.bytesLess en.key.toList pk.toList || en.key.toList == pk.toList) = bx at *
    have B1 : Blk (((w.alloc (.cells #[.int .u64 tot, .slice (some ⟨g, off, none⟩) es.length k1, .int .u64 un, .slice a2 vs.length k2] 68)).alloc (.cells #[.string en.key, .int .u64 en.own, .int .u64 en.slack] 77)).drewN nq) w.heap.size #[.int .u64 tot, .slice (some ⟨g, off, none⟩) es.length k1, .int .u64 un, .slice a2 vs.length k2] := (by repeat (first | exact Blk.new' _ _ _ (by simp) | refine Blk.same ?_ (World.grownBy_alloc _ _ _) | refine Blk.drew ?_ _ | refine Blk.drew1 ?_ | refine Blk.set_ (by assumption) _ _ rfl | refine Blk.off ?_ (by first | omega | (simp; done) | (simp; omega)) _ _ | assumption))
    have B2 : Blk (((w.alloc (.cells #[.int .u64 tot, .slice (some ⟨g, off, none⟩) es.length k1, .int .u64 un, .slice a2 vs.length k2] 68)).alloc (.cells #[.string en.key, .int .u64 en.own, .int .u64 en.slack] 77)).drewN nq) (w.heap.size + 1) #[.string en.key, .int .u64 en.own, .int .u64 en.slack] := (by repeat (first | exact Blk.new' _ _ _ (by simp) | refine Blk.same ?_ (World.grownBy_alloc _ _ _) | refine Blk.drew ?_ _ | refine Blk.drew1 ?_ | refine Blk.set_ (by assumption) _ _ rfl | refine Blk.off ?_ (by first | omega | (simp; done) | (simp; omega)) _ _ | assumption))
    have hg : w.grownBy (((w.alloc (.cells #[.int .u64 tot, .slice (some ⟨g, off, none⟩) es.length k1, .int .u64 un, .slice a2 vs.length k2] 68)).alloc (.cells #[.string en.key, .int .u64 en.own, .int .u64 en.slack] 77)).drewN nq) none := (by (repeat (first | exact grownBy_refl _ _ | assumption | refine grownBy_new_block ?_ _ | refine grownBy_drew ?_ | refine grownBy_drewN ?_ _ | refine grownBy_setNew ?_ (by first | (simp; done) | omega | (simp; omega)) _)))
    generalize ((w.alloc (.cells #[.int .u64 tot, .slice (some ⟨g, off, none⟩) es.length k1, .int .u64 un, .slice a2 vs.length k2] 68)).alloc (.cells #[.string en.key, .int .u64 en.own, .int .u64 en.slack] 77)).drewN nq = wq at *
    have b1 := B1.cell
    have b2 := B2.cell
    generalize w.heap.size = b at *
    clear c0 c1 c2 B1 B2
    cases bx
    · have HP := Lib.hid (p := ((some pk).map (leB en.key)).getD false = false) Hb.out.symm
      go_wp2_with (go_at_call 52; refine (satAdd_c _ _ _ h1 h2).mono ?_; rintro e w' ⟨rfl, rfl⟩)
      all_goals go_ret
      all_goals first
        | exact retInt (err_range HE.out HLn.out HP.out (Or.inl (by assumption))) hg
        | exact retInt (err_range HE.out HLn.out HP.out (Or.inr (sat_no Ht.out (by assumption)))) hg
        | exact retInt (err_range HE.out HLn.out HP.out (range_of (by assumption) (by assumption))) hg
        | exact retInt (err_ok HE.out HLn.out HP.out (by assumption) (sat_ok (by assumption) (And.right (by assumption)))) hg
    · have HP := Lib.hid (p := ((some pk).map (leB en.key)).getD false = true) Hb.out.symm
      go_wp2_with fail
      go_ret
      exact retInt (err_order HE.out HLn.out HP.out) hg
end Go.Proofs.Ytiagjiaahnkefaa
