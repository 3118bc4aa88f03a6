/- Several texts in one file; each begins with a comment that says what is proved in it. -/
import Derived.Test.YtkdbapbmbhmaiaaGreatBunAF
import Derived.Test.YtkdbapbmbhmaiaaGreatBunAE
import Derived.Maps.Views
import Derived.Maps.OwnSet
import Derived.Lib.SlKeysI
import Derived.Test.YtkdbapbmbhmaiaaGreatBunAC
import Derived.Maps.OwnOps
import Derived.Carry
import Derived.Test.YtkdbapbmbhmaiaaGreatBunAA
import Derived.Test.YtkdbapbmbhmaiaaGreatShelf
import Derived.Lib.MinMax
import Derived.Sort.OwnSortedInts
import Derived.Test.YtkdbapbmbhmaiaaGreatBunAD

/- Clusters: a copy of a configuration. -/
namespace Go.Proofs.YtkdbapbmbhmaiaaGreat
open Go.RowKit Go.Sort
attribute [local go_sem ↓] exec_load_cfg
attribute [local go_sem] run_loadCfgS

theorem eltC_word : Elt 29 27 (.int .u64 0) 1 8 := ⟨Tryz.underlying29, by kernel_rfl, rfl, by decide⟩
theorem oneC_word : OneF wordF := by intro x u hu; simp [wordF] at hu; subst hu; rfl
theorem eltC_cls : Elt 28 72 (.agg #[.int .i64 0, .int .i64 0]) 2 16 := ⟨Tryz.underlying28, by kernel_rfl, rfl, by decide⟩
theorem oneC_cls : OneF clsF := by intro x u hu; simp [clsF] at hu; rcases hu with rfl | rfl <;> rfl
set_option maxHeartbeats 400000 in
set_option maxRecDepth 100000 in
theorem cloneC_c (v : Value) (l : List (Int × Int)) (w : World) (h : RdL clsF 2 w v l) (hl : l.length ≤ 1000000) : Calls Tryz.prog 31 #[v] w (RetOwn clsF 2 72 l w) := by
  obtain ⟨a, c, rfl⟩ := h.shape
  have H := Lib.hid h
  have hb1 : l.length * 16 ≤ 140737488355328 := by omega
  have hb2 : l.length ≤ 9223372036854775807 := by omega
  cases a with
  | none =>
    have hn : l = [] := by
      rcases h.2.2 with ⟨h0, _⟩ | ⟨g, off, cap, hv, _⟩
      · exact List.length_eq_zero_iff.1 h0
      · cases hv
    subst hn
    have hq := fun w => Lib.run_eql_slice_nil (P := Tryz.prog) w _ _ none 0 c 0 0 (eltC_cls).ht
    simp only [List.length_nil]
    go_enter Tryz.func31, Tryz.ntmps31
    go_wp2
    go_ret
    exact ⟨_, rfl, Own.nil _ _ _ _ _, grownBy_refl _ _⟩
  | some ad =>
    clear h
    have hq := fun w => Lib.run_eql_slice_nil (P := Tryz.prog) w _ _ (some ad) l.length c 0 0 (eltC_cls).ht
    go_enter Tryz.func31, Tryz.ntmps31
    go_upto_region 3 with fail
    have N := own_lit0 (e := 72) clsF 2 (Nat.le_refl w.heap.size)
    have R := H.out.same (World.grownBy_alloc w (.cells #[] 72) none)
    go_wp2_with (at_builtin; refine app_lit eltC_cls oneC_cls N R rfl hb1 hb2 (by simp) (by rfl) _ _ (by rfl) (by rfl) (by rfl) ?_; intro v4 w4 o4 g4 l4)
    go_ret
    exact ⟨_, rfl, o4, grownBy_trans (World.grownBy_alloc w _ none) g4⟩
set_option maxHeartbeats 400000 in
set_option maxRecDepth 100000 in
theorem cloneD_c (v : Value) (l : List Int) (w : World) (h : RdL wordF 1 w v l) (hl : l.length ≤ 1000000) : Calls Tryz.prog 32 #[v] w (RetOwn wordF 1 27 l w) := by
  obtain ⟨a, c, rfl⟩ := h.shape
  have H := Lib.hid h
  have hb1 : l.length * 8 ≤ 140737488355328 := by omega
  have hb2 : l.length ≤ 9223372036854775807 := by omega
  cases a with
  | none =>
    have hn : l = [] := by
      rcases h.2.2 with ⟨h0, _⟩ | ⟨g, off, cap, hv, _⟩
      · exact List.length_eq_zero_iff.1 h0
      · cases hv
    subst hn
    have hq := fun w => Lib.run_eql_slice_nil (P := Tryz.prog) w _ _ none 0 c 0 0 (eltC_word).ht
    simp only [List.length_nil]
    go_enter Tryz.func32, Tryz.ntmps32
    go_wp2
    go_ret
    exact ⟨_, rfl, Own.nil _ _ _ _ _, grownBy_refl _ _⟩
  | some ad =>
    clear h
    have hq := fun w => Lib.run_eql_slice_nil (P := Tryz.prog) w _ _ (some ad) l.length c 0 0 (eltC_word).ht
    go_enter Tryz.func32, Tryz.ntmps32
    go_upto_region 3 with fail
    have N := own_lit0 (e := 27) wordF 1 (Nat.le_refl w.heap.size)
    have R := H.out.same (World.grownBy_alloc w (.cells #[] 27) none)
    go_wp2_with (at_builtin; refine app_lit eltC_word oneC_word N R rfl hb1 hb2 (by simp) (by rfl) _ _ (by rfl) (by rfl) (by rfl) ?_; intro v4 w4 o4 g4 l4)
    go_ret
    exact ⟨_, rfl, o4, grownBy_trans (World.grownBy_alloc w _ none) g4⟩

/-- The same configuration, with slices of its own. -/
abbrev Cfg.with (c : Cfg) (v1 v2 : Value) : Cfg := { c with Classes := v1, Table := v2 }
theorem BoxAt.set14 {w : World} {b : Nat} {c : Cfg} (h : BoxAt w b c) (v : Value) : BoxAt (w.setCell ⟨b, 14, none⟩ v) b (c.with v c.Table) := by
  obtain ⟨t, f, hb, hf⟩ := h.block
  exact ⟨t, f, (heap_set v hb).trans (by simp [Cfg.arr]), hf⟩
theorem BoxAt.set15 {w : World} {b : Nat} {c : Cfg} (h : BoxAt w b c) (v : Value) : BoxAt (w.setCell ⟨b, 15, none⟩ v) b (c.with c.Classes v) := by
  obtain ⟨t, f, hb, hf⟩ := h.block
  exact ⟨t, f, (heap_set v hb).trans (by simp [Cfg.arr]), hf⟩
theorem CfgNums.with {c : Cfg} (h : CfgNums c) (v1 v2 : Value) : CfgNums (c.with v1 v2) := ⟨h.length, h.lateness, h.windows, h.shards, h.spread, h.queue, h.mode, h.slots, h.exact, h.promote, h.depth, h.width, h.top, h.key, h.seed⟩

set_option maxHeartbeats 1000000 in
set_option maxRecDepth 100000 in
theorem cluClone_c (c : Cfg) (l : List (Int × Int)) (t : List Int) (w : World) (h1 : RdL clsF 2 w c.Classes l) (h2 : RdL wordF 1 w c.Table t) (hl : l.length ≤ 8) (ht : t.length = 16) :
    Calls Tryz.prog 11 #[c.val] w fun e w' => ∃ v1 v2, e = .returned (c.with v1 v2).val ∧ Own clsF 2 72 w.heap.size w' v1 l ∧ Own wordF 1 27 w.heap.size w' v2 t ∧ w.grownBy w' none := by
  obtain ⟨a1, k1, e1⟩ := h1.shape
  obtain ⟨a2, k2, e2⟩ := h2.shape
  have HE := Lib.hid (And.intro e1 e2)
  rw [e1] at h1
  rw [e2] at h2
  have R1 := Lib.hid h1
  have R2 := Lib.hid h2
  clear h1 h2 e1 e2
  go_enter Tryz.func11, Tryz.ntmps11
  go_upto_region 1 with (first | (refine box_cfg rfl _ rfl c rfl ?_; intro w1 B1 G1 z1) | (refine alloc_cfg rfl rfl ?_; intro w2 B2 G2 z2))
  have B3 := B1.same G2
  have K3 := grownBy_trans G1 G2
  have HC1 := Lib.hid fun y (h : w.grownBy y none) => cloneC_c _ l y (RdL.same R1.out h) (by omega)
  have HC2 := Lib.hid fun y (h : w.grownBy y none) => cloneD_c _ t y (RdL.same R2.out h) (by omega)
  clear ht
  simp only [Act.put, List.setIfInBounds_toArray, List.set_cons_zero, List.set_cons_succ]
  go_cut [] (fun wx => ∃ v1 v2, BoxAt wx w.heap.size (c.with v1 v2) ∧ BoxAt wx w1.heap.size Cfg.zero ∧ Own clsF 2 72 w2.heap.size wx v1 l ∧ Own wordF 1 27 w2.heap.size wx v2 t ∧ w.grownBy wx none)
  case first =>
    clear B1 G1 G2
    have b3 := B3.cell
    simp only [Cfg.arr, HE.out.1, HE.out.2] at b3
    have f3 := B3.free
    have HB2 := Lib.hid B2
    have HB3 := Lib.hid B3
    have HK3 := Lib.hid K3
    have hz1 := Lib.hid z1
    clear B2 B3 K3 z1
    go_region_with (first
      | (go_at_call 31
         have KX := HK3.out
         refine (HC1.out _ (by (repeat (first | exact grownBy_refl _ _ | assumption | refine grownBy_new_block ?_ _ | refine grownBy_drew ?_ | refine grownBy_drewN ?_ _ | refine grownBy_setNew ?_ (by first | (simp; done) | omega | (simp; omega)) _)))).mono ?_
         rintro e w4 ⟨v1, rfl, o1, g1⟩
         have HB4 := Lib.hid (show BoxAt w4 w.heap.size c by refine BoxAt.same ?_ g1; exact HB3.out.same (by (repeat (first | exact grownBy_refl _ _ | assumption | refine grownBy_new_block ?_ _ | refine grownBy_drew ?_ | refine grownBy_drewN ?_ _ | refine grownBy_setNew ?_ (by first | (simp; done) | omega | (simp; omega)) _))))
         have HK4 := Lib.hid (show w.grownBy w4 none by refine grownBy_trans ?_ g1; exact grownBy_drew KX)
         have HG4 := Lib.hid (show w2.grownBy w4 none by refine grownBy_trans ?_ g1; exact grownBy_drew (grownBy_refl w2 none))
         obtain ⟨a3, k3, rfl⟩ := o1.shape
         have HO1 := Lib.hid o1
         have hz4 := g1.size
         have b4 := HB4.out.cell
         simp only [Cfg.arr, HE.out.1, HE.out.2] at b4
         have f4 := HB4.out.free
         clear o1 g1 KX b3 f3)
      | (go_at_call 32
         have KX := HK4.out
         have hz1' := hz1.out
         refine (HC2.out _ (by (repeat (first | exact grownBy_refl _ _ | assumption | refine grownBy_new_block ?_ _ | refine grownBy_drew ?_ | refine grownBy_drewN ?_ _ | refine grownBy_setNew ?_ (by first | (simp; done) | omega | (simp; omega)) _)))).mono ?_
         rintro e w5 ⟨v2, rfl, o2, g2⟩
         first
          | (have HB5 := Lib.hid (show BoxAt w5 w.heap.size c by refine BoxAt.same ?_ g2; exact HB4.out)
             have HG5 := Lib.hid (show w4.grownBy w5 none from g2)
             have b5 := HB5.out.cell
             have f5 := HB5.out.free
             simp only [Cfg.arr, HE.out.1, HE.out.2] at b5)
          | (have HB5 := Lib.hid (show BoxAt w5 w.heap.size (c.with _ _) by refine BoxAt.same ?_ g2; exact HB4.out.set14 _)
             have f5 := HB5.out.free)
         obtain ⟨a4, k4, rfl⟩ := o2.shape
         clear b4 f4))
    all_goals
      go_wp2_with fail
      go_meet
      have GS : w5.grownBy ((w5.setCell ⟨w.heap.size, 14, none⟩ (.slice a3 l.length k3)).setCell ⟨w.heap.size, 15, none⟩ (.slice a4 t.length k4)) (some w.heap.size) := grownBy_set (grownBy_set (grownBy_refl w5 _) _ _) _ _
      have hz2 : w.heap.size < w2.heap.size := by have := HG4.out.size; have := hz1.out; omega
      have hz3 : w.heap.size < w4.heap.size := by have := HG4.out.size; omega
      have O1 := (HO1.out.same HG5.out).kept GS (fun k e h => by have := (HO1.out.lt k e).1; simp at h; simp only [World.drew] at this; omega)
      have O2 := o2.kept GS (fun k e h => by have := (o2.lt k e).1; simp at h; omega)
      exact ⟨_, _, (HB5.out.set14 _).set15 _, ((HB2.out.same HG4.out).same HG5.out).kept GS (by have := hz1.out; simp; omega), O1.base (fun k e => by have := (O1.lt k e).1; simp only [World.drew] at this; omega), O2.base (fun k e => by have := (O2.lt k e).1; have := HG4.out.size; omega), grownBy_new (grownBy_trans HK4.out HG5.out) GS (Nat.le_refl _)⟩
  obtain ⟨v1, v2, BX, BZ, O1, O2, K9⟩ := hcut
  have oc1 : v1.oneCell' = true := by obtain ⟨_, _, rfl⟩ := O1.shape; rfl
  have oc2 : v2.oneCell' = true := by obtain ⟨_, _, rfl⟩ := O2.shape; rfl
  go_wp2_with (first
    | (refine load_cfg rfl _ rfl _ rfl (c.with v1 v2) BX ?_)
    | (refine store_cfg rfl _ _ rfl _ rfl (c.with v1 v2) rfl oc1 oc2 Cfg.zero BZ ?_; intro w8 B8 G8))
  obtain ⟨tt, ff, hh, hff⟩ := B8.block
  refine bodyPost_ret (v := (c.with v1 v2).val) (results_cell_row rfl _ _ w1.heap.size _ _ _ _ rfl hh Tryz.underlying31 rfl size_cfg) rfl ?_
  have hw1 := G1.size
  refine ⟨v1, v2, rfl, (O1.kept G8 fun k e h => ?_).base fun k e => ?_, (O2.kept G8 fun k e h => ?_).base fun k e => ?_, grownBy_new K9 G8 G1.size⟩
  · have := (O1.lt k e).1; simp at h; omega
  · have := (O1.lt k e).1; omega
  · have := (O2.lt k e).1; simp at h; omega
  · have := (O2.lt k e).1; omega
end Go.Proofs.YtkdbapbmbhmaiaaGreat

/- The ledger: plain laws on lists of windows with their totals, and on maps that read so. -/
namespace Go.Proofs.YtkdbapbmbhmaiaaGreat
open Go.RowKit Go.Maps

/-- The total of a window in a list. -/
def ldAt : List (Int × Int) → Int → Int
  | [], _ => 0
  | p :: L, w => if p.1 = w then p.2 else ldAt L w
def ldHas : List (Int × Int) → Int → Bool
  | [], _ => false
  | p :: L, w => decide (p.1 = w) || ldHas L w
/-- The place of a window. -/
def ldK : List (Int × Int) → Int → Nat
  | [], _ => 0
  | p :: L, w => if p.1 < w then ldK L w + 1 else 0
/-- A weight is added to a window. -/
def ldPut : List (Int × Int) → Int → Int → List (Int × Int)
  | [], w, n => [(w, n)]
  | p :: L, w, n => if p.1 < w then p :: ldPut L w n else if p.1 = w then (w, p.2 + n) :: L else (w, n) :: p :: L
def ldDel : List (Int × Int) → Int → List (Int × Int)
  | [], _ => []
  | p :: L, w => if p.1 = w then L else p :: ldDel L w
/-- The windows ascend. -/
def Asc (L : List (Int × Int)) : Prop := L.Pairwise (fun p q => p.1 < q.1)

theorem ldHas_gt {w : Int} : ∀ {L : List (Int × Int)}, (∀ q ∈ L, w < q.1) → ldHas L w = false
  | [], _ => rfl
  | p :: L, h => by
    have := h p (by simp)
    simp only [ldHas, ldHas_gt fun q hq => h q (List.mem_cons_of_mem p hq), Bool.or_false, decide_eq_false_iff_not]; omega
theorem ldAt_no {w : Int} : ∀ {L : List (Int × Int)}, ldHas L w = false → ldAt L w = 0
  | [], _ => rfl
  | p :: L, h => by
    simp only [ldHas, Bool.or_eq_false_iff, decide_eq_false_iff_not] at h
    simp only [ldAt]; rw [if_neg h.1]; exact ldAt_no h.2
theorem ldHas_iff {w : Int} : ∀ {L : List (Int × Int)}, ldHas L w = true ↔ w ∈ L.map (·.1)
  | [] => by simp [ldHas]
  | p :: L => by simp only [ldHas, Bool.or_eq_true, decide_eq_true_eq, ldHas_iff (L := L), List.map_cons, List.mem_cons]; constructor <;> (rintro (h | h) <;> simp_all)
theorem ldAt_gt {w : Int} {L : List (Int × Int)} (h : ∀ q ∈ L, w < q.1) : ldAt L w = 0 := ldAt_no (ldHas_gt h)
theorem asc_cons {p : Int × Int} {L : List (Int × Int)} (h : Asc (p :: L)) : (∀ q ∈ L, p.1 < q.1) ∧ Asc L := List.pairwise_cons.1 h
theorem ldAt_put {w n v : Int} : ∀ {L : List (Int × Int)}, Asc L → ldAt (ldPut L w n) v = if v = w then ldAt L w + n else ldAt L v
  | [], _ => by
    simp only [ldPut, ldAt]
    by_cases h : v = w
    · rw [if_pos h, if_pos h.symm]; omega
    · rw [if_neg h, if_neg fun e => h e.symm]
  | p :: L, hA => by
    obtain ⟨h1, h2⟩ := asc_cons hA
    simp only [ldPut]
    by_cases a : p.1 < w
    · rw [if_pos a]
      simp only [ldAt]
      rw [ldAt_put h2]
      by_cases b : v = w
      · rw [if_pos b, if_pos b, if_neg (by omega), if_neg (by omega)]
      · rw [if_neg b, if_neg b]
    · rw [if_neg a]
      by_cases c : p.1 = w
      · rw [if_pos c]
        simp only [ldAt]
        by_cases b : v = w
        · rw [if_pos b, if_pos b.symm, if_pos c]
        · rw [if_neg b, if_neg fun e => b e.symm, if_neg fun e => b (e.symm.trans c)]
      · rw [if_neg c]
        have hz : ldAt (p :: L) w = 0 := ldAt_gt fun q hq => by
          rcases List.mem_cons.1 hq with rfl | hq
          · omega
          · have := h1 q hq; omega
        by_cases b : v = w
        · rw [if_pos b, hz]; simp only [ldAt]; rw [if_pos b.symm]; omega
        · rw [if_neg b]
          show (if w = v then n else ldAt (p :: L) v) = _
          rw [if_neg fun e => b e.symm]
theorem ldHas_put {w n v : Int} : ∀ {L : List (Int × Int)}, ldHas (ldPut L w n) v = (decide (v = w) || ldHas L v)
  | [] => by
    have : (w = v) = (v = w) := propext ⟨Eq.symm, Eq.symm⟩
    simp only [ldPut, ldHas, this]
  | p :: L => by
    have e : (w = v) = (v = w) := propext ⟨Eq.symm, Eq.symm⟩
    simp only [ldPut]
    by_cases a : p.1 < w
    · rw [if_pos a]; simp only [ldHas, ldHas_put (L := L)]
      cases decide (p.1 = v) <;> cases decide (v = w) <;> rfl
    · rw [if_neg a]
      by_cases c : p.1 = w
      · rw [if_pos c]; simp only [ldHas, e, c]
        cases decide (v = w) <;> rfl
      · rw [if_neg c]; simp only [ldHas, e]
theorem mem_ldPut {w n : Int} {q : Int × Int} : ∀ {L : List (Int × Int)}, q ∈ ldPut L w n → q.1 = w ∨ q ∈ L
  | [], h => by simp [ldPut] at h; exact .inl (by rw [h])
  | p :: L, h => by
    simp only [ldPut] at h
    by_cases a : p.1 < w
    · rw [if_pos a] at h
      rcases List.mem_cons.1 h with rfl | h
      · exact .inr (by simp)
      · exact (mem_ldPut h).imp id fun h => List.mem_cons_of_mem p h
    · rw [if_neg a] at h
      by_cases c : p.1 = w
      · rw [if_pos c] at h
        rcases List.mem_cons.1 h with rfl | h
        · exact .inl rfl
        · exact .inr (List.mem_cons_of_mem p h)
      · rw [if_neg c] at h
        rcases List.mem_cons.1 h with rfl | h
        · exact .inl rfl
        · exact .inr h
theorem asc_put {w n : Int} : ∀ {L : List (Int × Int)}, Asc L → Asc (ldPut L w n)
  | [], _ => by simp [ldPut, Asc]
  | p :: L, hA => by
    obtain ⟨h1, h2⟩ := asc_cons hA
    simp only [ldPut]
    by_cases a : p.1 < w
    · rw [if_pos a]
      refine List.pairwise_cons.2 ⟨fun q hq => ?_, asc_put h2⟩
      rcases mem_ldPut hq with h | h
      · omega
      · exact h1 q h
    · rw [if_neg a]
      by_cases c : p.1 = w
      · rw [if_pos c]
        exact List.pairwise_cons.2 ⟨fun q hq => by have := h1 q hq; simp only; omega, h2⟩
      · rw [if_neg c]
        refine List.pairwise_cons.2 ⟨fun q hq => ?_, hA⟩
        rcases List.mem_cons.1 hq with rfl | hq
        · simp only; omega
        · have := h1 q hq; simp only; omega
theorem mem_ldDel {w : Int} {q : Int × Int} : ∀ {L : List (Int × Int)}, q ∈ ldDel L w → q ∈ L
  | [], h => by simp [ldDel] at h
  | p :: L, h => by
    simp only [ldDel] at h
    split at h
    · exact List.mem_cons_of_mem p h
    · rcases List.mem_cons.1 h with rfl | h
      · simp
      · exact List.mem_cons_of_mem p (mem_ldDel h)
theorem asc_del {w : Int} : ∀ {L : List (Int × Int)}, Asc L → Asc (ldDel L w)
  | [], _ => by simp [ldDel, Asc]
  | p :: L, hA => by
    obtain ⟨h1, h2⟩ := asc_cons hA
    simp only [ldDel]
    split
    · exact h2
    · exact List.pairwise_cons.2 ⟨fun q hq => h1 q (mem_ldDel hq), asc_del h2⟩
theorem ldHas_del {w v : Int} : ∀ {L : List (Int × Int)}, Asc L → ldHas (ldDel L w) v = (!decide (v = w) && ldHas L v)
  | [], _ => by simp [ldDel, ldHas]
  | p :: L, hA => by
    obtain ⟨h1, h2⟩ := asc_cons hA
    simp only [ldDel]
    by_cases a : p.1 = w
    · rw [if_pos a]
      simp only [ldHas]
      by_cases b : v = w
      · subst b
        rw [ldHas_gt fun q hq => by have := h1 q hq; omega]; simp
      · simp only [b, decide_false, Bool.not_false, Bool.true_and]
        rw [show decide (p.1 = v) = false from decide_eq_false fun e => b (e.symm.trans a)]; simp
    · rw [if_neg a]
      simp only [ldHas, ldHas_del h2]
      by_cases b : v = w
      · subst b
        simp [a]
      · simp [b]
theorem ldAt_del {w v : Int} : ∀ {L : List (Int × Int)}, Asc L → ldAt (ldDel L w) v = if v = w then 0 else ldAt L v
  | [], _ => by simp [ldDel, ldAt]
  | p :: L, hA => by
    obtain ⟨h1, h2⟩ := asc_cons hA
    simp only [ldDel]
    by_cases a : p.1 = w
    · rw [if_pos a]
      by_cases b : v = w
      · rw [if_pos b]; exact ldAt_gt fun q hq => by have := h1 q hq; omega
      · rw [if_neg b]; simp only [ldAt]; rw [if_neg fun e => b (e.symm.trans a)]
    · rw [if_neg a]
      simp only [ldAt, ldAt_del h2]
      by_cases b : v = w
      · rw [if_pos b, if_pos b, if_neg (by omega)]
      · rw [if_neg b, if_neg b]
theorem ldDel_no {w : Int} : ∀ {L : List (Int × Int)}, ldHas L w = false → ldDel L w = L
  | [], _ => rfl
  | p :: L, h => by
    simp only [ldHas, Bool.or_eq_false_iff, decide_eq_false_iff_not] at h
    simp only [ldDel]; rw [if_neg h.1, ldDel_no h.2]
theorem ldK_le {w : Int} : ∀ {L : List (Int × Int)}, ldK L w ≤ L.length
  | [] => Nat.le_refl _
  | p :: L => by
    simp only [ldK]; split
    · have := ldK_le (w := w) (L := L); simp; exact this
    · simp
/-- The place of a window, found by a loop. -/
theorem ldK_of {w : Int} : ∀ {L : List (Int × Int)} {k : Nat}, k ≤ L.length → (∀ (j : Nat) (p : Int × Int), j < k → L[j]? = some p → p.1 < w) → (∀ p : Int × Int, L[k]? = some p → ¬ p.1 < w) → ldK L w = k
  | [], k, hk, _, _ => by simp at hk; subst hk; rfl
  | p :: L, 0, _, _, h => by simp only [ldK]; rw [if_neg (h p rfl)]
  | p :: L, k + 1, hk, h1, h2 => by
    simp only [ldK]
    rw [if_pos (h1 0 p (by omega) rfl), ldK_of (L := L) (k := k) (by simpa using hk) (fun j q hj hq => h1 (j + 1) q (by omega) (by simpa using hq)) (fun q hq => h2 q (by simpa using hq))]
theorem ldK_lt {w : Int} : ∀ {L : List (Int × Int)} {j : Nat} {p : Int × Int}, j < ldK L w → L[j]? = some p → p.1 < w
  | [], j, p, h, _ => by simp [ldK] at h
  | q :: L, 0, p, h, hp => by
    simp at hp; subst hp
    simp only [ldK] at h; split at h
    · assumption
    · omega
  | q :: L, j + 1, p, h, hp => by
    simp only [ldK] at h; split at h
    · exact ldK_lt (L := L) (j := j) (by omega) (by simpa using hp)
    · omega
/-- The window is there just if it stands at its place. -/
theorem ldHas_at {w : Int} : ∀ {L : List (Int × Int)}, Asc L → (ldHas L w = true ↔ L[ldK L w]? = some (w, ldAt L w))
  | [], _ => by simp [ldHas]
  | p :: L, hA => by
    obtain ⟨h1, h2⟩ := asc_cons hA
    simp only [ldHas, ldK, ldAt]
    by_cases a : p.1 < w
    · rw [if_pos a, if_neg (by omega)]
      simp only [List.getElem?_cons_succ, ← ldHas_at h2, Bool.or_eq_true, decide_eq_true_eq]
      constructor
      · rintro (h | h)
        · omega
        · exact h
      · exact .inr
    · rw [if_neg a]
      by_cases c : p.1 = w
      · rw [if_pos c]
        simp only [c, decide_true, Bool.true_or, List.getElem?_cons_zero, true_iff, Option.some.injEq]
        rw [← c]
      · rw [if_neg c]
        rw [show decide (p.1 = w) = false from decide_eq_false c, ldHas_gt fun q hq => by have := h1 q hq; omega]
        simp only [Bool.or_self, Bool.false_eq_true, List.getElem?_cons_zero, Option.some.injEq, false_iff]
        intro e; exact c (by rw [e])
theorem ldHas_no {w : Int} {L : List (Int × Int)} (hA : Asc L) {p : Int × Int} (hp : L[ldK L w]? = some p) (hne : p.1 ≠ w) : ldHas L w = false := by
  cases h : ldHas L w with
  | false => rfl
  | true =>
    rw [(ldHas_at hA).1 h] at hp
    cases hp; exact absurd rfl hne
theorem ldHas_end {w : Int} {L : List (Int × Int)} (hA : Asc L) (hk : ldK L w = L.length) : ldHas L w = false := by
  cases h : ldHas L w with
  | false => rfl
  | true =>
    have := (ldHas_at hA).1 h
    rw [hk] at this; simp at this
theorem ldHas_yes {w : Int} : ∀ {L : List (Int × Int)} {k : Nat} {p : Int × Int}, L[k]? = some p → p.1 = w → ldHas L w = true := by
  intro L k p h e
  rw [ldHas_iff]
  exact List.mem_map.2 ⟨p, List.mem_of_getElem? h, e⟩
theorem ldPut_no {w n : Int} : ∀ {L : List (Int × Int)}, Asc L → ldHas L w = false → ldPut L w n = L.take (ldK L w) ++ [(w, n)] ++ L.drop (ldK L w)
  | [], _, _ => rfl
  | p :: L, hA, h => by
    obtain ⟨h1, h2⟩ := asc_cons hA
    simp only [ldHas, Bool.or_eq_false_iff, decide_eq_false_iff_not] at h
    simp only [ldPut, ldK]
    by_cases a : p.1 < w
    · rw [if_pos a, if_pos a, ldPut_no h2 h.2]; rfl
    · rw [if_neg a, if_neg a, if_neg h.1]; rfl
theorem ldPut_yes {w n : Int} : ∀ {L : List (Int × Int)}, Asc L → ldHas L w = true → ldPut L w n = L.set (ldK L w) (w, ldAt L w + n)
  | [], _, h => by simp [ldHas] at h
  | p :: L, hA, h => by
    obtain ⟨h1, h2⟩ := asc_cons hA
    simp only [ldPut, ldK, ldAt]
    by_cases a : p.1 < w
    · simp only [ldHas, show decide (p.1 = w) = false from decide_eq_false (by omega), Bool.false_or] at h
      rw [if_pos a, if_pos a, if_neg (by omega), ldPut_yes h2 h]; rfl
    · rw [if_neg a, if_neg a]
      by_cases c : p.1 = w
      · rw [if_pos c, if_pos c]; rfl
      · exfalso
        rw [ldHas_gt] at h
        · cases h
        · intro q hq
          rcases List.mem_cons.1 hq with rfl | hq
          · omega
          · have := h1 q hq; omega
theorem ldDel_yes {w : Int} : ∀ {L : List (Int × Int)}, Asc L → ldHas L w = true → ldDel L w = L.take (ldK L w) ++ L.drop (ldK L w + 1)
  | [], _, h => by simp [ldHas] at h
  | p :: L, hA, h => by
    obtain ⟨h1, h2⟩ := asc_cons hA
    simp only [ldDel, ldK]
    by_cases a : p.1 < w
    · simp only [ldHas, show decide (p.1 = w) = false from decide_eq_false (by omega), Bool.false_or] at h
      rw [if_pos a, if_neg (by omega), ldDel_yes h2 h]; rfl
    · rw [if_neg a]
      by_cases c : p.1 = w
      · rw [if_pos c]; rfl
      · exfalso
        rw [ldHas_gt] at h
        · cases h
        · intro q hq
          rcases List.mem_cons.1 hq with rfl | hq
          · omega
          · have := h1 q hq; omega

/-! ### The map -/
structure LedD {H : Type} (D : DataW H) (L : List (Int × Int)) : Prop where
  has : ∀ k : Int, Maps.has D (.int .i64 k) = ldHas L k
  at_ : ∀ k : Int, D.atKey (.int .i64 k) (.lit (.int .u64 0)) = .lit (.int .u64 (ldAt L k))
variable {H : Type} {D : DataW H} {L : List (Int × Int)}
theorem LedD.nil : LedD (.map [] : DataW H) [] := ⟨fun _ => rfl, fun _ => rfl⟩
theorem lit_ne {k v : Int} (h : k ≠ v) : (Lit.int .i64 k) ≠ .int .i64 v := fun e => by cases e; exact h rfl
theorem LedD.put (h : LedD D L) (hA : Asc L) (hD : IsMap D) {w n : Int} (hk : WideAt.IsKeyLit (.int .i64 w)) : LedD (D.put (.int .i64 w) (.lit (.int .u64 (ldAt L w + n)))) (ldPut L w n) := by
  constructor
  · intro k
    rw [ldHas_put]
    by_cases e : k = w
    · subst e; rw [has_put_same hD hk]; simp
    · rw [has_put_other (lit_ne e), h.has]; simp [e]
  · intro k
    rw [ldAt_put hA]
    by_cases e : k = w
    · subst e; rw [atKey_put_same hD hk, if_pos rfl]
    · rw [atKey_put_other (lit_ne e), h.at_, if_neg e]
theorem LedD.del (h : LedD D L) (hA : Asc L) {w : Int} : LedD (D.del (.int .i64 w)) (ldDel L w) := by
  constructor
  · intro k
    rw [ldHas_del hA]
    by_cases e : k = w
    · subst e; rw [has_del_same]; simp
    · rw [has_del_other (lit_ne e), h.has]; simp [e]
  · intro k
    rw [ldAt_del hA]
    by_cases e : k = w
    · subst e; rw [atKey_del_same, if_pos rfl]
    · rw [atKey_del_other (lit_ne e), h.at_, if_neg e]
theorem asc_nodup : ∀ {L : List (Int × Int)}, Asc L → (L.map (·.1)).Nodup := by
  intro L h
  unfold List.Nodup
  rw [List.pairwise_map]
  exact h.imp fun h e => by omega
theorem asc_sorted {L : List (Int × Int)} (h : Asc L) : (L.map (·.1)).Pairwise (fun x y : Int => decide (x ≤ y) = true) := by
  rw [List.pairwise_map]
  exact h.imp fun h => by simp; omega
/-- The keys, sorted. -/
theorem LedD.sorted (h : LedD D L) (hA : Asc L) {P : Program} {k : TypeId} {R : Value → Option (DataW H × List MemPlace)} {w : World} {b n : Nat} (hown : w.ownsMap P k R b n D) (hk : P.underlying k = some (.int .i64)) {ss : List Int} (hp : ss.Perm (intKeys D)) :
    ss.mergeSort (fun x y => decide (x ≤ y)) = L.map (·.1) := by
  have h2 : (L.map (·.1)).Perm (intKeys D) := CollectedI.perm (left := fun _ => false) ⟨asc_nodup hA, fun x => by rw [h.has, ldHas_iff]; simp⟩ hown (int_keyed hk) hk (fun _ => rfl)
  have h3 : (ss.mergeSort (fun x y => decide (x ≤ y))).Perm (L.map (·.1)) := (List.mergeSort_perm _ _).trans (hp.trans h2.symm)
  refine List.Perm.eq_of_pairwise (le := fun x y : Int => decide (x ≤ y) = true) (fun a b _ _ h1 h2 => ?_) (List.pairwise_mergeSort (fun a b c h1 h2 => ?_) (fun a b => ?_) ss) (asc_sorted hA) h3
  · simp only [decide_eq_true_eq] at h1 h2; omega
  · simp only [decide_eq_true_eq] at *; omega
  · simp only [Bool.or_eq_true, decide_eq_true_eq]; omega
end Go.Proofs.YtkdbapbmbhmaiaaGreat

/- The ledger: the program's functions. -/
namespace Go.Proofs.YtkdbapbmbhmaiaaGreat
open Go.RowKit Go.Maps

theorem keyI : Keyed Tryz.prog 3 := int_keyed Tryz.underlying3
theorem zeroW (w : World) : (zeroValue 27).run Tryz.prog w = .ok (.int .u64 0) w := by kernel_rfl
theorem wf_i64 {n : Int} (h0 : -9223372036854775808 ≤ n) (h1 : n ≤ 9223372036854775807) : (Lit.int .i64 n).wf = true := WalkArith.wf_i64 ⟨h0, h1⟩
def I64 (n : Int) : Prop := -9223372036854775808 ≤ n ∧ n ≤ 9223372036854775807

def ledA (bm : Nat) (acc : Int) (R : List Int) : Array Value := (Value.map (some bm) :: .int .i64 acc :: R.map (fun n => Value.int .u64 n)).toArray
/-- A ledger of the program: its block, its map. -/
structure Led (w : World) (b bm n : Nat) (L : List (Int × Int)) (acc : Int) (R : List Int) : Prop where
  blk : Blk w b (ledA bm acc R)
  own : ∃ D : DataW Unit, w.ownsMap Tryz.prog 3 (plainElem Tryz.prog 27) bm n D ∧ LedD D L
  asc : Asc L
  keys : ∀ p ∈ L, I64 p.1
  vals : ∀ p ∈ L, W64 p.2
  rl : R.length = 7
  rw : ∀ r ∈ R, W64 r
  ne : b ≠ bm
theorem Led.keptS {w w' : World} {b bm n : Nat} {L : List (Int × Int)} {acc : Int} {R : List Int} {S : Nat → Prop} (h : Led w b bm n L acc R) (k : GrownS S w w') (h1 : ¬ S b) (h2 : ¬ S bm) : Led w' b bm n L acc R :=
  ⟨h.blk.keptS k h1, by obtain ⟨D, h3, h4⟩ := h.own; exact ⟨D, ownsMap_keptS h3 k h2, h4⟩, h.asc, h.keys, h.vals, h.rl, h.rw, h.ne⟩
theorem Led.same {w w' : World} {b bm n : Nat} {L : List (Int × Int)} {acc : Int} {R : List Int} (h : Led w b bm n L acc R) (k : w.grownBy w' none) : Led w' b bm n L acc R :=
  h.keptS (GrownS.none_ (S := fun _ => False) k) id id
def Two (b bm : Nat) (i : Nat) : Prop := i = b ∨ i = bm
theorem ledA0 (bm : Nat) (acc : Int) (R : List Int) : (ledA bm acc R)[0]? = some (.map (some bm)) := by simp [ledA]
theorem ledA1 (bm : Nat) (acc : Int) (R : List Int) : (ledA bm acc R)[1]? = some (.int .i64 acc) := by simp [ledA]
theorem ledA2 (bm : Nat) (acc : Int) (R : List Int) {k : Nat} (hk : k < R.length) : (ledA bm acc R)[2 + k]? = some (.int .u64 R[k]) := by
  simp [ledA, Nat.add_comm 2 k, hk]

set_option maxHeartbeats 400000 in
theorem ledNew_c (w : World) : Calls Tryz.prog 12 #[] w (fun e w' => ∃ b bm, e = .returned (.pointer (some ⟨b, 0, none⟩)) ∧ Led w' b bm 0 [] 0 [0, 0, 0, 0, 0, 0, 0] ∧ w.heap.size ≤ b ∧ w.heap.size ≤ bm ∧ b < w'.heap.size ∧ bm < w'.heap.size ∧ w.grownBy w' none) := by
  have hmm := @run_makeMap Tryz.prog
  go_enter Tryz.func12, Tryz.ntmps12
  go_wp2_with fail
  go_ret
  have hM := World.ownsMap_made (H := Unit) w Tryz.prog 3 (plainElem Tryz.prog 27)
  refine ⟨w.heap.size + 1, w.heap.size, by simp, ⟨Blk.new' _ _ _ (by simp), ⟨_, ownsMap_keptS hM (GrownS.none_ (S := fun _ => False) (World.grownBy_alloc _ _ none)) id, LedD.nil⟩, by simp [Asc], by simp, by simp, rfl, (fun r hr => by simp at hr; subst hr; exact ⟨by omega, by omega⟩), by omega⟩, by omega, by omega, by simp, by simp; omega, (by (repeat (first | exact grownBy_refl _ _ | assumption | refine grownBy_new_block ?_ _ | refine grownBy_drew ?_ | refine grownBy_drewN ?_ _ | refine grownBy_setNew ?_ (by first | (simp; done) | omega | (simp; omega)) _)))⟩

/-- 'm[k]' behind a guard that says yes. -/
theorem lookup_int_if {H : Type} (w : World) {ops : Array Oper} {rest : List Oper} {o : Oper} {a : Act} {Q : Exit → Act → World → Prop}
    (hg : Region.wanted o (yielded ops a.tmps) = true) (m x : Operand) (t : TypeId) (hop : o.op = Op.lookup t m x false)
    (k e : TypeId) (q : IntKind) (K : Keyed Tryz.prog k) (ht : Tryz.prog.underlying t = some (.map k e)) (he : Tryz.prog.underlying e = some (.int q)) (hz : (zeroValue e).run Tryz.prog w = .ok (.int q 0) w) (b n : Nat) (D : DataW H)
    (hm : a.eval m = .map (some b)) (hown : w.ownsMap Tryz.prog k (plainElem Tryz.prog e) b n D) (key : Value) (kl : Lit) (hx : a.eval x = key) (hkey : keyOf Tryz.prog k key = some kl)
    (hK : ∀ c : Int, D.atKey kl (.lit (.int q 0)) = .lit (.int q c) → (Lit.int q c).wf = true → wpList Tryz.prog ops Q rest (a.put o.dst (.int q c)) w) :
    wpList Tryz.prog ops Q (o :: rest) a w := by
  refine BigFrame.wpList_want hg fun K' hK' => ?_
  obtain ⟨c, hrun, hat, hwc⟩ := hown.lookup_int K ht he hz hkey
  unfold Oper.wp
  simp [execOp, hop, hm, hx, hrun, Result.andThen]
  exact hK' _ _ (hK c hat hwc)

def fitsB (a b : Int) : Bool := decide (a + b ≤ 9223372036854775808)
theorem ldAt_w {L : List (Int × Int)} (h : ∀ p ∈ L, W64 p.2) (w : Int) : W64 (ldAt L w) := by
  induction L with
  | nil => exact ⟨by simp [ldAt], by simp [ldAt]⟩
  | cons p L ih =>
    simp only [ldAt]; split
    · exact h p (by simp)
    · exact ih fun q hq => h q (List.mem_cons_of_mem p hq)

theorem keys_put {L : List (Int × Int)} (h : ∀ p ∈ L, I64 p.1) {win n : Int} (hw : I64 win) : ∀ p ∈ ldPut L win n, I64 p.1 := fun p hp => by
  rcases mem_ldPut hp with h1 | h1
  · rw [h1]; exact hw
  · exact h p h1
theorem vals_put {win n : Int} : ∀ {L : List (Int × Int)}, (∀ p ∈ L, W64 p.2) → Asc L → W64 (ldAt L win + n) → ∀ p ∈ ldPut L win n, W64 p.2
  | [], _, _, hs, p, hp => by simp [ldPut] at hp; subst hp; simpa [ldAt] using hs
  | q :: L, h, hA, hs, p, hp => by
    simp only [ldPut] at hp
    simp only [ldAt] at hs
    by_cases a : q.1 < win
    · rw [if_pos a] at hp
      rw [if_neg (by omega)] at hs
      rcases List.mem_cons.1 hp with rfl | hp
      · exact h p (by simp)
      · exact vals_put (fun x hx => h x (List.mem_cons_of_mem q hx)) (asc_cons hA).2 hs p hp
    · rw [if_neg a] at hp
      by_cases c : q.1 = win
      · rw [if_pos c] at hp hs
        rcases List.mem_cons.1 hp with rfl | hp
        · exact hs
        · exact h p (List.mem_cons_of_mem q hp)
      · rw [if_neg c] at hp hs
        rw [ldAt_gt fun x hx => by have := (asc_cons hA).1 x hx; omega] at hs
        rcases List.mem_cons.1 hp with rfl | hp
        · simpa using hs
        · exact h p hp
theorem set_led (bm : Nat) (acc acc' : Int) (R : List Int) : (ledA bm acc R).setIfInBounds 1 (.int .i64 acc') = ledA bm acc' R := by simp [ledA]
def accL (L : List (Int × Int)) (win x : Int) : List (Int × Int) := if fitsB (ldAt L win) x then ldPut L win x else L
def accN (L : List (Int × Int)) (win x acc : Int) : Int := if fitsB (ldAt L win) x then acc + 1 else acc
end Go.Proofs.YtkdbapbmbhmaiaaGreat

/- A shard as it is made. -/
namespace Go.Proofs.YtkdbapbmbhmaiaaGreat
open Go.RowKit Go.Sort Go.Maps
attribute [local go_sem ↓] exec_load_cfg
attribute [local go_sem] run_loadCfgS

/-- The cells of a shard. -/
abbrev shA (ga gp : Nat) (c : Cfg) (gq gm : Nat) : Array Value := #[.pointer (some ⟨ga, 0, none⟩), .pointer (some ⟨gp, 0, none⟩), .int .i64 c.Length, .int .i64 c.Lateness, .int .i64 c.Windows, .int .i64 c.Shards, .int .i64 c.Spread, .int .i64 c.Queue, .int .i64 c.Mode, .int .i64 c.Slots, .int .i64 c.Exact, .int .u64 c.Promote, .int .i64 c.Depth, .int .i64 c.Width, .int .i64 c.Top, .int .i64 c.Key, c.Classes, c.Table, .int .u64 c.Seed, .pointer (some ⟨gq, 0, none⟩), .map (some gm)]
/-- A shard as it is made, in block g: its queue in gq (places in gl), its map of tiers in gm. -/
structure ShardNew (w : World) (ga gp : Nat) (c : Cfg) (g gq gl gm : Nat) : Prop where
  blk : Blk w g (shA ga gp c gq gm)
  que : Blk w gq #[.pointer (some ⟨ga, 0, none⟩), .pointer (some ⟨gp, 0, none⟩), .slice (some ⟨gl, 0, none⟩) c.Queue.toNat c.Queue.toNat, .int .i64 0]
  own : w.ownsMap Tryz.prog 3 (plainElem (H := Unit) Tryz.prog 130) gm 0 (.map [])
theorem ShardNew.same {w w' : World} {ga gp : Nat} {c : Cfg} {g gq gl gm : Nat} (h : ShardNew w ga gp c g gq gl gm) (k : w.grownBy w' none) : ShardNew w' ga gp c g gq gl gm :=
  ⟨h.blk.same k, h.que.same k, ownsMap_keptS h.own (GrownS.none_ (S := fun _ => False) k) id⟩
theorem ShardNew.off {w w' : World} {ga gp : Nat} {c : Cfg} {g gq gl gm : Nat} {b : Nat} (h : ShardNew w ga gp c g gq gl gm) (k : w.grownBy w' (some b)) (h1 : g ≠ b) (h2 : gq ≠ b) (h3 : gm ≠ b) : ShardNew w' ga gp c g gq gl gm :=
  ⟨h.blk.kept k (by simpa using h1.symm), h.que.kept k (by simpa using h2.symm), h.own.kept k (by simpa using h3)⟩

set_option maxHeartbeats 1000000 in
set_option maxRecDepth 100000 in
theorem shardNew_c (ga gp : Nat) (c : Cfg) (w : World) (hn : CfgNums c) : Calls Tryz.prog 16 #[.pointer (some ⟨ga, 0, none⟩), .pointer (some ⟨gp, 0, none⟩), c.val] w fun e w' =>
    ∃ g gq gl gm, e = .returned (.tuple #[.pointer (some ⟨g, 0, none⟩), .int .i64 0]) ∧ ShardNew w' ga gp c g gq gl gm ∧ (w.heap.size ≤ g ∧ w.heap.size ≤ gq ∧ w.heap.size ≤ gm) ∧ w.grownBy w' none := by
  obtain ⟨q1, q2⟩ := hn.queue
  obtain ⟨q, hq⟩ : ∃ q : Nat, c.Queue = q := ⟨c.Queue.toNat, by omega⟩
  have HQ := Lib.hid fun y => queueNew_c ga gp q y (by omega)
  have hmm := @run_makeMap Tryz.prog
  have Hq := Lib.hid hq
  clear hn
  go_enter Tryz.func16, Tryz.ntmps16
  go_upto_region 1 with (refine box_cfg rfl _ rfl c rfl ?_; intro w1 B1 G1 z1)
  have b1 := B1.cell
  simp only [Cfg.arr, Hq.out] at b1
  go_upto_region 4 with (go_at_call 35; refine (HQ.out _).mono ?_; rintro e w2 ⟨gq, gl, rfl, Q⟩)
  have B2 := B1.same Q.G
  clear b1
  go_wp2_with (refine load_cfg rfl _ rfl _ rfl c B2 ?_)
  have hM := World.ownsMap_made (H := Unit) w2 Tryz.prog 3 (plainElem Tryz.prog 130)
  have G2 := grownBy_trans G1 Q.G
  have hz := Q.old
  have hQ := Q.blk
  have hz2 := Q.G.size
  have hz3 := hQ.lt
  have hqt : c.Queue.toNat = q := by have := Hq.out; omega
  go_ret2
  refine ⟨w2.heap.size + 1, gq, gl, w2.heap.size, rfl, ⟨?_, ?_, hM.alloc _⟩, ⟨by omega, by omega, by omega⟩, grownBy_new_block (grownBy_new_block G2 _) _⟩
  · unfold shA
    rw [Hq.out]
    exact Blk.new' _ _ _ (by simp)
  · rw [hqt]
    exact (hQ.same (World.grownBy_alloc _ _ none)).same (World.grownBy_alloc _ _ none)
end Go.Proofs.YtkdbapbmbhmaiaaGreat

/- A cluster as it is made. -/
namespace Go.Proofs.YtkdbapbmbhmaiaaGreat
open Go.RowKit Go.Sort
attribute [local go_sem ↓] exec_load_cfg
attribute [local go_sem] run_loadCfgS

theorem run_loadVar_part {P : Program} (w : World) (g off : Nat) (ty : TypeId) (cs : Array Value) (d : TypeDesc) (hc : ∀ j v, cs[j]? = some v → w.cell? ⟨g, off + j, none⟩ = some v)
    (hu : P.underlying ty = some d) (hd : (match d with | .struct _ | .array _ _ => true | _ => false) = true) (hi : (P.info? ty).map (·.size) = some cs.size) :
    (loadVar ty ⟨g, off, none⟩).run P w = .ok (.agg cs) w := by
  have hl : (loadCells ⟨g, off, none⟩ cs.toList.length).run P w = .ok cs.toList.toArray w :=
    run_loadCells_list (P := P) w ⟨g, off, none⟩ cs.toList (fun j v hv => by
      have hadd : (⟨g, off, none⟩ : Addr).add j = ⟨g, off + j, none⟩ := by unfold Addr.add; split <;> simp_all
      rw [hadd]
      exact hc j v (by simpa using hv))
  cases hq : P.info? ty with
  | none => simp [hq] at hi
  | some i =>
    have hs : i.size = cs.size := by simpa [hq] using hi
    have hagg : (isAgg ty).run P w = .ok true w := by
      unfold isAgg
      rw [Sem.run_bind, run_underlying hu w]
      cases d <;> simp_all
    simp only [Array.length_toList, Array.toArray_toList] at hl
    simp [loadVar, Sem.run_bind, hagg, sizeOf, typeInfo, hq, hs, hl]
/-- The configuration lies in a block, at a place of it. -/
def CfgIn (w : World) (b off : Nat) (c : Cfg) : Prop := ∀ (j : Nat) (v : Value), c.arr[j]? = some v → w.cell? ⟨b, off + j, none⟩ = some v
theorem load_cfg_at {ops : Array Oper} {rest : List Oper} {o : Oper} {a : Act} {w : World} {Q : Exit → Act → World → Prop} (hgd : o.guard = none) (x : Operand) (ho : o.op = .load 31 x)
    (b off : Nat) (hx : a.eval x = .pointer (some ⟨b, off, none⟩)) (c : Cfg) (hc : CfgIn w b off c) (h : wpList Tryz.prog ops Q rest (a.put o.dst c.val) w) : wpList Tryz.prog ops Q (o :: rest) a w :=
  wpList_plain hgd fun _ hK => by
    unfold Oper.wp execOp
    simp only [ho, hx, Instr.loadAt, Instr.sureAddr, Sem.run_bind, Sem.run_pure, Result.andThen_ok, run_loadVar_part w b off 31 c.arr _ hc Tryz.underlying31 rfl size_cfg]
    exact hK _ _ h

/-- The cells of a cluster. -/
abbrev clA (c : Cfg) (va vs vl : Value) (wm : Int) : Array Value := #[.int .i64 c.Length, .int .i64 c.Lateness, .int .i64 c.Windows, .int .i64 c.Shards, .int .i64 c.Spread, .int .i64 c.Queue, .int .i64 c.Mode, .int .i64 c.Slots, .int .i64 c.Exact, .int .u64 c.Promote, .int .i64 c.Depth, .int .i64 c.Width, .int .i64 c.Top, .int .i64 c.Key, c.Classes, c.Table, .int .u64 c.Seed, va, vs, vl, .slice none 0 0, .int .u64 0, .bool false, .int .i64 wm]
theorem cfgIn_clA {w : World} {b : Nat} {c : Cfg} {va vs vl : Value} {wm : Int} (h : Blk w b (clA c va vs vl wm)) : CfgIn w b 0 c := fun j v hv => by
  rw [Nat.zero_add, h.cell]
  match j with
  | 0 | 1 | 2 | 3 | 4 | 5 | 6 | 7 | 8 | 9 | 10 | 11 | 12 | 13 | 14 | 15 | 16 => exact hv
  | n + 17 => simp [Cfg.arr] at hv

def shF (b : Nat) : List Value := [.pointer (some ⟨b, 0, none⟩)]
theorem shF_len (b : Nat) : (shF b).length = 1 := rfl
theorem one_sh : OneF shF := by intro x u hu; simp [shF] at hu; subst hu; rfl
theorem elt_sh : Elt 50 62 (.pointer none) 1 8 := ⟨Tryz.underlying50, by kernel_rfl, rfl, by decide⟩

/-- A cluster as it is made, in block g: its own configuration c, its shards sl. -/
structure CluNew (B : Nat) (w : World) (c : Cfg) (l : List (Int × Int)) (t : List Int) (g ga gp : Nat) (vs vl : Value) (sl : List Nat) : Prop where
  blk : Blk w g (clA c (.pointer (some ⟨ga, 0, none⟩)) vs vl 0)
  nums : CfgNums c
  mem : CfgMem c l t w
  cls : CfgCls c l
  own : Own shF 1 62 B w vs sl
  sh : ∀ b ∈ sl, ∃ gq gl gm, ShardNew w ga gp c b gq gl gm

def CluRet (c : Cfg) (l : List (Int × Int)) (t : List Int) (w : World) (e : Ending) (w' : World) : Prop :=
  ∃ ck g ga gp vs vl sl, e = .returned (.tuple #[.pointer (some ⟨g, 0, none⟩), .int .i64 0]) ∧ CluNew w.heap.size w' ck l t g ga gp vs vl sl ∧ (sl.length : Int) = ck.Shards ∧ (∃ v1 v2, ck = c.with v1 v2) ∧ w.grownBy w' none
/-- What stands while a cluster is made. -/
structure ClS (w : World) (bq kb ga : Nat) (c ck : Cfg) (l : List (Int × Int)) (t : List Int) (vs vl : Value) (W : World) : Prop where
  box : BoxAt W bq c
  blk : Blk W kb (clA ck (.pointer (some ⟨ga, 0, none⟩)) vs vl 0)
  o1 : Own clsF 2 72 w.heap.size W ck.Classes l
  o2 : Own wordF 1 27 w.heap.size W ck.Table t
  n1 : ∀ k, ck.Classes.ownBlock = some k → k < kb
  n2 : ∀ k, ck.Table.ownBlock = some k → k < kb
  lt : bq < kb
  old : w.heap.size ≤ kb
  grown : w.grownBy W none
section
variable {w : World} {bq kb ga : Nat} {c ck : Cfg} {l : List (Int × Int)} {t : List Int} {vs vl : Value} {W W' : World}
theorem ClS.off {r : Option Nat} (h : ClS w bq kb ga c ck l t vs vl W) (k : W.grownBy W' r) (hr : ∀ j, r = some j → kb < j) : ClS w bq kb ga c ck l t vs vl W' :=
  ⟨h.box.kept k (fun e => by have := hr _ e; have := h.lt; omega), h.blk.kept k (fun e => by have := hr _ e; omega),
    h.o1.kept k (fun q e e2 => by have := hr _ e2; have := h.n1 q e; omega), h.o2.kept k (fun q e e2 => by have := hr _ e2; have := h.n2 q e; omega), h.n1, h.n2, h.lt, h.old,
    grown_new h.grown k (fun q e => by have := hr _ e; have := h.old; omega)⟩
theorem ClS.same (h : ClS w bq kb ga c ck l t vs vl W) (k : W.grownBy W' none) : ClS w bq kb ga c ck l t vs vl W' := h.off k (fun j e => by cases e)
theorem ClS.put (h : ClS w bq kb ga c ck l t vs vl W) (v : Value) : ClS w bq kb ga c ck l t v vl (W.setCell ⟨kb, 18, none⟩ v) := by
  have k : W.grownBy (W.setCell ⟨kb, 18, none⟩ v) (some kb) := grownBy_set (grownBy_refl _ _) _ _
  exact ⟨h.box.kept k (by have := h.lt; simp; omega), h.blk.set_ 18 v rfl, h.o1.kept k (fun q e e2 => by have := h.n1 q e; simp at e2; omega), h.o2.kept k (fun q e e2 => by have := h.n2 q e; simp at e2; omega), h.n1, h.n2, h.lt, h.old, grownBy_new h.grown k h.old⟩
end
theorem ShardNew.gmlt {w : World} {ga gp : Nat} {c : Cfg} {g gq gl gm : Nat} (h : ShardNew w ga gp c g gq gl gm) : gm < w.heap.size := by
  obtain ⟨es, ck, hh, _⟩ := h.own
  exact (Array.getElem?_eq_some_iff.1 hh).1
def ShRet (ga gp : Nat) (ck : Cfg) (w : World) (v : Value) (w' : World) : Prop := ∃ g gq gl gm : Nat, v = .tuple #[.pointer (some ⟨g, 0, none⟩), .int .i64 0] ∧ ShardNew w' ga gp ck g gq gl gm ∧ (w.heap.size ≤ g ∧ w.heap.size ≤ gq ∧ w.heap.size ≤ gm)
/-- A shard in the list: it does not lie where the list does. -/
def ShOk (kb ga gp : Nat) (ck : Cfg) (vs : Value) (W : World) (b : Nat) : Prop := ∃ gq gl gm, ShardNew W ga gp ck b gq gl gm ∧ (kb < b ∧ kb < gq ∧ kb < gm) ∧ ∀ k, vs.ownBlock = some k → k ≠ b ∧ k ≠ gq ∧ k ≠ gm
theorem ShOk.off {kb ga gp : Nat} {ck : Cfg} {vs vs' : Value} {W W' : World} {b : Nat} {n : Nat} (h : ShOk kb ga gp ck vs W b) (k : W.grownBy W' vs.ownBlock) (hl : Lies vs vs' n) (hn : W.heap.size ≤ n) : ShOk kb ga gp ck vs' W' b := by
  obtain ⟨gq, gl, gm, hs, hb, hv⟩ := h
  have h1 := hs.blk.lt
  have h2 := hs.que.lt
  have h3 := hs.gmlt
  refine ⟨gq, gl, gm, ?_, hb, fun q e => ?_⟩
  · cases hq : vs.ownBlock with
    | none => rw [hq] at k; exact hs.same k
    | some q => rw [hq] at k; obtain ⟨a1, a2, a3⟩ := hv q hq; exact hs.off k a1.symm a2.symm a3.symm
  · rcases hl with h | ⟨g, e1, e2⟩
    · exact hv q (h ▸ e)
    · rw [e1] at e; cases e; omega
theorem ShOk.same {kb ga gp : Nat} {ck : Cfg} {vs : Value} {W W' : World} {b : Nat} (h : ShOk kb ga gp ck vs W b) (k : W.grownBy W' none) : ShOk kb ga gp ck vs W' b := by
  obtain ⟨gq, gl, gm, hs, hb, hv⟩ := h
  exact ⟨gq, gl, gm, hs.same k, hb, hv⟩
theorem ShOk.put {kb ga gp : Nat} {ck : Cfg} {vs : Value} {W : World} {b : Nat} (h : ShOk kb ga gp ck vs W b) (o : Nat) (v : Value) : ShOk kb ga gp ck vs (W.setCell ⟨kb, o, none⟩ v) b := by
  obtain ⟨gq, gl, gm, hs, hb, hv⟩ := h
  exact ⟨gq, gl, gm, hs.off (grownBy_set (grownBy_refl _ _) _ _) (by omega) (by omega) (by omega), hb, hv⟩

set_option maxHeartbeats 2000000 in
set_option maxRecDepth 100000 in
theorem cluNew_c (c : Cfg) (l : List (Int × Int)) (t : List Int) (w : World) (hn : CfgNums c) (hm : CfgMem c l t w) (hc : ClsFit c l) : Calls Tryz.prog 5 #[c.val] w (CluRet c l t w) := by
  obtain ⟨a1, k1, hv1⟩ := hm.classes.shape
  obtain ⟨s1, s2⟩ := hn.shards
  have HV := Lib.hid fun y (h : w.grownBy y none) => validate_c c l t y hn (hm.same h) hc
  have HCl := Lib.hid fun y (h : w.grownBy y none) => cluClone_c c l t y (hm.classes.same h) (hm.table.same h) hc.cls.ok.len hm.tlen
  have HA := Lib.hid fun y (h : w.grownBy y none) => arenaNew_c (.slice a1 l.length k1) l y (by rw [← hv1]; exact hm.classes.same h) hc.cls.ok
  have HT := Lib.hid fun y (h : w.grownBy y none) => sizTrk_c c l t y hn (hm.same h) hc.cls
  obtain ⟨q1, q2⟩ := hn.queue
  have R2 := trkN_bd hn
  have R3 := queN_bd hn
  have R4 : 1 * 1 ≤ c.Shards * c.Queue := Int.mul_le_mul s1 q1 (by omega) (by omega)
  unfold queN at R3
  obtain ⟨r2a, r2b⟩ := R2
  obtain ⟨r3a, r3b⟩ := R3
  have Hn := Lib.hid hn
  have Hm := Lib.hid hm
  have Hc := Lib.hid hc
  clear hn hm hc
  go_enter Tryz.func5, Tryz.ntmps5
  go_upto_region 1 with (refine box_cfg rfl _ rfl c rfl ?_; intro w1 B1 G1 z1)
  go_upto_region 4 with (first
    | (refine load_cfg rfl _ rfl _ rfl c B1 ?_)
    | (go_at_call 10; refine (HV.out _ G1).mono ?_; rintro e w2 ⟨rfl, g2⟩; have B2 := B1.same g2; have G2 := grownBy_trans G1 g2; clear B1 G1 g2))
  go_upto_region 5 with (first
    | (refine load_cfg rfl _ rfl _ rfl c B2 ?_)
    | (go_at_call 11; refine (HCl.out _ G2).mono ?_; rintro e w3 ⟨v1, v2, rfl, O1, O2, g3⟩)
    | (go_at_call 12; refine (ledNew_c _).mono ?_; rintro e w4 ⟨gL, gLm, rfl, L4, l1, l2, l3, l4, g4⟩))
  have hkb : w2.heap.size < w4.heap.size := by have := g3.size; have := l1; have := l3; omega
  obtain ⟨ck, hck⟩ : ∃ ck : Cfg, ck = c.with v1 v2 := ⟨_, rfl⟩
  have hcs : ck.Shards = c.Shards := by rw [hck]
  have hb1 : ∀ k, v1.ownBlock = some k → k < w4.heap.size := fun k e => Nat.lt_of_lt_of_le (O1.lt k e).2 g4.size
  have hb2 : ∀ k, v2.ownBlock = some k → k < w4.heap.size := fun k e => Nat.lt_of_lt_of_le (O2.lt k e).2 g4.size
  have hw2 := G2.size
  have Hck := Lib.hid hck
  have HO := Lib.hid (And.intro ((O1.same g4).same (World.grownBy_alloc w4 (.cells (clA ck (.pointer none) (.slice none 0 0) (.pointer (some ⟨gL, 0, none⟩)) 0) 55) none)) ((O2.same g4).same (World.grownBy_alloc w4 (.cells (clA ck (.pointer none) (.slice none 0 0) (.pointer (some ⟨gL, 0, none⟩)) 0) 55) none)))
  have G4 := grownBy_trans (grownBy_trans G2 g3) g4
  have B5 := (B2.same (grownBy_trans g3 g4)).same (World.grownBy_alloc w4 (.cells (clA ck (.pointer none) (.slice none 0 0) (.pointer (some ⟨gL, 0, none⟩)) 0) 55) none)
  have D5 := Blk.new w4 (clA ck (.pointer none) (.slice none 0 0) (.pointer (some ⟨gL, 0, none⟩)) 0) 55
  have G5 := grownBy_new_block G4 (.cells (clA ck (.pointer none) (.slice none 0 0) (.pointer (some ⟨gL, 0, none⟩)) 0) 55)
  have e1 : (Obj.cells #[.int .i64 c.Length, .int .i64 c.Lateness, .int .i64 c.Windows, .int .i64 c.Shards, .int .i64 c.Spread, .int .i64 c.Queue, .int .i64 c.Mode, .int .i64 c.Slots, .int .i64 c.Exact, .int .u64 c.Promote, .int .i64 c.Depth, .int .i64 c.Width, .int .i64 c.Top, .int .i64 c.Key, v1, v2, .int .u64 c.Seed, .pointer none, .slice none 0 0, .pointer (some ⟨gL, 0, none⟩), .slice none 0 0, .int .u64 0, .bool false, .int .i64 0] 55) = .cells (clA ck (.pointer none) (.slice none 0 0) (.pointer (some ⟨gL, 0, none⟩)) 0) 55 := by rw [hck]
  rw [e1]
  clear e1 hck L4 l1 l2 l3 l4 g3 g4 G4 G2 B2 O1 O2 z1
  have hz5 : w4.heap.size < (w4.alloc (.cells (clA ck (.pointer none) (.slice none 0 0) (.pointer (some ⟨gL, 0, none⟩)) 0) 55)).heap.size := by simp
  generalize w4.alloc (.cells (clA ck (.pointer none) (.slice none 0 0) (.pointer (some ⟨gL, 0, none⟩)) 0) 55) = w5 at *
  generalize w4.heap.size = kb at *
  have b5 := B5.cell
  simp only [Cfg.arr, hv1] at b5
  go_upto_region 7 with (first
    | (go_at_call 13; refine (HA.out _ G5).mono ?_; rintro e w6 ⟨ga, rfl, A6⟩; have D6 := D5.same A6.G; have B6 := B5.same A6.G; have G6 := grownBy_trans G5 A6.G; have HO6 := Lib.hid (And.intro (HO.out.1.same A6.G) (HO.out.2.same A6.G)); have d6 := D6.cell; have df6 := D6.free; clear b5 D5 B5))
  clear d6 df6
  have S7 : ClS w w.heap.size kb ga c ck l t (.slice none 0 0) (.pointer (some ⟨gL, 0, none⟩)) (w6.setCell ⟨kb, 17, none⟩ (.pointer (some ⟨ga, 0, none⟩))) := by
    have k : w6.grownBy (w6.setCell ⟨kb, 17, none⟩ (.pointer (some ⟨ga, 0, none⟩))) (some kb) := grownBy_set (grownBy_refl _ _) _ _
    have hk := Hck.out
    have hA := HO6.out.1
    have hB := HO6.out.2
    have e1 : ck.Classes = v1 := by rw [hk]
    have e2 : ck.Table = v2 := by rw [hk]
    refine ⟨B6.kept k (by simp; omega), D6.set_ 17 _ rfl, ?_, ?_, ?_, ?_, by omega, by omega, grownBy_new G6 k (by omega)⟩
    · rw [e1]; exact (hA.kept k (fun q e h => by have := hb1 q e; simp at h; omega)).base (fun q e => by have := (hA.lt q e).1; omega)
    · rw [e2]; exact (hB.kept k (fun q e h => by have := hb2 q e; simp at h; omega)).base (fun q e => by have := (hB.lt q e).1; omega)
    · rw [e1]; exact hb1
    · rw [e2]; exact hb2
  have hz7 : kb < (w6.setCell ⟨kb, 17, none⟩ (.pointer (some ⟨ga, 0, none⟩))).heap.size := S7.blk.lt
  generalize w6.setCell ⟨kb, 17, none⟩ (.pointer (some ⟨ga, 0, none⟩)) = w7 at *
  clear B6 D6 G6 A6 HO6 HO hb1 hb2 G5 hz5
  go_upto_region 9 with fail
  have S9 := S7.same (W' := w7.drew) (by (repeat (first | exact grownBy_refl _ _ | assumption | refine grownBy_new_block ?_ _ | refine grownBy_drew ?_ | refine grownBy_drewN ?_ _ | refine grownBy_setNew ?_ (by first | (simp; done) | omega | (simp; omega)) _)))
  have hz9 : kb < w7.drew.heap.size := hz7
  have hk9 := S9.lt
  (refine Rg.wp_region_rgZ 18 #[] (fun w w' => World.grownBy w w' none) (fun k _ w v w' => match k with | 5 => v = .int .i64 (trkN c) ∧ World.grownBy w w' none | 12 => (∃ gp : Nat, v = .tuple #[.pointer (some ⟨gp, 0, none⟩), .int .i64 0]) ∧ World.grownBy w w' none | _ => False) (by kernel_rfl) (by kernel_rfl) (fun w => grownBy_refl w none) (fun _ _ _ h k => grownBy_trans h k) (fun _ _ _ _ _ h => h) ?_; simp only [List.take, List.drop])
  clear S7 hz7
  generalize w7.drew = w9 at *
  have HS := Lib.hid S9
  clear S9
  (refine Rg.tree_quiet 3 rfl (by first | exact Or.inl rfl | exact Or.inr rfl) ?_; simp only [List.take, List.drop, List.length_cons, List.length_nil, List.replicate, Nat.reduceAdd]; (try simp only [List.cons_append]); (try simp only [List.nil_append]); (repeat (go_big_quiet_step (fail))); refine wpQuiet_nil ?_)
  (refine Rg.tree_op rfl rfl ?_; intro x3 mx3 dx3)
  clear dx3
  have cx := (HS.out.same mx3).blk.cell
  go_wp2_with fail
  refine ⟨grownBy_refl _ _, ?_⟩
  clear cx
  (refine Rg.tree_op rfl rfl ?_; intro x4 mx4 dx4)
  clear dx4
  have BX := (HS.out.same mx4).box
  go_wp2_with (refine load_cfg rfl _ rfl _ rfl c (by assumption) ?_)
  refine ⟨grownBy_refl _ _, ?_⟩
  clear BX
  (refine Rg.tree_call rfl rfl rfl ?_; intro x5 mx5 dx5; refine ⟨?_, ?_⟩; · (unfold Rg.callSpec; go_simp; (refine (HT.out x5 (grownBy_trans HS.out.grown mx5)).mono ?_; rintro e w' ⟨rfl, g⟩; exact ⟨_, rfl, rfl, g⟩)))
  clear dx5
  rintro v5 y5 ⟨rfl, g5⟩
  refine ⟨g5, ?_⟩
  clear g5
  simp only [Act.put, List.setIfInBounds_toArray, List.set_cons_zero, List.set_cons_succ]
  (refine Rg.tree_quiet 1 rfl (by first | exact Or.inl rfl | exact Or.inr rfl) ?_; simp only [List.take, List.drop, List.length_cons, List.length_nil, List.replicate, Nat.reduceAdd]; (try simp only [List.cons_append]); (try simp only [List.nil_append]); (repeat (go_big_quiet_step (fail))); refine wpQuiet_nil ?_)
  (refine Rg.tree_op rfl rfl ?_; intro x7 mx7 dx7)
  clear dx7
  have cx := (HS.out.same mx7).box.cell
  go_wp2_with fail
  refine ⟨grownBy_refl _ _, ?_⟩
  clear cx
  (refine Rg.tree_quiet 1 rfl (by first | exact Or.inl rfl | exact Or.inr rfl) ?_; simp only [List.take, List.drop, List.length_cons, List.length_nil, List.replicate, Nat.reduceAdd]; (try simp only [List.cons_append]); (try simp only [List.nil_append]); (repeat (go_big_quiet_step (fail))); refine wpQuiet_nil ?_)
  (refine Rg.tree_op rfl rfl ?_; intro x9 mx9 dx9)
  clear dx9
  have cx := (HS.out.same mx9).box.cell
  go_wp2_with fail
  refine ⟨grownBy_refl _ _, ?_⟩
  clear cx
  (refine Rg.tree_quiet 2 rfl (by first | exact Or.inl rfl | exact Or.inr rfl) ?_; simp only [List.take, List.drop, List.length_cons, List.length_nil, List.replicate, Nat.reduceAdd]; (try simp only [List.cons_append]); (try simp only [List.nil_append]); (repeat (go_big_quiet_step (fail))); refine wpQuiet_nil ?_)
  (refine Rg.tree_call rfl rfl rfl ?_; intro x12 mx12 dx12; refine ⟨?_, ?_⟩; · (unfold Rg.callSpec; go_simp; (refine (poolNew_c ga (trkN c + c.Shards * c.Queue) x12 ⟨by omega, by omega⟩).mono ?_; rintro e w' ⟨gp, ge, gm, rfl, P⟩; exact ⟨_, rfl, ⟨gp, rfl⟩, P.G⟩)))
  clear dx12
  rintro v12 y12 ⟨⟨gp, rfl⟩, g12⟩
  refine ⟨g12, ?_⟩
  clear g12
  simp only [Act.put, List.setIfInBounds_toArray, List.set_cons_zero, List.set_cons_succ]
  (refine Rg.tree_quiet 5 rfl (by first | exact Or.inl rfl | exact Or.inr rfl) ?_; simp only [List.take, List.drop, List.length_cons, List.length_nil, List.replicate, Nat.reduceAdd]; (try simp only [List.cons_append]); (try simp only [List.nil_append]); (repeat (go_big_quiet_step (fail))); refine wpQuiet_nil ?_)
  (refine Rg.tree_nil ?_; intro z mz dz cz)
  have SZ := HS.out.same mz
  have hzz : kb < z.heap.size := SZ.blk.lt
  clear HS mx3 mx4 mx5 mx7 mx9 mx12 mz dz cz hz9
  have cz := SZ.box.cell
  have HS := Lib.hid SZ
  have Hsh := Lib.hid fun y => shardNew_c ga gp ck y (by rw [Hck.out]; exact Hn.out.with v1 v2)
  go_upto_region 13 with fail
  clear SZ cz
  go_loopw [53] (fun s53 wk => ∃ (i : Nat) (vs : Value) (sl : List Nat), s53 = .int .i64 i ∧ (i : Int) ≤ c.Shards ∧ sl.length = i ∧ ClS w w.heap.size kb ga c ck l t vs (.pointer (some ⟨gL, 0, none⟩)) wk ∧ Own shF 1 62 (kb + 1) wk vs sl ∧ (∀ b ∈ sl, ShOk kb ga gp ck vs wk b)) (fun s53 _ => (c.Shards - (match s53 with | .int _ q => q | _ => 0)).toNat)
  case atStart => exact ⟨0, _, [], rfl, by omega, rfl, HS.out, Own.nil _ _ _ _ _, by simp⟩
  case round =>
    clear HS
    obtain ⟨i, vs, sl, rfl, hi, hsl, S, O, hall⟩ := hrel
    have HAll := Lib.hid hall
    have HO := Lib.hid O
    have Hsl := Lib.hid hsl
    have hzw : kb < wr.heap.size := S.blk.lt
    clear hall hsl
    by_cases hlt : (i : Int) < c.Shards
    · clear O
      go_upto_region 14 with fail
      have S9 := S.same (W' := wr.drew) (by (repeat (first | exact grownBy_refl _ _ | assumption | refine grownBy_new_block ?_ _ | refine grownBy_drew ?_ | refine grownBy_drewN ?_ _ | refine grownBy_setNew ?_ (by first | (simp; done) | omega | (simp; omega)) _)))
      have hz9 : kb < wr.drew.heap.size := hzw
      have K9 : wr.grownBy wr.drew none := (by (repeat (first | exact grownBy_refl _ _ | assumption | refine grownBy_new_block ?_ _ | refine grownBy_drew ?_ | refine grownBy_drewN ?_ _ | refine grownBy_setNew ?_ (by first | (simp; done) | omega | (simp; omega)) _)))
      (refine Rg.wp_region_rgZ 15 #[] (fun w w' => World.grownBy w w' none) (fun k _ w v w' => match k with | 9 => ShRet ga gp ck w v w' ∧ World.grownBy w w' none | _ => False) (by kernel_rfl) (by kernel_rfl) (fun w => grownBy_refl w none) (fun _ _ _ h k => grownBy_trans h k) (fun _ _ _ _ _ h => h) ?_; simp only [List.take, List.drop])
      have HS := Lib.hid S9
      have HK := Lib.hid K9
      clear S9 S K9
      generalize wr.drew = w9 at *
      (refine Rg.tree_quiet 3 rfl (by first | exact Or.inl rfl | exact Or.inr rfl) ?_; simp only [List.take, List.drop, List.length_cons, List.length_nil, List.replicate, Nat.reduceAdd]; (try simp only [List.cons_append]); (try simp only [List.nil_append]); (repeat (go_big_quiet_step (fail))); refine wpQuiet_nil ?_)
      (refine Rg.tree_op rfl rfl ?_; intro x3 mx3 dx3)
      clear dx3
      have cx := (HS.out.same mx3).blk.cell
      go_wp2_with fail
      refine ⟨grownBy_refl _ _, ?_⟩
      clear cx
      (refine Rg.tree_quiet 4 rfl (by first | exact Or.inl rfl | exact Or.inr rfl) ?_; simp only [List.take, List.drop, List.length_cons, List.length_nil, List.replicate, Nat.reduceAdd]; (try simp only [List.cons_append]); (try simp only [List.nil_append]); (repeat (go_big_quiet_step (fail))); refine wpQuiet_nil ?_)
      (refine Rg.tree_op rfl rfl ?_; intro x8 mx8 dx8)
      clear dx8
      have CX := cfgIn_clA (HS.out.same mx8).blk
      go_wp2_with (refine load_cfg_at rfl _ rfl kb 0 rfl ck CX ?_)
      refine ⟨grownBy_refl _ _, ?_⟩
      clear CX
      (refine Rg.tree_call rfl rfl rfl ?_; intro x9 mx9 dx9; refine ⟨?_, ?_⟩; · (unfold Rg.callSpec; go_simp; (refine (Hsh.out x9).mono ?_; rintro e w' ⟨g, gq, gl, gm, rfl, h1, h2, h3⟩; exact ⟨_, rfl, ⟨g, gq, gl, gm, rfl, h1, h2⟩, h3⟩)))
      clear dx9
      rintro v9 y9 ⟨⟨g, gq, gl, gm, rfl, h1, h2⟩, g9⟩
      refine ⟨g9, ?_⟩
      have HSh := Lib.hid (And.intro h1 h2)
      clear h1 h2
      simp only [Act.put, List.setIfInBounds_toArray, List.set_cons_zero, List.set_cons_succ]
      (refine Rg.tree_quiet 5 rfl (by first | exact Or.inl rfl | exact Or.inr rfl) ?_; simp only [List.take, List.drop, List.length_cons, List.length_nil, List.replicate, Nat.reduceAdd]; (try simp only [List.cons_append]); (try simp only [List.nil_append]); (repeat (go_big_quiet_step (fail))); refine wpQuiet_nil ?_)
      (refine Rg.tree_nil ?_; intro z2 mz2 dz2 cz2)
      have hgz := dz2.out 9 (by omega)
      have hmx := mx9.size
      have SN := HSh.out.1.same hgz
      have hbn := HSh.out.2
      have S10 := HS.out.same mz2
      have K10 := grownBy_trans HK.out mz2
      have O10 := HO.out.same K10
      have hall : ∀ b ∈ sl, ShOk kb ga gp ck vs z2 b := fun b hb => (HAll.out b hb).same K10
      have hvl : ∀ k, vs.ownBlock = some k → k < x9.heap.size := fun k e => Nat.lt_of_lt_of_le (HO.out.lt k e).2 (Nat.le_trans HK.out.size hmx)
      have hzz := S10.blk.lt
      have SN2 : ShOk kb ga gp ck vs z2 g := ⟨gq, gl, gm, SN, by omega, fun k e => by have := hvl k e; omega⟩
      have HA2 := Lib.hid (p := ∀ b ∈ sl ++ [g], ShOk kb ga gp ck vs z2 b) (fun b hb => by
        rcases List.mem_append.1 hb with h | h
        · exact hall b h
        · rw [List.mem_singleton] at h; subst h; exact SN2)
      clear hall SN2 SN hbn hgz hmx mx3 mx8 mx9 g9 dz2 cz2 mz2 HSh HAll HS HK HO hvl K10
      go_upto_region 17 with fail
      have d10 := S10.blk.cell
      have f10 := S10.blk.free
      have hle : (sl ++ [g]).length = sl.length + 1 := by simp
      have hb1 : (sl.length + 1) * 8 ≤ 140737488355328 := by have := Hsl.out; omega
      have hb2 : sl.length + 1 ≤ 9223372036854775807 := by have := Hsl.out; omega
      go_wp2_with (at_builtin; refine app_one elt_sh one_sh shF_len O10 g hb1 hb2 (by omega) (by rfl) rfl (.tmp 75) (.tmp 77) rfl rfl rfl ?_; intro v11 w11 o11 g11 l11; have S11 := S10.off g11 (fun j e => by have := (O10.lt j e).1; omega); have hA11 := Lib.hid (p := ∀ b ∈ sl ++ [g], ShOk kb ga gp ck v11 w11 b) (fun b hb => (HA2.out b hb).off g11 l11 (Nat.le_refl _)); (obtain ⟨a11, c11, hv11⟩ := o11.shape); rw [hle] at hv11; subst hv11; have f11 := S11.blk.free; have d11 := S11.blk.cell 18; clear d10 f10)
      have SP := S11.put (.slice a11 (sl.length + 1) c11)
      have GP := grownBy_set (grownBy_refl w11 (some kb)) 18 (.slice a11 (sl.length + 1) c11)
      refine ⟨⟨i + 1, _, sl ++ [g], by go_num, by omega, by simp [Hsl.out], SP, o11.kept GP (fun k e h => by have := (o11.lt k e).1; simp at h; omega), fun b hb => (hA11.out b hb).put _ _⟩, by simp; omega⟩
    · have hie : (i : Int) = c.Shards := by omega
      clear O
      go_wp2_with fail
      go_ret2
      unfold CluRet
      refine ⟨ck, kb, ga, gp, vs, _, sl, rfl, ⟨S.blk, by rw [Hck.out]; exact Hn.out.with v1 v2, ⟨S.o1.rd, S.o2.rd, Hm.out.tlen, Hm.out.twords⟩, ?_, HO.out.base (fun k e => by have := (HO.out.lt k e).1; have := S.old; omega), fun b hb => by obtain ⟨gq, gl, gm, h, _⟩ := HAll.out b hb; exact ⟨gq, gl, gm, h⟩⟩, by rw [Hsl.out]; omega, ⟨v1, v2, Hck.out⟩, S.grown⟩
      have := Hc.out.cls
      rw [Hck.out]
      exact ⟨this.ok, this.last⟩
end Go.Proofs.YtkdbapbmbhmaiaaGreat

/- The order that picks determine: plain. -/
namespace Go.Proofs.YtkdbapbmbhmaiaaGreat

/-- The place that a pick chooses among n. -/
def pickAt (picks : List Int) (i n : Nat) : Nat := if i < picks.length then (picks.getD i 0 % (n : Int)).toNat else 0
theorem pickAt_lt (picks : List Int) (i n : Nat) (h : 0 < n) : pickAt picks i n < n := by
  unfold pickAt
  split
  · have a := Int.emod_nonneg (picks.getD i 0) (show (n : Int) ≠ 0 by omega)
    have b := Int.emod_lt_of_pos (picks.getD i 0) (show (0 : Int) < n by omega)
    omega
  · exact h
theorem pickAt_in (picks : List Int) (i n : Nat) (h : i < picks.length) (h0 : 0 < n) : ((pickAt picks i n : Nat) : Int) = picks.getD i 0 % (n : Int) := by
  unfold pickAt
  rw [if_pos h]
  have a := Int.emod_nonneg (picks.getD i 0) (show (n : Int) ≠ 0 by omega)
  omega
theorem pickAt_out (picks : List Int) (i n : Nat) (h : ¬ i < picks.length) : pickAt picks i n = 0 := by
  unfold pickAt; rw [if_neg h]
def ordGo (picks : List Int) : Nat → Nat → List Int → List Int
  | 0, _, _ => []
  | f + 1, i, L => L.getD (pickAt picks i L.length) 0 :: ordGo picks f (i + 1) (L.eraseIdx (pickAt picks i L.length))
def rangeI (n : Nat) : List Int := (List.range n).map (fun i : Nat => (i : Int))
theorem rangeI_len (n : Nat) : (rangeI n).length = n := by simp [rangeI]
theorem rangeI_succ (n : Nat) : rangeI (n + 1) = rangeI n ++ [(n : Int)] := by simp [rangeI, List.range_succ]
def order (picks : List Int) (n : Nat) : List Int := ordGo picks n 0 (rangeI n)
theorem ordGo_step (picks : List Int) (i : Nat) (L : List Int) (h : 0 < L.length) (O : List Int) :
    O ++ ordGo picks L.length i L = (O ++ [L.getD (pickAt picks i L.length) 0]) ++ ordGo picks (L.eraseIdx (pickAt picks i L.length)).length (i + 1) (L.eraseIdx (pickAt picks i L.length)) := by
  have hp := pickAt_lt picks i L.length h
  obtain ⟨f, hf⟩ : ∃ f, L.length = f + 1 := ⟨L.length - 1, by omega⟩
  have hl : (L.eraseIdx (pickAt picks i L.length)).length = f := by rw [List.length_eraseIdx]; rw [if_pos hp]; omega
  have e : ordGo picks L.length i L = L.getD (pickAt picks i L.length) 0 :: ordGo picks f (i + 1) (L.eraseIdx (pickAt picks i L.length)) := by
    conv => lhs; rw [hf]
    rfl
  rw [e, hl]; simp
theorem perm_eraseIdx : ∀ (L : List Int) (k : Nat) (h : k < L.length), (L[k] :: L.eraseIdx k).Perm L
  | x :: L, 0, _ => List.Perm.refl _
  | x :: L, k + 1, h => by
    simp only [List.getElem_cons_succ, List.eraseIdx_cons_succ]
    have hk : k < L.length := by simpa using h
    exact (List.Perm.swap x L[k] _).trans ((perm_eraseIdx L k (by simpa using h)).cons x)
theorem ordGo_perm (picks : List Int) : ∀ (n i : Nat) (L : List Int), L.length = n → (ordGo picks n i L).Perm L
  | 0, _, L, h => by rw [List.length_eq_zero_iff.1 h]; exact List.Perm.refl _
  | n + 1, i, L, h => by
    have hp := pickAt_lt picks i L.length (by omega)
    have h1 := ordGo_perm picks n (i + 1) (L.eraseIdx (pickAt picks i L.length)) (by rw [List.length_eraseIdx, if_pos hp]; omega)
    have h2 := perm_eraseIdx L _ hp
    refine List.Perm.trans ?_ h2
    have e : L.getD (pickAt picks i L.length) 0 = L[pickAt picks i L.length] := by simp [List.getD_eq_getElem?_getD, List.getElem?_eq_getElem hp]
    show (L.getD (pickAt picks i L.length) 0 :: _).Perm _
    rw [e]
    exact h1.cons _
theorem order_perm (picks : List Int) (n : Nat) : (order picks n).Perm (rangeI n) := ordGo_perm picks n 0 _ (rangeI_len n)
theorem order_len (picks : List Int) (n : Nat) : (order picks n).length = n := by rw [(order_perm picks n).length_eq, rangeI_len]
theorem order_count (picks : List Int) (n i : Nat) (h : i < n) : (order picks n).count (i : Int) = 1 := by
  rw [(order_perm picks n).count_eq, rangeI]
  have hn : (List.map (fun i : Nat => (i : Int)) (List.range n)).Nodup := by
    exact List.pairwise_map.2 (List.nodup_range.imp fun h e => h (Int.ofNat.inj e))
  rw [List.Nodup.count hn, if_pos]
  exact List.mem_map.2 ⟨i, List.mem_range.2 h, rfl⟩
end Go.Proofs.YtkdbapbmbhmaiaaGreat

/- The order of merging: merge.Order, its reference, slices.Delete, SameInts. -/
namespace Go.Proofs.YtkdbapbmbhmaiaaGreat
open Go.RowKit Go.Sort

theorem elt_int : Elt 65 3 (.int .i64 0) 1 8 := ⟨Tryz.underlying65, by kernel_rfl, rfl, by decide⟩
theorem one_int : OneF intF := by intro x u hu; simp [intF] at hu; subst hu; rfl
theorem cells_intF (l : List Int) : cellsOf intF l = l.map (fun x => Value.int .i64 x) := cells_int l
def sliceLen : Value → Nat
  | .slice _ n _ => n
  | _ => 0

end Go.Proofs.YtkdbapbmbhmaiaaGreat

/- The shards of a key. -/
namespace Go.Proofs.YtkdbapbmbhmaiaaGreat
open Go.RowKit
attribute [local go_sem ↓] exec_load_cfg
attribute [local go_sem] run_loadCfgS

/-- n shards from h on, of m. -/
def setN (h m : Int) (n : Nat) : List Int := (rangeI n).map (fun i => (h + i) % m)
theorem setN_len (h m : Int) (n : Nat) : (setN h m n).length = n := by simp [setN, rangeI_len]
theorem setN_succ (h m : Int) (n : Nat) : setN h m (n + 1) = setN h m n ++ [(h + n) % m] := by simp [setN, rangeI_succ]
def setF (c : Cfg) (t : List Int) (k : ByteArray) : List Int := setN (homeF c t k) c.Shards c.Spread.toNat
def eightA (l : List Int) : Array Value := ((l ++ List.replicate (8 - l.length) 0).map (fun x => Value.int .i64 x)).toArray
/-- What a function leaves that makes a slice to be read. -/
def RetRd {α : Type} (f : α → List Value) (s : Nat) (l : List α) (w : World) (en : Ending) (w' : World) : Prop := ∃ v, en = .returned v ∧ RdL f s w' v l ∧ w.grownBy w' none
def RetRdN {α : Type} (f : α → List Value) (s : Nat) (l : List α) (w : World) (en : Ending) (w' : World) : Prop := ∃ v, en = .returned v ∧ RdL f s w' v l ∧ (∀ a n k, v = .slice (some a) n k → w.heap.size ≤ a.block) ∧ w.grownBy w' none
theorem RetOwn.rd {α : Type} {f : α → List Value} {s : Nat} {e : TypeId} {l : List α} {w : World} {en : Ending} {w' : World} (h : RetOwn f s e l w en w') : RetRd f s l w en w' := by
  obtain ⟨v, h1, h2, h3⟩ := h; exact ⟨v, h1, h2.rd, h3⟩

theorem homeF_bd (c : Cfg) (t : List Int) (k : ByteArray) (h : 1 ≤ c.Shards) : 0 ≤ homeF c t k ∧ homeF c t k < c.Shards := slotF_bd _ _ h
theorem slice_arr8 (ar k : Nat) (hk : k ≤ 8) (w : World) : (Instr.sliceAt 95 (.pointer (some ⟨ar, 0, none⟩)) none (some (.int .i64 k)) (some (.int .i64 k))).run Tryz.prog w = .ok (.slice (some ⟨ar, 0, none⟩) k k) w := by
  have e : Tryz.prog.arrayLen 95 = 8 := by kernel_rfl
  have e2 : Tryz.prog.elem 95 = 3 := by kernel_rfl
  have := run_sliceAt_array_hm (P := Tryz.prog) w 95 ⟨ar, 0, none⟩ (by rw [e, e2]; exact Tryz.underlying95) .i64 .i64 (k : Int) k (by omega) (by omega) (by rw [e]; omega)
  rw [this, e2]
  simp only [go_sem]
  simp
theorem eightA_get {l : List Int} (h : l.length < 8) : (eightA l)[l.length]? = some (.int .i64 0) := by
  unfold eightA
  obtain ⟨m, hm⟩ : ∃ m, 8 - l.length = m + 1 := ⟨7 - l.length, by omega⟩
  simp [hm, List.replicate_succ]
theorem eightA_set {l : List Int} (h : l.length < 8) (x : Int) : (eightA l).setIfInBounds l.length (.int .i64 x) = eightA (l ++ [x]) := by
  unfold eightA
  obtain ⟨m, hm⟩ : ∃ m, 8 - l.length = m + 1 := ⟨7 - l.length, by omega⟩
  have hm2 : 8 - (l ++ [x]).length = m := by simp; omega
  rw [hm, hm2, List.replicate_succ]
  simp
theorem eightA_rd {w : World} {ar : Nat} {l : List Int} {t : TypeId} {f : Nat × Nat} (h : w.heap[ar]? = some (.cells (eightA l) t f)) (hl : l.length ≤ 8) (c : Nat) : RdL intF 1 w (.slice (some ⟨ar, 0, none⟩) l.length c) l := by
  refine ⟨length_cellsOf _ 1 intF_len _, by omega, .inr ⟨ar, 0, c, rfl, (Array.getElem?_eq_some_iff.1 h).1, fun j u hu => ?_⟩⟩
  rw [cells_intF] at hu
  have hj : j < l.length := by have := (List.getElem?_eq_some_iff.1 hu).1; simpa using this
  simp only [World.cell?, h, Nat.zero_add, eightA]
  simp only [List.getElem?_toArray, List.map_append]
  rw [List.getElem?_append_left (by simpa using hj)]; simpa using hu

set_option maxHeartbeats 400000 in
set_option maxRecDepth 100000 in
theorem set_cN (c : Cfg) (t : List Int) (k : ByteArray) (w : World) (h : RCfg w c t) (hk : k.size ≤ 9223372036854775807) : Calls Tryz.prog 45 #[c.val, .string k] w (RetRdN intF 1 (setF c t k) w) := by
  have H := Lib.hid h
  obtain ⟨h1, h2⟩ := homeF_bd c t k h.shards.1
  obtain ⟨h3, h4⟩ := h.shards
  obtain ⟨h5, h6⟩ := h.spread
  obtain ⟨N, hN⟩ : ∃ N, c.Spread.toNat = N := ⟨_, rfl⟩
  have hN1 : c.Spread ≤ N := by omega
  have hN2 : N ≤ 8 := by omega
  have hN3 : ∀ k : Nat, k ≤ N → c.Spread ≤ (k : Int) → k = N := by omega
  have HN := Lib.hid hN3
  have hF : setF c t k = setN (homeF c t k) c.Shards N := by unfold setF; rw [hN]
  have HSp := Lib.hid (p := c.Spread = (N : Int)) (by omega)
  rw [hF]
  clear h hF hN hN3
  go_enter Tryz.func45, Tryz.ntmps45
  go_upto_region 4 with (first | (refine box_cfg rfl _ rfl c rfl ?_; intro w1 B1 G1 z1) | (refine load_cfg rfl _ rfl _ rfl c (by assumption) ?_) | (go_at_call 52; refine (routeCheck_c c t _ (H.out.same G1)).mono ?_; rintro e w2 ⟨rfl, G2⟩))
  have hA : (w2.alloc (.cells (eightA []) 95)).heap[w2.heap.size]? = some (.cells (eightA []) 95) := heap_alloc_new w2 _
  have B2 : BoxAt (w2.alloc (.cells (eightA []) 95)) w.heap.size c := (B1.same G2).same (World.grownBy_alloc _ _ _)
  have K2 : w.grownBy (w2.alloc (.cells (eightA []) 95)) none := grownBy_trans G1 (grownBy_trans G2 (World.grownBy_alloc _ _ _))
  have z2 : w.heap.size < w2.heap.size := Nat.lt_of_lt_of_le z1 G2.size
  have z3 : w2.heap.size < (w2.alloc (.cells (eightA []) 95)).heap.size := by simp
  obtain ⟨ar, har⟩ : ∃ ar, ar = w2.heap.size := ⟨_, rfl⟩
  rw [← har] at hA z2 z3
  have e8 : eightA [] = #[.int .i64 0, .int .i64 0, .int .i64 0, .int .i64 0, .int .i64 0, .int .i64 0, .int .i64 0, .int .i64 0] := rfl
  rw [e8] at hA B2 K2 z3
  rw [← har]
  generalize w2.alloc (.cells #[.int .i64 0, .int .i64 0, .int .i64 0, .int .i64 0, .int .i64 0, .int .i64 0, .int .i64 0, .int .i64 0] 95) = wa at *
  clear har G1 G2 B1 z1 e8
  go_upto_region 6 with (first | (refine load_cfg rfl _ rfl _ rfl c (by assumption) ?_) | (go_at_call 59; refine (home_c c t k _ (H.out.same K2) hk).mono ?_; rintro e w3 ⟨rfl, G3⟩; have B3 := B2.same G3; have b3 := B3.cell; have A3 := (G3.block ar z3 (by simp)).trans hA; have K3 := grownBy_trans K2 G3; have z4 := Nat.lt_of_lt_of_le z3 G3.size))
  clear hA B2 K2 z3 G3 b3
  generalize homeF c t k = h at *
  go_loopw [7, 16] (fun s7 s16 wr => ∃ k : Nat, k ≤ N ∧ s16 = .int .i64 k ∧ wr.heap[ar]? = some (.cells (eightA (setN h c.Shards k)) 95) ∧ BoxAt wr w.heap.size c ∧ w.grownBy wr none) (fun _ s16 _ => N - (RowKit.intOf s16).toNat)
  case atStart => exact ⟨0, Nat.zero_le _, rfl, A3, B3, K3⟩
  case round =>
    obtain ⟨k, hk, rfl, hA, hB, hg⟩ := hrel
    clear A3 B3 K3
    have b1 := hB.cell
    have hrl := setN_len h c.Shards k
    by_cases hlt : (k : Int) < c.Spread
    · have hk8 : k < 8 := by omega
      have HS := Lib.hid (setN_succ h c.Shards k)
      have hz : (c.Shards == 0) = false := beq_eq_false_iff_ne.2 (by omega)
      have ck : wr.cell? ⟨ar, k, none⟩ = some (.int .i64 0) := by
        have := eightA_get (l := setN h c.Shards k) (by omega)
        rw [hrl] at this
        simp only [World.cell?, hA]; exact this
      have fk : wr.frozen? ⟨ar, k, none⟩ = false := by simp [World.frozen?, hA]
      have HA := Lib.hid hA
      have HB := Lib.hid hB
      have Hrl := Lib.hid hrl
      have hk0 : (0 : Int) ≤ (k : Int) := by omega
      have hk7 : (k : Int) < 8 := by omega
      clear hA hB hrl
      go_wp2_with fail
      refine ⟨⟨k + 1, by omega, by go_num, ?_, HB.out.kept (grownBy_set (grownBy_refl wr (some ar)) k _) (by simp; omega), grownBy_setNew hg (by simp; omega) _⟩, by simp [RowKit.intOf]; omega⟩
      rw [heap_set _ HA.out, HS.out]
      have := eightA_set (l := setN h c.Shards k) (by rw [Hrl.out]; exact hk8) ((h + k) % c.Shards)
      rw [Hrl.out] at this
      rw [this]
    · obtain rfl : k = N := HN.out k hk (by omega)
      have hSp : c.Spread = (k : Int) := HSp.out
      have hsl := slice_arr8 ar k hN2
      have HA := Lib.hid hA
      clear hk HN hN1 hlt h6 h5 hA
      go_wp2_with fail
      go_ret
      refine ⟨_, rfl, ?_, fun a n k e => by cases e; simp only; omega, hg⟩
      have := eightA_rd HA.out (by rw [hrl]; exact hN2) k
      rw [hrl] at this
      exact this
theorem set_c (c : Cfg) (t : List Int) (k : ByteArray) (w : World) (h : RCfg w c t) (hk : k.size ≤ 9223372036854775807) : Calls Tryz.prog 45 #[c.val, .string k] w (RetRd intF 1 (setF c t k) w) :=
  (set_cN c t k w h hk).mono fun _ _ ⟨v, h1, h2, _, h3⟩ => ⟨v, h1, h2, h3⟩
end Go.Proofs.YtkdbapbmbhmaiaaGreat
