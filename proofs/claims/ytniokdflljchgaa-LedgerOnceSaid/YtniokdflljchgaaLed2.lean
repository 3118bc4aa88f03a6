/- The ledger: rejects, windows, and where there is none: the program's functions. -/
import Derived.Test.YtniokdflljchgaaLed
import Derived.Test.YtniokdflljchgaaRetO
import Derived.Test.YtniokdflljchgaaRg
namespace Go.Proofs.Ytniokdflljchgaa
open Go.RowKit Go.Maps Go.Sort

theorem ledA_set (bm : Nat) (acc : Int) (R : List Int) (k : Nat) (x : Int) : (ledA bm acc R).setIfInBounds (2 + k) (.int .u64 x) = ledA bm acc (R.set k x) := by
  simp [ledA, Nat.add_comm 2 k, List.map_set]
def rejE (r : Int) : Int := if r < 1 ∨ 6 < r then 1 else 0
def rejR (R : List Int) (r : Int) : List Int := if r < 1 ∨ 6 < r then R else R.set r.toNat (satA (R.getD r.toNat 0) 1)
theorem rejR_len (R : List Int) (r : Int) : (rejR R r).length = R.length := by unfold rejR; split <;> simp
theorem w64_get {R : List Int} (h : ∀ x ∈ R, W64 x) (k : Nat) : W64 (R.getD k 0) := by
  rw [List.getD_eq_getElem?_getD]
  cases hk : R[k]? with
  | none => exact ⟨by simp, by simp⟩
  | some x => exact h x (List.mem_of_getElem? hk)
theorem rejR_w {R : List Int} (h : ∀ x ∈ R, W64 x) (r : Int) : ∀ x ∈ rejR R r, W64 x := by
  unfold rejR; split
  · exact h
  · intro x hx
    rcases List.mem_or_eq_of_mem_set hx with h1 | h1
    · exact h x h1
    · rw [h1]; exact satA_w (w64_get h _) ⟨by omega, by omega⟩

theorem one_word1 : OneF wordF := by intro x u hu; simp [wordF] at hu; subst hu; rfl
theorem elt_word1 : Elt 44 47 (.int .u64 0) 1 8 := ⟨Try.underlying44, by kernel_rfl, rfl, by decide⟩

set_option maxHeartbeats 800000 in
set_option maxRecDepth 100000 in
theorem ledReject_c (b bm n : Nat) (L : List (Int × Int)) (acc : Int) (R : List Int) (r : Int) (w : World) (h : Led w b bm n L acc R) :
    Calls Try.prog 25 #[.pointer (some ⟨b, 0, none⟩), .int .i64 r] w (fun e w' => e = .returned (.int .i64 (rejE r)) ∧ Led w' b bm n L acc (rejR R r) ∧ GrownS (Two b bm) w w') := by
  have H := Lib.hid h
  by_cases hr : r < 1 ∨ 6 < r
  · have h1 := Lib.hid (show rejE r = 1 from if_pos hr)
    have h2 : rejR R r = R := if_pos hr
    rw [h2]
    clear h
    by_cases hr1 : r < 1
    · go_enter Try.func25, Try.ntmps25
      go_wp2
      go_ret
      exact ⟨by rw [h1.out]; rfl, H.out, GrownS.refl _ _⟩
    · have hr2 : 6 < r := by omega
      go_enter Try.func25, Try.ntmps25
      go_wp2
      go_ret
      exact ⟨by rw [h1.out]; rfl, H.out, GrownS.refl _ _⟩
  · have hr1 : 1 ≤ r := by omega
    have hr2 : r ≤ 6 := by omega
    obtain ⟨k, rfl⟩ : ∃ k : Nat, r = k := ⟨r.toNat, by omega⟩
    have hkl : k < R.length := by rw [h.rl]; omega
    have hgd : R.getD k 0 = R[k] := by rw [List.getD_eq_getElem?_getD, List.getElem?_eq_getElem hkl]; rfl
    have h1 := Lib.hid (show rejE (k : Int) = 0 from if_neg hr)
    have h2 : rejR R (k : Int) = R.set k (satA R[k] 1) := by rw [← hgd]; exact if_neg hr
    have HR2 := Lib.hid h2
    rw [h2]
    have c2 : w.cell? ⟨b, 2 + k, none⟩ = some (.int .u64 R[k]) := by rw [h.blk.cell]; exact ledA2 _ _ _ hkl
    have f2 : w.frozen? ⟨b, 2 + k, none⟩ = false := h.blk.free _
    have C := Lib.hid fun w => satAdd_c R[k] 1 w (h.rw _ (List.getElem_mem hkl)) ⟨by omega, by omega⟩
    have hk6 : k ≤ 6 := by omega
    have hbl := h.blk.lt
    have Hkl := Lib.hid hkl
    clear h hr hgd h2
    generalize R[k] = x at *
    go_enter Try.func25, Try.ntmps25
    go_wp2
    have HC2 := Lib.hid fun w' (h : World.grownBy w w' none) => ((grownBy_cells h).1 b (2 + k) hbl (by simp)).trans c2
    have HF2 := Lib.hid fun w' (h : World.grownBy w w' none) => ((grownBy_cells h).2 b (2 + k) hbl (by simp)).trans f2
    have K6 : World.grownBy w w.drew none := (by (repeat (first | exact grownBy_refl _ _ | assumption | refine grownBy_new_block ?_ _ | refine grownBy_drew ?_ | refine grownBy_drewN ?_ _ | refine grownBy_setNew ?_ (by first | (simp; done) | omega | (simp; omega)) _)))
    clear c2 f2
    (refine Rg.wp_region_rgZ 15 #[false, false, false, false, false, false, false, false, false, false, false, true] (fun w w' => World.grownBy w w' none) (fun k _ w v w' => match k with | 8 => v = .tuple #[.int .u64 (satA x 1), .bool (fitA x 1)] ∧ World.grownBy w w' none | _ => False) (by kernel_rfl) (by kernel_rfl) (fun w => grownBy_refl w none) (fun _ _ _ h k => grownBy_trans h k) (fun _ _ _ _ _ h => h) ?_; simp only [List.take, List.drop])
    generalize w.drew = w6 at *
    (refine Rg.tree_quiet 7 rfl (by first | exact Or.inl rfl | exact Or.inr rfl) ?_; simp only [List.take, List.drop, List.length_cons, List.length_nil, List.replicate, Nat.reduceAdd]; (try simp only [List.cons_append]); (try simp only [List.nil_append]); (repeat (go_big_quiet_step (fail))); refine wpQuiet_nil ?_)
    (refine Rg.tree_op rfl rfl ?_; intro x7 mx7 dx7)
    clear dx7
    have cx := HC2.out _ (grownBy_trans K6 mx7)
    go_wp2_with fail
    refine ⟨grownBy_refl _ _, ?_⟩
    clear cx
    (refine Rg.tree_call rfl rfl rfl ?_; intro x8 mx8 dx8; refine ⟨?_, ?_⟩; · (unfold Rg.callSpec; go_simp; (refine (C.out x8).mono ?_; rintro e w' ⟨rfl, rfl⟩; exact ⟨_, rfl, rfl, grownBy_refl _ _⟩)))
    clear dx8
    rintro v8 y8 ⟨rfl, g8⟩
    refine ⟨g8, ?_⟩
    clear g8
    simp only [Act.put, List.setIfInBounds_toArray, List.set_cons_zero, List.set_cons_succ]
    (refine Rg.tree_quiet 6 rfl (by first | exact Or.inl rfl | exact Or.inr rfl) ?_; simp only [List.take, List.drop, List.length_cons, List.length_nil, List.replicate, Nat.reduceAdd]; (try simp only [List.cons_append]); (try simp only [List.nil_append]); (repeat (go_big_quiet_step (fail))); refine wpQuiet_nil ?_)
    (refine Rg.tree_nil ?_; intro z mz dz cz)
    have KZ := grownBy_trans K6 mz
    have cc := HC2.out _ KZ
    have fz := HF2.out _ KZ
    clear dz cz
    go_wp2
    go_ret
    have g1 := KZ
    have G1 : GrownS (Two b bm) w z := GrownS.none_ g1
    have gs := grownBy_set (grownBy_refl z (some b)) (2 + k) (.int .u64 (satA x 1))
    have G2 : GrownS (Two b bm) z (z.setCell ⟨b, 2 + k, none⟩ (.int .u64 (satA x 1))) := GrownS.of gs (fun k e => by cases e; exact .inl rfl)
    have h0 := H.out.same g1
    obtain ⟨D, h5, h6⟩ := h0.own
    have hxw : ∀ y ∈ R.set k (satA x 1), W64 y := by rw [← HR2.out]; exact rejR_w h0.rw k
    exact ⟨by rw [h1.out]; rfl, ⟨h0.blk.set_ _ _ (ledA_set _ _ _ _ _), ⟨D, ownsMap_keptS h5 (GrownS.of gs (S := fun k => k = b) (fun k e => by cases e; rfl)) (fun e => h0.ne e.symm), h6⟩, h0.asc, h0.keys, h0.vals, by rw [List.length_set]; exact h0.rl, hxw, h0.ne⟩, G1.trans G2 (fun i hi _ => hi)⟩

set_option maxHeartbeats 400000 in
set_option maxRecDepth 100000 in
theorem cloneW1_c (v : Value) (l : List Int) (w : World) (h : RdL wordF 1 w v l) (hl : l.length ≤ 1000000) : Calls Try.prog 56 #[v] w (RetOwn wordF 1 47 l w) := by
  obtain ⟨a, c, rfl⟩ := h.shape
  have H := Lib.hid h
  have hb1 : l.length * 8 ≤ 140737488355328 := by omega
  have hb2 : l.length ≤ 9223372036854775807 := by omega
  cases a with
  | none =>
    have hn : l = [] := by
      rcases h.2.2 with ⟨h0, _⟩ | ⟨g, off, cap, hv, _⟩
      · exact List.length_eq_zero_iff.1 h0
      · cases hv
    subst hn
    have hq := fun w => Lib.run_eql_slice_nil (P := Try.prog) w _ _ none 0 c 0 0 (elt_word1).ht
    simp only [List.length_nil]
    go_enter Try.func56, Try.ntmps56
    go_wp2
    go_ret
    exact ⟨_, rfl, Own.nil _ _ _ _ _, grownBy_refl _ _⟩
  | some ad =>
    clear h
    have hq := fun w => Lib.run_eql_slice_nil (P := Try.prog) w _ _ (some ad) l.length c 0 0 (elt_word1).ht
    go_enter Try.func56, Try.ntmps56
    go_upto_region 3 with fail
    have N := own_lit0 (e := 47) wordF 1 (Nat.le_refl w.heap.size)
    have R := H.out.same (World.grownBy_alloc w (.cells #[] 47) none)
    go_wp2_with (at_builtin; refine app_lit elt_word1 one_word1 N R rfl hb1 hb2 (by simp) (by rfl) _ _ (by rfl) (by rfl) (by rfl) ?_; intro v4 w4 o4 g4 l4)
    go_ret
    exact ⟨_, rfl, o4, grownBy_trans (World.grownBy_alloc w _ none) g4⟩

set_option maxHeartbeats 400000 in
theorem ledRejects_c (b bm n : Nat) (L : List (Int × Int)) (acc : Int) (R : List Int) (w : World) (h : Led w b bm n L acc R) : Calls Try.prog 26 #[.pointer (some ⟨b, 0, none⟩)] w (RetOwn wordF 1 47 R w) := by
  have hR : RdL wordF 1 w (.slice (some ⟨b, 2, none⟩) 7 7) R := by
    refine ⟨by rw [length_cellsOf wordF 1 (fun _ => rfl)], by rw [h.rl]; omega, .inr ⟨b, 2, 7, by rw [h.rl], h.blk.lt, fun j u hu => ?_⟩⟩
    have hj : j < R.length := by have := (List.getElem?_eq_some_iff.1 hu).1; rwa [length_cellsOf wordF 1 (fun _ => rfl), Nat.mul_one] at this
    rw [h.blk.cell, ledA2 _ _ _ hj, ← hu, show cellsOf wordF R = R.map (fun n => Value.int .u64 n) from cells_word R]
    simp [hj]
  have hl := h.rl
  have C := Lib.hid (cloneW1_c _ R w hR (by omega))
  clear h hR
  go_enter Try.func26, Try.ntmps26
  go_wp2_with (go_at_call 56; refine C.out.mono ?_; rintro e w1 ⟨v, rfl, o, g⟩)
  go_ret
  exact ⟨v, rfl, o, g⟩

/-! ### Where there is no ledger -/
set_option maxHeartbeats 400000 in
theorem nilTotal_c (win : Int) (w : World) : Calls Try.prog 20 #[.pointer none, .int .i64 win] w (RetWord 0 w) := by
  go_enter Try.func20, Try.ntmps20
  go_wp2
  go_ret
  exact retWord rfl (grownBy_refl _ _)
set_option maxHeartbeats 400000 in
theorem nilAccepted_c (w : World) : Calls Try.prog 21 #[.pointer none] w (RetInt 0 w) := by
  go_enter Try.func21, Try.ntmps21
  go_wp2
  go_ret
  exact retInt rfl (grownBy_refl _ _)
set_option maxHeartbeats 400000 in
theorem nilFits_c (win x : Int) (w : World) : Calls Try.prog 22 #[.pointer none, .int .i64 win, .int .u64 x] w (RetBool false w) := by
  go_enter Try.func22, Try.ntmps22
  go_wp2
  go_ret
  exact retBool rfl (grownBy_refl _ _)
set_option maxHeartbeats 400000 in
theorem nilAccept_c (win x : Int) (w : World) : Calls Try.prog 23 #[.pointer none, .int .i64 win, .int .u64 x] w (RetBool false w) := by
  go_enter Try.func23, Try.ntmps23
  go_wp2_with (go_at_call 22; refine (nilFits_c _ _ _).mono ?_; rintro e w' ⟨rfl, g⟩)
  go_ret
  exact retBool rfl g
set_option maxHeartbeats 400000 in
theorem nilReject_c (r : Int) (w : World) : Calls Try.prog 25 #[.pointer none, .int .i64 r] w (RetInt 8 w) := by
  go_enter Try.func25, Try.ntmps25
  go_wp2
  go_ret
  exact retInt rfl (grownBy_refl _ _)
set_option maxHeartbeats 400000 in
theorem nilClose_c (win : Int) (w : World) : Calls Try.prog 31 #[.pointer none, .int .i64 win] w (RetVal (.tuple #[.int .u64 0, .bool false]) w) := by
  go_enter Try.func31, Try.ntmps31
  go_wp2
  go_ret2
  exact retVal rfl (grownBy_refl _ _)
set_option maxHeartbeats 400000 in
theorem nilWindows_c (w : World) : Calls Try.prog 35 #[.pointer none] w (RetVal (.slice none 0 0) w) := by
  go_enter Try.func35, Try.ntmps35
  go_wp2
  go_ret
  exact retVal rfl (grownBy_refl _ _)
set_option maxHeartbeats 400000 in
theorem nilRejects_c (w : World) : Calls Try.prog 26 #[.pointer none] w (RetVal (.slice none 0 0) w) := by
  go_enter Try.func26, Try.ntmps26
  go_wp2
  go_ret
  exact retVal rfl (grownBy_refl _ _)
end Go.Proofs.Ytniokdflljchgaa
