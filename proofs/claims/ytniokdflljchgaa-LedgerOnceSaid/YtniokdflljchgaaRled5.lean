/- The reference's ledger: Reject; what it shows. -/
import Derived.Test.YtniokdflljchgaaRled4
namespace Go.Proofs.Ytniokdflljchgaa
open Go.RowKit Go.Sort

set_option maxHeartbeats 800000 in
set_option maxRecDepth 100000 in
theorem rledReject_c (S : Nat → Prop) (b : Nat) (L : List (Int × Int)) (acc : Int) (R : List Int) (r : Int) (w : World) (h : RLed S w b L acc R) :
    Calls Try.prog 30 #[.pointer (some ⟨b, 0, none⟩), .int .i64 r] w (fun e w' => e = .returned (.int .i64 (rejE r)) ∧ RLed S w' b L acc (rejR R r) ∧ GrownS S w w') := by
  have H := Lib.hid h
  by_cases hr : r < 1 ∨ 6 < r
  · have h1 := Lib.hid (show rejE r = 1 from if_pos hr)
    have h2 : rejR R r = R := if_pos hr
    rw [h2]
    clear h
    by_cases hr1 : r < 1
    · go_enter Try.func30, Try.ntmps30
      go_wp2
      go_ret
      exact ⟨by rw [h1.out]; rfl, H.out, GrownS.refl _ _⟩
    · have hr2 : 6 < r := by omega
      go_enter Try.func30, Try.ntmps30
      go_wp2
      go_ret
      exact ⟨by rw [h1.out]; rfl, H.out, GrownS.refl _ _⟩
  · have hr1 : 1 ≤ r := by omega
    have hr2 : r ≤ 6 := by omega
    obtain ⟨k, rfl⟩ : ∃ k : Nat, r = k := ⟨r.toNat, by omega⟩
    have hkl : k < R.length := by rw [h.len]; omega
    have hgd : R.getD k 0 = R[k] := by rw [List.getD_eq_getElem?_getD, List.getElem?_eq_getElem hkl]; rfl
    have h1 := Lib.hid (show rejE (k : Int) = 0 from if_neg hr)
    have h2 : rejR R (k : Int) = R.set k (satA R[k] 1) := by rw [← hgd]; exact if_neg hr
    have HR2 := Lib.hid h2
    have HRW := Lib.hid (rejR_w h.rw (k : Int))
    rw [h2]
    obtain ⟨vw, vt, vr, H0⟩ := h.rl
    obtain ⟨g, cap, hv, _, hgl, hcap, hck, hfr⟩ := H0.or.at_ wordF_len hkl
    have ck := hck 0 _ rfl
    rw [Nat.mul_one, Nat.add_zero] at ck
    have fk := hfr k
    subst hv
    have C := Lib.hid fun w => rsum_c R[k] 1 w (h.rw _ (List.getElem_mem hkl)) ⟨by omega, by omega⟩
    have H0h := Lib.hid H0
    have hlr := h.len
    have HC := Lib.hid fun w' (h : World.grownBy w w' none) => ((grownBy_cells h).1 g k hgl (by simp)).trans ck
    have HF := Lib.hid fun w' (h : World.grownBy w w' none) => ((grownBy_cells h).2 g k hgl (by simp)).trans fk
    have HB := Lib.hid fun w' (h : World.grownBy w w' none) => (H0.same h).blk.cell
    have HP := Lib.hid fun w' (h : World.grownBy w w' none) => (H0.same h).putR hkl (satA R[k] 1)
    clear hr hgd h2 ck fk hck hfr h H0
    rw [hlr] at *
    generalize R[k] = x at *
    have hk0 : (0 : Int) ≤ (k : Int) := by omega
    have hk7 : (k : Int) < 7 := by omega
    go_enter Try.func30, Try.ntmps30
    go_upto_region 3 with fail
    have K6 : World.grownBy w w.drew none := (by (repeat (first | exact grownBy_refl _ _ | assumption | refine grownBy_new_block ?_ _ | refine grownBy_drew ?_ | refine grownBy_drewN ?_ _ | refine grownBy_setNew ?_ (by first | (simp; done) | omega | (simp; omega)) _)))
    (refine Rg.wp_region_rgZ 14 #[] (fun w w' => World.grownBy w w' none) (fun k _ w v w' => match k with | 12 => v = .int .u64 (satA x 1) ∧ World.grownBy w w' none | _ => False) (by kernel_rfl) (by kernel_rfl) (fun w => grownBy_refl w none) (fun _ _ _ h k => grownBy_trans h k) (fun _ _ _ _ _ h => h) ?_; simp only [List.take, List.drop])
    generalize w.drew = w6 at *
    (refine Rg.tree_quiet 3 rfl (by first | exact Or.inl rfl | exact Or.inr rfl) ?_; simp only [List.take, List.drop, List.length_cons, List.length_nil, List.replicate, Nat.reduceAdd]; (try simp only [List.cons_append]); (try simp only [List.nil_append]); (repeat (go_big_quiet_step (fail))); refine wpQuiet_nil ?_)
    (refine Rg.tree_op rfl rfl ?_; intro x3 mx3 dx3)
    clear dx3
    have ax := HB.out _ (grownBy_trans K6 mx3)
    unfold rledA at ax
    go_wp2_with fail
    refine ⟨grownBy_refl _ _, ?_⟩
    clear ax
    (refine Rg.tree_quiet 4 rfl (by first | exact Or.inl rfl | exact Or.inr rfl) ?_; simp only [List.take, List.drop, List.length_cons, List.length_nil, List.replicate, Nat.reduceAdd]; (try simp only [List.cons_append]); (try simp only [List.nil_append]); (repeat (go_big_quiet_step (fail))); refine wpQuiet_nil ?_)
    (refine Rg.tree_op rfl rfl ?_; intro x8 mx8 dx8)
    clear dx8
    have ax := HB.out _ (grownBy_trans K6 mx8)
    unfold rledA at ax
    go_wp2_with fail
    refine ⟨grownBy_refl _ _, ?_⟩
    clear ax
    (refine Rg.tree_quiet 2 rfl (by first | exact Or.inl rfl | exact Or.inr rfl) ?_; simp only [List.take, List.drop, List.length_cons, List.length_nil, List.replicate, Nat.reduceAdd]; (try simp only [List.cons_append]); (try simp only [List.nil_append]); (repeat (go_big_quiet_step (fail))); refine wpQuiet_nil ?_)
    (refine Rg.tree_op rfl rfl ?_; intro x11 mx11 dx11)
    clear dx11
    have cx := HC.out _ (grownBy_trans K6 mx11)
    go_wp2_with fail
    refine ⟨grownBy_refl _ _, ?_⟩
    clear cx
    (refine Rg.tree_call rfl rfl rfl ?_; intro x12 mx12 dx12; refine ⟨?_, ?_⟩; · (unfold Rg.callSpec; go_simp; (refine (C.out x12).mono ?_; rintro e w' ⟨rfl, rfl⟩; exact ⟨_, rfl, rfl, grownBy_refl _ _⟩)))
    clear dx12
    rintro v12 y12 ⟨rfl, g12⟩
    refine ⟨g12, ?_⟩
    clear g12
    simp only [Act.put, List.setIfInBounds_toArray, List.set_cons_zero, List.set_cons_succ]
    (refine Rg.tree_quiet 1 rfl (by first | exact Or.inl rfl | exact Or.inr rfl) ?_; simp only [List.take, List.drop, List.length_cons, List.length_nil, List.replicate, Nat.reduceAdd]; (try simp only [List.cons_append]); (try simp only [List.nil_append]); (repeat (go_big_quiet_step (fail))); refine wpQuiet_nil ?_)
    (refine Rg.tree_nil ?_; intro z mz dz cz)
    have KZ := grownBy_trans K6 mz
    have cc := HC.out _ KZ
    have fz := HF.out _ KZ
    clear dz cz
    go_wp2
    go_ret
    obtain ⟨H5, G5⟩ := HP.out z KZ
    rw [HR2.out] at HRW
    exact ⟨by rw [h1.out]; rfl, ⟨⟨_, _, _, H5⟩, H.out.asc, H.out.keys, H.out.vals, by rw [List.length_set]; exact H.out.len, HRW.out⟩, (GrownS.none_ (S := S) KZ).trans G5 (fun _ hi _ => hi)⟩

set_option maxHeartbeats 400000 in
theorem rledWindows_c (S : Nat → Prop) (b : Nat) (L : List (Int × Int)) (acc : Int) (R : List Int) (w : World) (h : RLed S w b L acc R) (hl : L.length ≤ 1000000) :
    Calls Try.prog 36 #[.pointer (some ⟨b, 0, none⟩)] w (RetOwn intF 1 3 (L.map (·.1)) w) := by
  obtain ⟨vw, vt, vr, H0⟩ := h.rl
  obtain ⟨oa, oc, rfl⟩ := H0.ow.shape
  have hlen : (L.map (·.1)).length = L.length := by simp
  have hb1 : (L.map (·.1)).length * 8 ≤ 140737488355328 := by omega
  have hb2 : (L.map (·.1)).length ≤ 9223372036854775807 := by omega
  have ax := (H0.same (World.grownBy_alloc w (.cells #[] 3) none)).blk.cell
  unfold rledA at ax
  have N := own_lit0 (e := 3) intF 1 (Nat.le_refl w.heap.size)
  have RW := (H0.ow.rd).same (World.grownBy_alloc w (.cells #[] 3) none)
  clear h H0 hlen
  generalize L.map (·.1) = W at *
  go_enter Try.func36, Try.ntmps36
  go_wp2_with (at_builtin; refine app_lit elt_int one_int N RW rfl hb1 hb2 (by simp) (by rfl) _ _ (by rfl) (by rfl) (by rfl) ?_; intro v4 w4 o4 g4 l4)
  go_ret
  exact ⟨_, rfl, o4, grownBy_trans (World.grownBy_alloc w _ none) g4⟩

set_option maxHeartbeats 400000 in
theorem rledRejects_c (S : Nat → Prop) (b : Nat) (L : List (Int × Int)) (acc : Int) (R : List Int) (w : World) (h : RLed S w b L acc R) :
    Calls Try.prog 39 #[.pointer (some ⟨b, 0, none⟩)] w (RetOwn wordF 1 47 R w) := by
  obtain ⟨vw, vt, vr, H0⟩ := h.rl
  obtain ⟨oa, oc, rfl⟩ := H0.or.shape
  have hlen := h.len
  have hb1 : R.length * 8 ≤ 140737488355328 := by omega
  have hb2 : R.length ≤ 9223372036854775807 := by omega
  have ax := (H0.same (World.grownBy_alloc w (.cells #[] 47) none)).blk.cell
  unfold rledA at ax
  have N := own_lit0 (e := 47) wordF 1 (Nat.le_refl w.heap.size)
  have RW := (H0.or.rd).same (World.grownBy_alloc w (.cells #[] 47) none)
  clear h H0 hlen
  go_enter Try.func39, Try.ntmps39
  go_wp2_with (at_builtin; refine app_lit elt_word1 one_word1 N RW rfl hb1 hb2 (by simp) (by rfl) _ _ (by rfl) (by rfl) (by rfl) ?_; intro v4 w4 o4 g4 l4)
  go_ret
  exact ⟨_, rfl, o4, grownBy_trans (World.grownBy_alloc w _ none) g4⟩

set_option maxHeartbeats 400000 in
theorem rledAccepted_c (S : Nat → Prop) (b : Nat) (L : List (Int × Int)) (acc : Int) (R : List Int) (w : World) (h : RLed S w b L acc R) :
    Calls Try.prog 37 #[.pointer (some ⟨b, 0, none⟩)] w (RetInt acc w) := by
  obtain ⟨vw, vt, vr, H0⟩ := h.rl
  have ax := H0.blk.cell
  unfold rledA at ax
  clear h H0
  go_enter Try.func37, Try.ntmps37
  go_wp2
  go_ret
  exact retInt rfl (grownBy_refl _ _)
end Go.Proofs.Ytniokdflljchgaa
