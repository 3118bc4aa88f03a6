/- The reference's ledger: Close, Reject; what it shows. -/
import Derived.Test.YtniokdflljchgaaRled3
namespace Go.Proofs.Ytniokdflljchgaa
open Go.RowKit Go.Sort

theorem addK1 {K : Nat} : (fun x : Addr => x.add (K + 1)) = fun x => ⟨x.block, x.off + (K + 1), none⟩ := by
  funext x; unfold Addr.add; simp

set_option maxHeartbeats 3200000 in
set_option maxRecDepth 100000 in
theorem rledClose_c (S : Nat → Prop) (b : Nat) (L : List (Int × Int)) (acc : Int) (R : List Int) (win : Int) (w : World) (h : RLed S w b L acc R) (hS : ∀ i, w.heap.size ≤ i → S i) (hl : L.length < 1000000) :
    Calls Try.prog 32 #[.pointer (some ⟨b, 0, none⟩), .int .i64 win] w (fun e w' => e = .returned (.tuple #[.int .u64 (ldAt L win), .bool (ldHas L win)]) ∧ RLed S w' b (ldDel L win) acc R ∧ GrownS S w w') := by
  have H := Lib.hid h
  have CAt := Lib.hid (rledAt_c S b L acc R win w h)
  obtain ⟨F, hF⟩ : ∃ F, ldHas L win = F := ⟨_, rfl⟩
  rw [hF] at CAt ⊢
  cases F
  · have h0 := Lib.hid (ldAt_no hF)
    rw [ldDel_no hF]
    clear h hF
    go_enter Try.func32, Try.ntmps32
    go_wp2_with (go_at_call 58; refine CAt.out.mono ?_; rintro e w1 ⟨rfl, g1⟩)
    go_ret2
    exact ⟨by rw [h0.out]; rfl, H.out.same g1, GrownS.none_ g1⟩
  · obtain ⟨h1, h2⟩ := ldHas_lt h.asc hF
    have HP := Lib.hid (ldDel_yes h.asc hF)
    have HAL := Lib.hid (asc_del (w := win) h.asc)
    have HKL := Lib.hid (show ∀ p ∈ ldDel L win, I64 p.1 from fun p hp => h.keys p (mem_ldDel hp))
    have HVL := Lib.hid (show ∀ p ∈ ldDel L win, W64 p.2 from fun p hp => h.vals p (mem_ldDel hp))
    obtain ⟨vw, vt, vr, H0⟩ := h.rl
    have hm1 := Lib.hid (show (L.take (ldK L win) ++ L.drop (ldK L win + 1)).map (·.1) = (L.map (·.1)).take (ldK L win) ++ (L.map (·.1)).drop (ldK L win + 1) by simp [List.map_take, List.map_drop])
    have hm2 := Lib.hid (show (L.take (ldK L win) ++ L.drop (ldK L win + 1)).map (·.2) = (L.map (·.2)).take (ldK L win) ++ (L.map (·.2)).drop (ldK L win + 1) by simp [List.map_take, List.map_drop])
    have hlen1 : (L.map (·.1)).length = L.length := by simp
    have hlen2 : (L.map (·.2)).length = L.length := by simp
    obtain ⟨oa, oc, rfl⟩ := H0.ow.shape
    obtain ⟨ta, tc, rfl⟩ := H0.ot.shape
    rw [hlen1, hlen2] at H0
    obtain ⟨g, off, cap, hv, hgl, ck⟩ := H0.ot.rd.one word_one (k := ldK L win) (by rw [hlen2]; exact h1)
    have e1 : (L.map (·.2))[ldK L win]'(by rw [hlen2]; exact h1) = ldAt L win := by
      rw [List.getElem_map]
      have := (List.getElem?_eq_some_iff.1 h2).2
      rw [this]
    rw [e1] at ck
    rw [hlen2] at hv
    cases hv
    have H0h := Lib.hid H0
    have HCk := Lib.hid fun w' (k : World.grownBy w w' none) => ((grownBy_cells k).1 g (off + ldK L win) hgl (by simp)).trans ck
    have hS0 := Lib.hid hS
    clear h hF h2 e1 ck hS H0
    generalize ldAt L win = X at *
    generalize ldK L win = K at *
    generalize L.map (·.1) = W at *
    generalize L.map (·.2) = T at *
    have hk0 : (0 : Int) ≤ (K : Int) := by omega
    have hk1 : (K : Int) < (L.length : Int) := by omega
    go_enter Try.func32, Try.ntmps32
    go_upto_region 4 with (go_at_call 58; refine CAt.out.mono ?_; rintro e w3 ⟨rfl, g3⟩)
    have H3 := Lib.hid (H0h.out.same g3)
    have G3h := Lib.hid (GrownS.none_ (S := S) g3)
    have hS3 := Lib.hid (show ∀ i, w3.heap.size ≤ i → S i from fun i hi => hS0.out i (Nat.le_trans g3.size hi))
    have cx := HCk.out _ g3
    have ax := H3.out.blk.cell
    unfold rledA at ax
    go_upto_region 5 with fail
    clear cx ax HCk H0h hS0 CAt g3 hgl
    have hKl : K ≤ W.length := by omega
    have hKl1 : K + 1 ≤ W.length := by omega
    have KN : World.grownBy w3 w3.drew none := (by (repeat (first | exact grownBy_refl _ _ | assumption | refine grownBy_new_block ?_ _ | refine grownBy_drew ?_ | refine grownBy_drewN ?_ _ | refine grownBy_setNew ?_ (by first | (simp; done) | omega | (simp; omega)) _)))
    obtain ⟨N, hN⟩ : ∃ N, w3.heap.size = N := ⟨_, rfl⟩
    have HN2 := Lib.hid (show N ≤ w3.drew.heap.size from Nat.le_of_eq hN.symm)
    have hbN : b < N := by have := H3.out.blk.lt; omega
    have HB := Lib.hid (H3.out.blk.same KN)
    have HO := Lib.hid (H3.out.ow.same KN)
    have HOb := Lib.hid (show ∀ k, Value.ownBlock (.slice oa L.length oc) = some k → k < N from fun k hk => by have := (H3.out.ow.lt k hk).2; omega)
    obtain ⟨P, hP⟩ : ∃ P : List Int → Prop, P = fun U => U <+: W.take K ++ W.drop (K + 1) := ⟨_, rfl⟩
    have HP0 := Lib.hid (show P [] by rw [hP]; exact List.nil_prefix)
    have HP1 := Lib.hid (show P (W.take K) by rw [hP]; exact List.prefix_append _ _)
    have HPF := Lib.hid (show P (W.take K ++ W.drop (K + 1)) by rw [hP]; exact List.prefix_refl _)
    have HP2 := Lib.hid (show ∀ U, P U → U.length ≤ (W.take K).length ∨ U <+: W.take K ++ W.drop (K + 1) ∨ W.take K ++ W.drop (K + 1) <+: U by rw [hP]; exact fun U h => .inr (.inl h))
    clear hP
    have Hb1 := Lib.hid (show K = (W.take K).length by rw [List.length_take]; omega)
    have Hb7 := Lib.hid (show L.length - (K + 1) = (W.drop (K + 1)).length by rw [List.length_drop]; omega)
    have hb2 : (W.take K).length * 8 ≤ 140737488355328 := by rw [← Hb1.out]; omega
    have hb3 : (W.take K).length ≤ 9223372036854775807 := by rw [← Hb1.out]; omega
    have hb8 : ((W.take K).length + (W.drop (K + 1)).length) * 8 ≤ 140737488355328 := by rw [← Hb1.out, ← Hb7.out]; omega
    have hb9 : (W.take K).length + (W.drop (K + 1)).length ≤ 9223372036854775807 := by rw [← Hb1.out, ← Hb7.out]; omega
    have hcap := H3.out.ow.cap
    have hKc : (K : Int) ≤ (oc : Int) := by omega
    have hKc1 : (K : Int) + 1 ≤ (oc : Int) := by omega
    have hLc : (L.length : Int) ≤ (oc : Int) := by omega
    have HRD := HO.out.rd.drop intF_len hKl1 hcap (oc - (K + 1))
    rw [hlen1] at HRD
    simp only [Nat.mul_one] at HRD
    rw [addK1] at HRD
    replace HRD := Lib.hid HRD
    have HRb := drop_block (K := K + 1) (s := 1) (m := L.length - (K + 1)) (q := oc - (K + 1)) HOb.out
    simp only [Nat.mul_one] at HRb
    rw [addK1] at HRb
    replace HRb := Lib.hid HRb
    (refine Rg.wp_region_rgZ 19 #[] (Keep intF 1 3 N P) (fun _ _ _ _ _ => False) (by kernel_rfl) (by kernel_rfl) (Keep.refl _ _ _ _ _) (fun _ _ _ h k => h.trans k) (fun _ _ _ _ _ h => h) ?_; simp only [List.take, List.drop])
    generalize w3.drew = wd at *
    (refine Rg.tree_quiet 1 rfl (by first | exact Or.inl rfl | exact Or.inr rfl) ?_; simp only [List.take, List.drop, List.length_cons, List.length_nil, List.replicate, Nat.reduceAdd]; (try simp only [List.cons_append]); (try simp only [List.nil_append]); (repeat (go_big_quiet_step (fail))); refine wpQuiet_nil ?_)
    (refine Rg.tree_op rfl rfl ?_; intro y1 my1 dy1)
    clear dy1
    have z1 := Nat.le_trans HN2.out my1.grown.size
    go_wp2_with fail
    refine ⟨Keep.of (World.grownBy_alloc _ _ _), ?_⟩
    have N1 := own_lit0 (e := 3) intF 1 z1
    generalize y1.alloc (.cells #[] 3) = e1 at *
    generalize y1.heap.size = g1 at *
    (refine Rg.tree_quiet 3 rfl (by first | exact Or.inl rfl | exact Or.inr rfl) ?_; simp only [List.take, List.drop, List.length_cons, List.length_nil, List.replicate, Nat.reduceAdd]; (try simp only [List.cons_append]); (try simp only [List.nil_append]); (repeat (go_big_quiet_step (fail))); refine wpQuiet_nil ?_)
    (refine Rg.tree_op rfl rfl ?_; intro y5 my5 dy5)
    clear dy5
    have ax := (my5.blk HB.out hbN).cell
    (try unfold rledA at ax)
    go_wp2_with fail
    refine ⟨Keep.refl _ _ _ _ _ _, ?_⟩
    clear ax
    (refine Rg.tree_quiet 2 rfl (by first | exact Or.inl rfl | exact Or.inr rfl) ?_; simp only [List.take, List.drop, List.length_cons, List.length_nil, List.replicate, Nat.reduceAdd]; (try simp only [List.cons_append]); (try simp only [List.nil_append]); (repeat (go_big_quiet_step (fail))); refine wpQuiet_nil ?_)
    (refine Rg.tree_op rfl rfl ?_; intro y8 my8 dy8)
    have N8 := (dy8.out 1 (by omega) (by kernel_rfl)).own [] _ HP0.out N1
    have R8 := my8.rd (HO.out.rd.take intF_len hKl oc) (fun _ a n c e => by cases e; exact HOb.out _ rfl)
    have z8 := Nat.le_trans HN2.out my8.grown.size
    clear dy8
    go_wp2_with (at_builtin; refine app_lit elt_int one_int N8 R8 Hb1.out hb2 hb3 z8 (by rfl) _ _ (by rfl) (by rfl) (by rfl) ?_; intro v8 e8 o8 g8 l8; have Hg8 := Lib.hid g8; clear g8 l8)
    refine ⟨Keep.of Hg8.out, ?_⟩
    clear N8 R8 z8 N1 my5 my1 z1
    (refine Rg.tree_quiet 3 rfl (by first | exact Or.inl rfl | exact Or.inr rfl) ?_; simp only [List.take, List.drop, List.length_cons, List.length_nil, List.replicate, Nat.reduceAdd]; (try simp only [List.cons_append]); (try simp only [List.nil_append]); (repeat (go_big_quiet_step (fail))); refine wpQuiet_nil ?_)
    (refine Rg.tree_op rfl rfl ?_; intro y12 my12 dy12)
    clear dy12
    have ax := (my12.blk HB.out hbN).cell
    (try unfold rledA at ax)
    go_wp2_with fail
    refine ⟨Keep.refl _ _ _ _ _ _, ?_⟩
    clear ax
    (refine Rg.tree_quiet 3 rfl (by first | exact Or.inl rfl | exact Or.inr rfl) ?_; simp only [List.take, List.drop, List.length_cons, List.length_nil, List.replicate, Nat.reduceAdd]; (try simp only [List.cons_append]); (try simp only [List.nil_append]); (repeat (go_big_quiet_step (fail))); refine wpQuiet_nil ?_)
    generalize (if oc = K + 1 then oa else Option.map (fun x => (⟨x.block, x.off + (K + 1), none⟩ : Addr)) oa) = od at *
    (refine Rg.tree_op rfl rfl ?_; intro y16 my16 dy16)
    have N16 := (dy16.out 8 (by omega) (by kernel_rfl)).own _ _ HP1.out o8
    have R16 := my16.rd HRD.out (fun _ a n c e => HRb.out a n c e)
    have z16 := Nat.le_trans HN2.out my16.grown.size
    clear dy16
    go_wp2_with (at_builtin; refine app_keep elt_int one_int (fun _ => rfl) N16 R16 Hb7.out hb8 hb9 z16 HP2.out (by rfl) _ _ (by rfl) (by rfl) (by rfl) ?_; intro v16 e16 o16 k16; have Hk16 := Lib.hid k16; clear k16)
    refine ⟨Hk16.out, ?_⟩
    clear N16 R16 z16 o8 my12 my16
    (refine Rg.tree_quiet 2 rfl (by first | exact Or.inl rfl | exact Or.inr rfl) ?_; simp only [List.take, List.drop, List.length_cons, List.length_nil, List.replicate, Nat.reduceAdd]; (try simp only [List.cons_append]); (try simp only [List.nil_append]); (repeat (go_big_quiet_step (fail))); refine wpQuiet_nil ?_)
    (refine Rg.tree_nil ?_; intro z mz dz cz)
    have OZ := (dz.out 16 (by omega)).own _ _ HPF.out o16
    have AZ := mz.blk HB.out hbN
    have GZ := mz.grown
    clear dz cz o16 Hg8 Hk16 mz
    generalize W.take K ++ W.drop (K + 1) = LF at *
    obtain ⟨a18, c18, rfl⟩ := OZ.shape
    generalize LF.length = nF at *
    have az := AZ.cell
    unfold rledA at az
    have fz := AZ.free
    obtain ⟨H4, G4⟩ := H3.out.setW hN.symm (fun i hi => hS3.out i (by omega)) ((GrownS.none_ KN).trans GZ (fun _ hi _ => hi)) OZ
    replace H4 := Lib.hid H4
    have G4h := Lib.hid (G3h.out.trans G4 (fun _ hi _ => hi))
    have hS4 := Lib.hid (show ∀ i, (z.setCell ⟨b, 0, none⟩ (.slice a18 nF c18)).heap.size ≤ i → S i from fun i hi => hS3.out i (Nat.le_trans G4.size hi))
    go_upto_region 6 with fail
    generalize z.setCell ⟨b, 0, none⟩ (.slice a18 nF c18) = w4 at *
    clear az fz AZ GZ OZ G4 H3 G3h hS3 KN hN HN2 hbN HB HO HOb HP0 HP1 HPF HP2 Hb1 Hb7 hb2 hb3 hb8 hb9 hcap hKc hKc1 hLc HRD HRb
    clear hKl hKl1 my8
    have hKl : K ≤ T.length := by omega
    have hKl1 : K + 1 ≤ T.length := by omega
    have KN : World.grownBy w4 w4.drew none := (by (repeat (first | exact grownBy_refl _ _ | assumption | refine grownBy_new_block ?_ _ | refine grownBy_drew ?_ | refine grownBy_drewN ?_ _ | refine grownBy_setNew ?_ (by first | (simp; done) | omega | (simp; omega)) _)))
    obtain ⟨N, hN⟩ : ∃ N, w4.heap.size = N := ⟨_, rfl⟩
    have HN2 := Lib.hid (show N ≤ w4.drew.heap.size from Nat.le_of_eq hN.symm)
    have hbN : b < N := by have := H4.out.blk.lt; omega
    have HB := Lib.hid (H4.out.blk.same KN)
    have HO := Lib.hid (H4.out.ot.same KN)
    have HOb := Lib.hid (show ∀ k, Value.ownBlock (.slice (some ⟨g, off, none⟩) L.length tc) = some k → k < N from fun k hk => by have := (H4.out.ot.lt k hk).2; omega)
    obtain ⟨P, hP⟩ : ∃ P : List Int → Prop, P = fun U => U <+: T.take K ++ T.drop (K + 1) := ⟨_, rfl⟩
    have HP0 := Lib.hid (show P [] by rw [hP]; exact List.nil_prefix)
    have HP1 := Lib.hid (show P (T.take K) by rw [hP]; exact List.prefix_append _ _)
    have HPF := Lib.hid (show P (T.take K ++ T.drop (K + 1)) by rw [hP]; exact List.prefix_refl _)
    have HP2 := Lib.hid (show ∀ U, P U → U.length ≤ (T.take K).length ∨ U <+: T.take K ++ T.drop (K + 1) ∨ T.take K ++ T.drop (K + 1) <+: U by rw [hP]; exact fun U h => .inr (.inl h))
    clear hP
    have Hb1 := Lib.hid (show K = (T.take K).length by rw [List.length_take]; omega)
    have Hb7 := Lib.hid (show L.length - (K + 1) = (T.drop (K + 1)).length by rw [List.length_drop]; omega)
    have hb2 : (T.take K).length * 8 ≤ 140737488355328 := by rw [← Hb1.out]; omega
    have hb3 : (T.take K).length ≤ 9223372036854775807 := by rw [← Hb1.out]; omega
    have hb8 : ((T.take K).length + (T.drop (K + 1)).length) * 8 ≤ 140737488355328 := by rw [← Hb1.out, ← Hb7.out]; omega
    have hb9 : (T.take K).length + (T.drop (K + 1)).length ≤ 9223372036854775807 := by rw [← Hb1.out, ← Hb7.out]; omega
    have hcap := H4.out.ot.cap
    have hKc : (K : Int) ≤ (tc : Int) := by omega
    have hKc1 : (K : Int) + 1 ≤ (tc : Int) := by omega
    have hLc : (L.length : Int) ≤ (tc : Int) := by omega
    have HRD := HO.out.rd.drop1 wordF_len hKl1 hcap (tc - (K + 1))
    rw [hlen2] at HRD
    replace HRD := Lib.hid HRD
    have hgN := HOb.out g rfl
    have HRb := Lib.hid (show ∀ (a : Addr) (n' c' : Nat), Value.slice (if tc = K + 1 then (some ⟨g, off, none⟩ : Option Addr) else some ⟨g, off + (K + 1), none⟩) (L.length - (K + 1)) (tc - (K + 1)) = .slice (some a) n' c' → a.block < N from fun a n' c' e => by split at e <;> (cases e; exact hgN))
    (refine Rg.wp_region_rgZ 19 #[] (Keep wordF 1 47 N P) (fun _ _ _ _ _ => False) (by kernel_rfl) (by kernel_rfl) (Keep.refl _ _ _ _ _) (fun _ _ _ h k => h.trans k) (fun _ _ _ _ _ h => h) ?_; simp only [List.take, List.drop])
    generalize w4.drew = wd at *
    (refine Rg.tree_quiet 1 rfl (by first | exact Or.inl rfl | exact Or.inr rfl) ?_; simp only [List.take, List.drop, List.length_cons, List.length_nil, List.replicate, Nat.reduceAdd]; (try simp only [List.cons_append]); (try simp only [List.nil_append]); (repeat (go_big_quiet_step (fail))); refine wpQuiet_nil ?_)
    (refine Rg.tree_op rfl rfl ?_; intro y1 my1 dy1)
    clear dy1
    have z1 := Nat.le_trans HN2.out my1.grown.size
    go_wp2_with fail
    refine ⟨Keep.of (World.grownBy_alloc _ _ _), ?_⟩
    have N1 := own_lit0 (e := 47) wordF 1 z1
    generalize y1.alloc (.cells #[] 47) = e1 at *
    generalize y1.heap.size = g1 at *
    (refine Rg.tree_quiet 3 rfl (by first | exact Or.inl rfl | exact Or.inr rfl) ?_; simp only [List.take, List.drop, List.length_cons, List.length_nil, List.replicate, Nat.reduceAdd]; (try simp only [List.cons_append]); (try simp only [List.nil_append]); (repeat (go_big_quiet_step (fail))); refine wpQuiet_nil ?_)
    (refine Rg.tree_op rfl rfl ?_; intro y5 my5 dy5)
    clear dy5
    have ax := (my5.blk HB.out hbN).cell
    (try unfold rledA at ax)
    go_wp2_with fail
    refine ⟨Keep.refl _ _ _ _ _ _, ?_⟩
    clear ax
    (refine Rg.tree_quiet 2 rfl (by first | exact Or.inl rfl | exact Or.inr rfl) ?_; simp only [List.take, List.drop, List.length_cons, List.length_nil, List.replicate, Nat.reduceAdd]; (try simp only [List.cons_append]); (try simp only [List.nil_append]); (repeat (go_big_quiet_step (fail))); refine wpQuiet_nil ?_)
    (refine Rg.tree_op rfl rfl ?_; intro y8 my8 dy8)
    have N8 := (dy8.out 1 (by omega) (by kernel_rfl)).own [] _ HP0.out N1
    have R8 := my8.rd (HO.out.rd.take wordF_len hKl tc) (fun _ a n c e => by cases e; exact HOb.out _ rfl)
    have z8 := Nat.le_trans HN2.out my8.grown.size
    clear dy8
    go_wp2_with (at_builtin; refine app_lit elt_word1 one_word1 N8 R8 Hb1.out hb2 hb3 z8 (by rfl) _ _ (by rfl) (by rfl) (by rfl) ?_; intro v8 e8 o8 g8 l8; have Hg8 := Lib.hid g8; clear g8 l8)
    refine ⟨Keep.of Hg8.out, ?_⟩
    clear N8 R8 z8 N1 my5 my1 z1
    (refine Rg.tree_quiet 3 rfl (by first | exact Or.inl rfl | exact Or.inr rfl) ?_; simp only [List.take, List.drop, List.length_cons, List.length_nil, List.replicate, Nat.reduceAdd]; (try simp only [List.cons_append]); (try simp only [List.nil_append]); (repeat (go_big_quiet_step (fail))); refine wpQuiet_nil ?_)
    (refine Rg.tree_op rfl rfl ?_; intro y12 my12 dy12)
    clear dy12
    have ax := (my12.blk HB.out hbN).cell
    (try unfold rledA at ax)
    go_wp2_with fail
    refine ⟨Keep.refl _ _ _ _ _ _, ?_⟩
    clear ax
    (refine Rg.tree_quiet 3 rfl (by first | exact Or.inl rfl | exact Or.inr rfl) ?_; simp only [List.take, List.drop, List.length_cons, List.length_nil, List.replicate, Nat.reduceAdd]; (try simp only [List.cons_append]); (try simp only [List.nil_append]); (repeat (go_big_quiet_step (fail))); refine wpQuiet_nil ?_)
    generalize (if tc = K + 1 then (some ⟨g, off, none⟩ : Option Addr) else some ⟨g, off + (K + 1), none⟩) = od at *
    (refine Rg.tree_op rfl rfl ?_; intro y16 my16 dy16)
    have N16 := (dy16.out 8 (by omega) (by kernel_rfl)).own _ _ HP1.out o8
    have R16 := my16.rd HRD.out (fun _ a n c e => HRb.out a n c e)
    have z16 := Nat.le_trans HN2.out my16.grown.size
    clear dy16
    go_wp2_with (at_builtin; refine app_keep elt_word1 one_word1 (fun _ => rfl) N16 R16 Hb7.out hb8 hb9 z16 HP2.out (by rfl) _ _ (by rfl) (by rfl) (by rfl) ?_; intro v16 e16 o16 k16; have Hk16 := Lib.hid k16; clear k16)
    refine ⟨Hk16.out, ?_⟩
    clear N16 R16 z16 o8 my12 my16
    (refine Rg.tree_quiet 2 rfl (by first | exact Or.inl rfl | exact Or.inr rfl) ?_; simp only [List.take, List.drop, List.length_cons, List.length_nil, List.replicate, Nat.reduceAdd]; (try simp only [List.cons_append]); (try simp only [List.nil_append]); (repeat (go_big_quiet_step (fail))); refine wpQuiet_nil ?_)
    (refine Rg.tree_nil ?_; intro z mz dz cz)
    have OZ := (dz.out 16 (by omega)).own _ _ HPF.out o16
    have AZ := mz.blk HB.out hbN
    have GZ := mz.grown
    clear dz cz o16 Hg8 Hk16 mz
    generalize T.take K ++ T.drop (K + 1) = LF at *
    obtain ⟨a18, c18, rfl⟩ := OZ.shape
    generalize LF.length = nF at *
    have az := AZ.cell
    unfold rledA at az
    have fz := AZ.free
    obtain ⟨H5, G5⟩ := H4.out.setT hN.symm (fun i hi => hS4.out i (by omega)) ((GrownS.none_ KN).trans GZ (fun _ hi _ => hi)) OZ
    rw [← hm1.out, ← hm2.out, ← HP.out] at H5
    replace H5 := Lib.hid H5
    have G5h := Lib.hid (G4h.out.trans G5 (fun _ hi _ => hi))
    go_wp2_with fail
    go_ret2
    exact ⟨rfl, ⟨⟨_, _, _, H5.out⟩, HAL.out, HKL.out, HVL.out, H.out.len, H.out.rw⟩, G5h.out⟩
end Go.Proofs.Ytniokdflljchgaa
