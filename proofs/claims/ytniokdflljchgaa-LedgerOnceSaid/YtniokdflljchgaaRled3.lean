/- The reference's ledger: Accept, Close, Reject; what it shows. -/
import Derived.Test.YtniokdflljchgaaRled2
import Derived.Test.YtniokdflljchgaaLed2
namespace Go.Proofs.Ytniokdflljchgaa
open Go.RowKit Go.Sort

theorem pre_take {α : Type} (T : List α) (x : α) (D : List α) : T <+: T ++ [x] ++ D := ⟨[x] ++ D, by simp⟩

theorem drop_block {oa : Option Addr} {c len N K s m q : Nat} (h : ∀ k, Value.ownBlock (.slice oa len c) = some k → k < N) : ∀ (a : Addr) (n' c' : Nat), Value.slice (if c = K then oa else oa.map (·.add (K * s))) m q = .slice (some a) n' c' → a.block < N := by
  intro a n' c' e
  cases oa with
  | none => simp at e
  | some ad =>
    have h1 := h ad.block rfl
    split at e
    · cases e; exact h1
    · cases e
      unfold Addr.add
      split <;> exact h1
theorem ins_p2 (A D : List Int) (x : Int) : ∀ T : List Int, (T <+: A ++ [x] ++ D ∨ T = [x]) → T.length ≤ A.length ∨ T <+: A ++ [x] ∨ A ++ [x] <+: T := by
  rintro T (h | rfl)
  · rcases List.prefix_or_prefix_of_prefix h (List.prefix_append (A ++ [x]) D) with h | h
    · exact .inr (.inl h)
    · exact .inr (.inr h)
  · cases A with
    | nil => exact .inr (.inl (List.prefix_refl _))
    | cons a A => exact .inl (by simp)
theorem ins_p4 (A D : List Int) (x : Int) : ∀ T : List Int, (T <+: A ++ [x] ++ D ∨ T = [x]) → T.length ≤ (A ++ [x]).length ∨ T <+: A ++ [x] ++ D ∨ A ++ [x] ++ D <+: T := by
  rintro T (h | rfl)
  · exact .inr (.inl h)
  · exact .inl (by simp)

set_option maxHeartbeats 3200000 in
set_option maxRecDepth 100000 in
theorem rledAccept_c (S : Nat → Prop) (b : Nat) (L : List (Int × Int)) (acc : Int) (R : List Int) (win x : Int) (w : World) (h : RLed S w b L acc R) (hS : ∀ i, w.heap.size ≤ i → S i) (hw : I64 win) (hx : W64 x) (hl : L.length < 1000000) (ha : 0 ≤ acc ∧ acc < 1000000) :
    Calls Try.prog 29 #[.pointer (some ⟨b, 0, none⟩), .int .i64 win, .int .u64 x] w (fun e w' => e = .returned (.bool (fitsB (ldAt L win) x)) ∧ RLed S w' b (accL L win x) (accN L win x acc) R ∧ GrownS S w w') := by
  have H := Lib.hid h
  have C := Lib.hid (rledFits_c S b L acc R win x w h hx)
  obtain ⟨F, hF⟩ : ∃ F, fitsB (ldAt L win) x = F := ⟨_, rfl⟩
  unfold accL accN
  rw [hF] at C ⊢
  cases F
  · clear h
    go_enter Try.func29, Try.ntmps29
    go_wp2_with (go_at_call 28; refine C.out.mono ?_; rintro e w' ⟨rfl, g⟩)
    go_ret
    exact ⟨rfl, H.out.same g, GrownS.none_ g⟩
  · have hsum : ldAt L win + x ≤ 9223372036854775808 := by unfold fitsB at hF; exact of_decide_eq_true hF
    have HSm := Lib.hid hsum
    have hA0 := ldAt_w h.vals win
    have hwr : IntKind.u64.wrap (ldAt L win + x) = ldAt L win + x := IntWalk.u64_in _ (by unfold W64 at hA0 hx; omega)
    have hwa : IntKind.i64.wrap (acc + 1) = acc + 1 := IntWalk.i64_in _ (by omega)
    have HVL := Lib.hid (vals_put h.vals h.asc (win := win) (n := x) ⟨by unfold W64 at hA0 hx; omega, by omega⟩)
    have HKL := Lib.hid (keys_put h.keys hw (n := x))
    have HAL := Lib.hid (asc_put (n := x) (w := win) h.asc)
    have HW := Lib.hid hw
    have HX := Lib.hid hx
    obtain ⟨vw, vt, vr, H0⟩ := h.rl
    have HR0 := Lib.hid H0
    have hax := H0.blk.cell
    have hbl := H0.blk.lt
    have HB1 := Lib.hid fun w' (k : World.grownBy w w' none) => H0.same k
    have CAt := Lib.hid fun w' (h : RLed S w' b L (acc + 1) R) => rledAt_c S b L (acc + 1) R win w' h
    clear h hF hA0 hw hx hax H0
    go_enter Try.func29, Try.ntmps29
    go_upto_region 3 with (go_at_call 28; refine C.out.mono ?_; rintro e w1 ⟨rfl, g1⟩)
    have H1 := HB1.out _ g1
    have a1 := H1.blk.cell
    unfold rledA at a1
    have f1 := H1.blk.free
    obtain ⟨H2, G2⟩ := H1.setA (acc' := acc + 1)
    have G2' := (GrownS.none_ (S := S) g1).trans G2 (fun _ hi _ => hi)
    have HRL := Lib.hid (show RLed S (w1.setCell ⟨b, 2, none⟩ (.int .i64 (acc + 1))) b L (acc + 1) R from ⟨⟨vw, vt, vr, H2⟩, H.out.asc, H.out.keys, H.out.vals, H.out.len, H.out.rw⟩)
    have H2' := Lib.hid H2
    have G2h := Lib.hid G2'
    have hS2 := Lib.hid (show ∀ i, (w1.setCell ⟨b, 2, none⟩ (.int .i64 (acc + 1))).heap.size ≤ i → S i from fun i hi => hS i (Nat.le_trans G2'.size hi))
    clear H1 H2 G2 G2' C HB1 HR0
    go_upto_region 4 with fail
    clear a1 f1 hwa hbl hS
    generalize w1.setCell ⟨b, 2, none⟩ (.int .i64 (acc + 1)) = w2 at *
    clear g1
    obtain ⟨F, hF⟩ : ∃ F, ldHas L win = F := ⟨_, rfl⟩
    rw [hF] at CAt
    go_upto_region 5 with (go_at_call 58; refine (CAt.out _ HRL.out).mono ?_; rintro e w3 ⟨rfl, g3⟩)
    have H3 := Lib.hid (H2'.out.same g3)
    have G3h := Lib.hid (G2h.out.trans (GrownS.none_ (S := S) g3) (fun _ hi _ => hi))
    have hS3 := Lib.hid (show ∀ i, w3.heap.size ≤ i → S i from fun i hi => hS2.out i (Nat.le_trans g3.size hi))
    clear CAt HRL H2' G2h hS2 g3
    cases F
    · have HP := Lib.hid (ldPut_no (n := x) H.out.asc hF)
      have hK0 := ldK_le (w := win) (L := L)
      have hm1 := Lib.hid (show (L.take (ldK L win) ++ [(win, x)] ++ L.drop (ldK L win)).map (·.1) = (L.map (·.1)).take (ldK L win) ++ [win] ++ (L.map (·.1)).drop (ldK L win) by simp [List.map_take, List.map_drop])
      have hm2 := Lib.hid (show (L.take (ldK L win) ++ [(win, x)] ++ L.drop (ldK L win)).map (·.2) = (L.map (·.2)).take (ldK L win) ++ [x] ++ (L.map (·.2)).drop (ldK L win) by simp [List.map_take, List.map_drop])
      have hlen1 : (L.map (·.1)).length = L.length := by simp
      have hlen2 : (L.map (·.2)).length = L.length := by simp
      obtain ⟨oa, oc, rfl⟩ := H3.out.ow.shape
      obtain ⟨ta, tc, rfl⟩ := H3.out.ot.shape
      rw [hlen1, hlen2] at H3
      clear hF hwr hsum
      generalize ldK L win = K at *
      generalize L.map (·.1) = W at *
      generalize L.map (·.2) = T at *
      have hk0 : (0 : Int) ≤ (K : Int) := by omega
      have hk1 : (K : Int) ≤ (L.length : Int) := by omega
      go_upto_region 8 with fail
      have hKl : K ≤ W.length := by omega
      have KN : World.grownBy w3 w3.drew none := (by (repeat (first | exact grownBy_refl _ _ | assumption | refine grownBy_new_block ?_ _ | refine grownBy_drew ?_ | refine grownBy_drewN ?_ _ | refine grownBy_setNew ?_ (by first | (simp; done) | omega | (simp; omega)) _)))
      obtain ⟨N, hN⟩ : ∃ N, w3.heap.size = N := ⟨_, rfl⟩
      have HN2 := Lib.hid (show N ≤ w3.drew.heap.size from Nat.le_of_eq hN.symm)
      have hbN : b < N := by have := H3.out.blk.lt; omega
      have HB := Lib.hid (H3.out.blk.same KN)
      have HO := Lib.hid (H3.out.ow.same KN)
      have HOb := Lib.hid (show ∀ k, Value.ownBlock (.slice oa L.length oc) = some k → k < N from fun k hk => by have := (H3.out.ow.lt k hk).2; omega)
      obtain ⟨P, hP⟩ : ∃ P : List Int → Prop, P = fun T => T <+: W.take K ++ [win] ++ W.drop K ∨ T = [win] := ⟨_, rfl⟩
      have HP0 := Lib.hid (show P [] by rw [hP]; exact .inl List.nil_prefix)
      have HP1 := Lib.hid (show P (W.take K) by rw [hP]; exact .inl (pre_take _ _ _))
      have HPx := Lib.hid (show P [win] by rw [hP]; exact .inr rfl)
      have HPF := Lib.hid (show P (W.take K ++ [win] ++ W.drop K) by rw [hP]; exact .inl (List.prefix_refl _))
      have HP3 := Lib.hid (show P (W.take K ++ [win]) by rw [hP]; exact .inl (List.prefix_append _ _))
      have HP2 := Lib.hid (show ∀ T, P T → T.length ≤ (W.take K).length ∨ T <+: W.take K ++ [win] ∨ W.take K ++ [win] <+: T by rw [hP]; exact ins_p2 (W.take K) (W.drop K) win)
      have HP4 := Lib.hid (show ∀ T, P T → T.length ≤ (W.take K ++ [win]).length ∨ T <+: W.take K ++ [win] ++ W.drop K ∨ W.take K ++ [win] ++ W.drop K <+: T by rw [hP]; exact ins_p4 (W.take K) (W.drop K) win)
      clear hP
      have Hb1 := Lib.hid (show K = (W.take K).length by rw [List.length_take]; omega)
      have Hb7 := Lib.hid (show L.length - K = (W.drop K).length by rw [List.length_drop]; omega)
      have hb2 : (W.take K).length * 8 ≤ 140737488355328 := by rw [← Hb1.out]; omega
      have hb3 : (W.take K).length ≤ 9223372036854775807 := by rw [← Hb1.out]; omega
      have hb4 : ((W.take K).length + 1) * 8 ≤ 140737488355328 := by rw [← Hb1.out]; omega
      have hb5 : (W.take K).length + 1 ≤ 9223372036854775807 := by rw [← Hb1.out]; omega
      have hb8 : ((W.take K ++ [win]).length + (W.drop K).length) * 8 ≤ 140737488355328 := by rw [List.length_append, ← Hb1.out, ← Hb7.out]; simp only [List.length_cons, List.length_nil]; omega
      have hb9 : (W.take K ++ [win]).length + (W.drop K).length ≤ 9223372036854775807 := by rw [List.length_append, ← Hb1.out, ← Hb7.out]; simp only [List.length_cons, List.length_nil]; omega
      have hcap := H3.out.ow.cap
      have hKc : (K : Int) ≤ (oc : Int) := by omega
      have hLc : (L.length : Int) ≤ (oc : Int) := by omega
      have HRD := HO.out.rd.drop intF_len hKl hcap (oc - K)
      rw [hlen1] at HRD
      simp only [Nat.mul_one] at HRD
      replace HRD := Lib.hid HRD
      have HRb := drop_block (K := K) (s := 1) (m := L.length - K) (q := oc - K) HOb.out
      simp only [Nat.mul_one] at HRb
      replace HRb := Lib.hid HRb
      (refine Rg.wp_region_rgZ 21 #[] (Keep intF 1 3 N P) (fun _ _ _ _ _ => False) (by kernel_rfl) (by kernel_rfl) (Keep.refl _ _ _ _ _) (fun _ _ _ h k => h.trans k) (fun _ _ _ _ _ h => h) ?_; simp only [List.take, List.drop])
      generalize w3.drew = wd at *
      (refine Rg.tree_quiet 1 rfl (by first | exact Or.inl rfl | exact Or.inr rfl) ?_; simp only [List.take, List.drop, List.length_cons, List.length_nil, List.replicate, Nat.reduceAdd]; (try simp only [List.cons_append]); (try simp only [List.nil_append]); (repeat (go_big_quiet_step (fail))); refine wpQuiet_nil ?_)
      (refine Rg.tree_op rfl rfl ?_; intro y1 my1 dy1)
      clear dy1
      have z1 := Nat.le_trans HN2.out my1.grown.size
      go_wp2_with fail
      refine ⟨Keep.of (World.grownBy_alloc _ _ _), ?_⟩
      have N1 := own_lit0 (e := 3) intF 1 z1
      generalize y1.alloc (.cells #[] 3) = e1 at *
      generalize y1.heap.size = g1 at *
      (refine Rg.tree_quiet 3 rfl (by first | exact Or.inl rfl | exact Or.inr rfl) ?_; simp only [List.take, List.drop, List.length_cons, List.length_nil, List.replicate, Nat.reduceAdd]; (try simp only [List.cons_append]); (try simp only [List.nil_append]); (repeat (go_big_quiet_step (fail))); refine wpQuiet_nil ?_)
      (refine Rg.tree_op rfl rfl ?_; intro y5 my5 dy5)
      clear dy5
      have ax := (my5.blk HB.out hbN).cell
      (try unfold rledA at ax)
      go_wp2_with fail
      refine ⟨Keep.refl _ _ _ _ _ _, ?_⟩
      clear ax
      (refine Rg.tree_quiet 2 rfl (by first | exact Or.inl rfl | exact Or.inr rfl) ?_; simp only [List.take, List.drop, List.length_cons, List.length_nil, List.replicate, Nat.reduceAdd]; (try simp only [List.cons_append]); (try simp only [List.nil_append]); (repeat (go_big_quiet_step (fail))); refine wpQuiet_nil ?_)
      (refine Rg.tree_op rfl rfl ?_; intro y8 my8 dy8)
      have N8 := (dy8.out 1 (by omega) (by kernel_rfl)).own [] _ HP0.out N1
      have R8 := my8.rd (HO.out.rd.take intF_len hKl oc) (fun _ a n c e => by cases e; exact HOb.out _ rfl)
      have z8 := Nat.le_trans HN2.out my8.grown.size
      clear dy8
      go_wp2_with (at_builtin; refine app_lit elt_int one_int N8 R8 Hb1.out hb2 hb3 z8 (by rfl) _ _ (by rfl) (by rfl) (by rfl) ?_; intro v8 e8 o8 g8 l8; have Hg8 := Lib.hid g8; clear g8 l8)
      refine ⟨Keep.of Hg8.out, ?_⟩
      clear N8 R8 z8 N1 my5 my1 z1
      (refine Rg.tree_quiet 1 rfl (by first | exact Or.inl rfl | exact Or.inr rfl) ?_; simp only [List.take, List.drop, List.length_cons, List.length_nil, List.replicate, Nat.reduceAdd]; (try simp only [List.cons_append]); (try simp only [List.nil_append]); (repeat (go_big_quiet_step (fail))); refine wpQuiet_nil ?_)
      (refine Rg.tree_op rfl rfl ?_; intro y10 my10 dy10)
      clear dy10
      have z10 := Nat.le_trans HN2.out my10.grown.size
      go_wp2_with fail
      refine ⟨Keep.of (World.grownBy_alloc _ _ _), ?_⟩
      have N10 : Own intF 1 3 N (y10.alloc (.cells #[.int .i64 win] 3)) (.slice (some ⟨y10.heap.size, 0, none⟩) 1 1) [win] := own_one' (fun _ => rfl) y10 z10 win _ rfl
      generalize y10.alloc (.cells #[.int .i64 win] 3) = e10 at *
      generalize y10.heap.size = g10 at *
      (refine Rg.tree_op rfl rfl ?_; intro y11 my11 dy11)
      have N11 := (dy11.out 8 (by omega) (by kernel_rfl)).own _ _ HP1.out o8
      have R11 := ((dy11.out 10 (by omega) (by kernel_rfl)).own _ _ HPx.out N10).rd
      have z11 := Nat.le_trans HN2.out my11.grown.size
      clear dy11
      go_wp2_with (at_builtin; refine app_keep elt_int one_int (fun _ => rfl) N11 R11 rfl hb4 hb5 z11 HP2.out (by rfl) _ _ (by rfl) (by rfl) (by rfl) ?_; intro v11 e11 o11 k11; have Hk11 := Lib.hid k11; clear k11)
      refine ⟨Hk11.out, ?_⟩
      clear N11 R11 z11 N10 z10 my10 my11 o8
      (refine Rg.tree_quiet 3 rfl (by first | exact Or.inl rfl | exact Or.inr rfl) ?_; simp only [List.take, List.drop, List.length_cons, List.length_nil, List.replicate, Nat.reduceAdd]; (try simp only [List.cons_append]); (try simp only [List.nil_append]); (repeat (go_big_quiet_step (fail))); refine wpQuiet_nil ?_)
      (refine Rg.tree_op rfl rfl ?_; intro y15 my15 dy15)
      clear dy15
      have ax := (my15.blk HB.out hbN).cell
      (try unfold rledA at ax)
      go_wp2_with fail
      refine ⟨Keep.refl _ _ _ _ _ _, ?_⟩
      clear ax
      (refine Rg.tree_quiet 2 rfl (by first | exact Or.inl rfl | exact Or.inr rfl) ?_; simp only [List.take, List.drop, List.length_cons, List.length_nil, List.replicate, Nat.reduceAdd]; (try simp only [List.cons_append]); (try simp only [List.nil_append]); (repeat (go_big_quiet_step (fail))); refine wpQuiet_nil ?_)
      generalize (if oc = K then oa else Option.map (fun x => Addr.add x K) oa) = od at *
      (refine Rg.tree_op rfl rfl ?_; intro y18 my18 dy18)
      have N18 := (dy18.out 11 (by omega) (by kernel_rfl)).own _ _ HP3.out o11
      have R18 := my18.rd HRD.out (fun _ a n c e => HRb.out a n c e)
      have z18 := Nat.le_trans HN2.out my18.grown.size
      clear dy18
      go_wp2_with (at_builtin; refine app_keep elt_int one_int (fun _ => rfl) N18 R18 Hb7.out hb8 hb9 z18 HP4.out (by rfl) _ _ (by rfl) (by rfl) (by rfl) ?_; intro v18 e18 o18 k18; have Hk18 := Lib.hid k18; clear k18)
      refine ⟨Hk18.out, ?_⟩
      clear N18 R18 z18 o11 my15 my18
      (refine Rg.tree_quiet 2 rfl (by first | exact Or.inl rfl | exact Or.inr rfl) ?_; simp only [List.take, List.drop, List.length_cons, List.length_nil, List.replicate, Nat.reduceAdd]; (try simp only [List.cons_append]); (try simp only [List.nil_append]); (repeat (go_big_quiet_step (fail))); refine wpQuiet_nil ?_)
      (refine Rg.tree_nil ?_; intro z mz dz cz)
      have OZ := (dz.out 18 (by omega)).own _ _ HPF.out o18
      have AZ := mz.blk HB.out hbN
      have GZ := mz.grown
      clear dz cz o18 Hg8 Hk11 Hk18 mz
      generalize W.take K ++ [win] ++ W.drop K = LF at *
      obtain ⟨a18, c18, rfl⟩ := OZ.shape
      generalize LF.length = nF at *
      have az := AZ.cell
      unfold rledA at az
      have fz := AZ.free
      obtain ⟨H4, G4⟩ := H3.out.setW hN.symm (fun i hi => hS3.out i (by omega)) ((GrownS.none_ KN).trans GZ (fun _ hi _ => hi)) OZ
      replace H4 := Lib.hid H4
      have G4h := Lib.hid (G3h.out.trans G4 (fun _ hi _ => hi))
      have hS4 := Lib.hid (show ∀ i, (z.setCell ⟨b, 0, none⟩ (.slice a18 nF c18)).heap.size ≤ i → S i from fun i hi => hS3.out i (Nat.le_trans G4.size hi))
      go_upto_region 9 with fail
      generalize z.setCell ⟨b, 0, none⟩ (.slice a18 nF c18) = w4 at *
      clear az fz AZ GZ OZ G4 H3 G3h hS3 KN hN HN2 hbN HB HO HOb HP0 HP1 HPx HPF HP3 HP2 HP4 Hb1 Hb7 hb2 hb3 hb4 hb5 hb8 hb9 hcap hKc hLc HRD HRb
      clear my8
      have hKl : K ≤ T.length := by omega
      have KN : World.grownBy w4 w4.drew none := (by (repeat (first | exact grownBy_refl _ _ | assumption | refine grownBy_new_block ?_ _ | refine grownBy_drew ?_ | refine grownBy_drewN ?_ _ | refine grownBy_setNew ?_ (by first | (simp; done) | omega | (simp; omega)) _)))
      obtain ⟨N, hN⟩ : ∃ N, w4.heap.size = N := ⟨_, rfl⟩
      have HN2 := Lib.hid (show N ≤ w4.drew.heap.size from Nat.le_of_eq hN.symm)
      have hbN : b < N := by have := H4.out.blk.lt; omega
      have HB := Lib.hid (H4.out.blk.same KN)
      have HO := Lib.hid (H4.out.ot.same KN)
      have HOb := Lib.hid (show ∀ k, Value.ownBlock (.slice ta L.length tc) = some k → k < N from fun k hk => by have := (H4.out.ot.lt k hk).2; omega)
      obtain ⟨P, hP⟩ : ∃ P : List Int → Prop, P = fun U => U <+: T.take K ++ [x] ++ T.drop K ∨ U = [x] := ⟨_, rfl⟩
      have HP0 := Lib.hid (show P [] by rw [hP]; exact .inl List.nil_prefix)
      have HP1 := Lib.hid (show P (T.take K) by rw [hP]; exact .inl (pre_take _ _ _))
      have HPx := Lib.hid (show P [x] by rw [hP]; exact .inr rfl)
      have HPF := Lib.hid (show P (T.take K ++ [x] ++ T.drop K) by rw [hP]; exact .inl (List.prefix_refl _))
      have HP3 := Lib.hid (show P (T.take K ++ [x]) by rw [hP]; exact .inl (List.prefix_append _ _))
      have HP2 := Lib.hid (show ∀ U, P U → U.length ≤ (T.take K).length ∨ U <+: T.take K ++ [x] ∨ T.take K ++ [x] <+: U by rw [hP]; exact ins_p2 (T.take K) (T.drop K) x)
      have HP4 := Lib.hid (show ∀ U, P U → U.length ≤ (T.take K ++ [x]).length ∨ U <+: T.take K ++ [x] ++ T.drop K ∨ T.take K ++ [x] ++ T.drop K <+: U by rw [hP]; exact ins_p4 (T.take K) (T.drop K) x)
      clear hP
      have Hb1 := Lib.hid (show K = (T.take K).length by rw [List.length_take]; omega)
      have Hb7 := Lib.hid (show L.length - K = (T.drop K).length by rw [List.length_drop]; omega)
      have hb2 : (T.take K).length * 8 ≤ 140737488355328 := by rw [← Hb1.out]; omega
      have hb3 : (T.take K).length ≤ 9223372036854775807 := by rw [← Hb1.out]; omega
      have hb4 : ((T.take K).length + 1) * 8 ≤ 140737488355328 := by rw [← Hb1.out]; omega
      have hb5 : (T.take K).length + 1 ≤ 9223372036854775807 := by rw [← Hb1.out]; omega
      have hb8 : ((T.take K ++ [x]).length + (T.drop K).length) * 8 ≤ 140737488355328 := by rw [List.length_append, ← Hb1.out, ← Hb7.out]; simp only [List.length_cons, List.length_nil]; omega
      have hb9 : (T.take K ++ [x]).length + (T.drop K).length ≤ 9223372036854775807 := by rw [List.length_append, ← Hb1.out, ← Hb7.out]; simp only [List.length_cons, List.length_nil]; omega
      have hcap := H4.out.ot.cap
      have hKc : (K : Int) ≤ (tc : Int) := by omega
      have hLc : (L.length : Int) ≤ (tc : Int) := by omega
      have HRD := HO.out.rd.drop wordF_len hKl hcap (tc - K)
      rw [hlen2] at HRD
      simp only [Nat.mul_one] at HRD
      replace HRD := Lib.hid HRD
      have HRb := drop_block (K := K) (s := 1) (m := L.length - K) (q := tc - K) HOb.out
      simp only [Nat.mul_one] at HRb
      replace HRb := Lib.hid HRb
      (refine Rg.wp_region_rgZ 21 #[] (Keep wordF 1 47 N P) (fun _ _ _ _ _ => False) (by kernel_rfl) (by kernel_rfl) (Keep.refl _ _ _ _ _) (fun _ _ _ h k => h.trans k) (fun _ _ _ _ _ h => h) ?_; simp only [List.take, List.drop])
      generalize w4.drew = wd at *
      (refine Rg.tree_quiet 1 rfl (by first | exact Or.inl rfl | exact Or.inr rfl) ?_; simp only [List.take, List.drop, List.length_cons, List.length_nil, List.replicate, Nat.reduceAdd]; (try simp only [List.cons_append]); (try simp only [List.nil_append]); (repeat (go_big_quiet_step (fail))); refine wpQuiet_nil ?_)
      (refine Rg.tree_op rfl rfl ?_; intro y1 my1 dy1)
      clear dy1
      have z1 := Nat.le_trans HN2.out my1.grown.size
      go_wp2_with fail
      refine ⟨Keep.of (World.grownBy_alloc _ _ _), ?_⟩
      have N1 := own_lit0 (e := 47) wordF 1 z1
      generalize y1.alloc (.cells #[] 47) = e1 at *
      generalize y1.heap.size = g1 at *
      (refine Rg.tree_quiet 3 rfl (by first | exact Or.inl rfl | exact Or.inr rfl) ?_; simp only [List.take, List.drop, List.length_cons, List.length_nil, List.replicate, Nat.reduceAdd]; (try simp only [List.cons_append]); (try simp only [List.nil_append]); (repeat (go_big_quiet_step (fail))); refine wpQuiet_nil ?_)
      (refine Rg.tree_op rfl rfl ?_; intro y5 my5 dy5)
      clear dy5
      have ax := (my5.blk HB.out hbN).cell
      (try unfold rledA at ax)
      go_wp2_with fail
      refine ⟨Keep.refl _ _ _ _ _ _, ?_⟩
      clear ax
      (refine Rg.tree_quiet 2 rfl (by first | exact Or.inl rfl | exact Or.inr rfl) ?_; simp only [List.take, List.drop, List.length_cons, List.length_nil, List.replicate, Nat.reduceAdd]; (try simp only [List.cons_append]); (try simp only [List.nil_append]); (repeat (go_big_quiet_step (fail))); refine wpQuiet_nil ?_)
      (refine Rg.tree_op rfl rfl ?_; intro y8 my8 dy8)
      have N8 := (dy8.out 1 (by omega) (by kernel_rfl)).own [] _ HP0.out N1
      have R8 := my8.rd (HO.out.rd.take wordF_len hKl tc) (fun _ a n c e => by cases e; exact HOb.out _ rfl)
      have z8 := Nat.le_trans HN2.out my8.grown.size
      clear dy8
      go_wp2_with (at_builtin; refine app_lit elt_word1 one_word1 N8 R8 Hb1.out hb2 hb3 z8 (by rfl) _ _ (by rfl) (by rfl) (by rfl) ?_; intro v8 e8 o8 g8 l8; have Hg8 := Lib.hid g8; clear g8 l8)
      refine ⟨Keep.of Hg8.out, ?_⟩
      clear N8 R8 z8 N1 my5 my1 z1
      (refine Rg.tree_quiet 1 rfl (by first | exact Or.inl rfl | exact Or.inr rfl) ?_; simp only [List.take, List.drop, List.length_cons, List.length_nil, List.replicate, Nat.reduceAdd]; (try simp only [List.cons_append]); (try simp only [List.nil_append]); (repeat (go_big_quiet_step (fail))); refine wpQuiet_nil ?_)
      (refine Rg.tree_op rfl rfl ?_; intro y10 my10 dy10)
      clear dy10
      have z10 := Nat.le_trans HN2.out my10.grown.size
      go_wp2_with fail
      refine ⟨Keep.of (World.grownBy_alloc _ _ _), ?_⟩
      have N10 : Own wordF 1 47 N (y10.alloc (.cells #[.int .u64 x] 47)) (.slice (some ⟨y10.heap.size, 0, none⟩) 1 1) [x] := own_one' (fun _ => rfl) y10 z10 x _ rfl
      generalize y10.alloc (.cells #[.int .u64 x] 47) = e10 at *
      generalize y10.heap.size = g10 at *
      (refine Rg.tree_op rfl rfl ?_; intro y11 my11 dy11)
      have N11 := (dy11.out 8 (by omega) (by kernel_rfl)).own _ _ HP1.out o8
      have R11 := ((dy11.out 10 (by omega) (by kernel_rfl)).own _ _ HPx.out N10).rd
      have z11 := Nat.le_trans HN2.out my11.grown.size
      clear dy11
      go_wp2_with (at_builtin; refine app_keep elt_word1 one_word1 (fun _ => rfl) N11 R11 rfl hb4 hb5 z11 HP2.out (by rfl) _ _ (by rfl) (by rfl) (by rfl) ?_; intro v11 e11 o11 k11; have Hk11 := Lib.hid k11; clear k11)
      refine ⟨Hk11.out, ?_⟩
      clear N11 R11 z11 N10 z10 my10 my11 o8
      (refine Rg.tree_quiet 3 rfl (by first | exact Or.inl rfl | exact Or.inr rfl) ?_; simp only [List.take, List.drop, List.length_cons, List.length_nil, List.replicate, Nat.reduceAdd]; (try simp only [List.cons_append]); (try simp only [List.nil_append]); (repeat (go_big_quiet_step (fail))); refine wpQuiet_nil ?_)
      (refine Rg.tree_op rfl rfl ?_; intro y15 my15 dy15)
      clear dy15
      have ax := (my15.blk HB.out hbN).cell
      (try unfold rledA at ax)
      go_wp2_with fail
      refine ⟨Keep.refl _ _ _ _ _ _, ?_⟩
      clear ax
      (refine Rg.tree_quiet 2 rfl (by first | exact Or.inl rfl | exact Or.inr rfl) ?_; simp only [List.take, List.drop, List.length_cons, List.length_nil, List.replicate, Nat.reduceAdd]; (try simp only [List.cons_append]); (try simp only [List.nil_append]); (repeat (go_big_quiet_step (fail))); refine wpQuiet_nil ?_)
      generalize (if tc = K then ta else Option.map (fun x => Addr.add x K) ta) = od at *
      (refine Rg.tree_op rfl rfl ?_; intro y18 my18 dy18)
      have N18 := (dy18.out 11 (by omega) (by kernel_rfl)).own _ _ HP3.out o11
      have R18 := my18.rd HRD.out (fun _ a n c e => HRb.out a n c e)
      have z18 := Nat.le_trans HN2.out my18.grown.size
      clear dy18
      go_wp2_with (at_builtin; refine app_keep elt_word1 one_word1 (fun _ => rfl) N18 R18 Hb7.out hb8 hb9 z18 HP4.out (by rfl) _ _ (by rfl) (by rfl) (by rfl) ?_; intro v18 e18 o18 k18; have Hk18 := Lib.hid k18; clear k18)
      refine ⟨Hk18.out, ?_⟩
      clear N18 R18 z18 o11 my15 my18
      (refine Rg.tree_quiet 2 rfl (by first | exact Or.inl rfl | exact Or.inr rfl) ?_; simp only [List.take, List.drop, List.length_cons, List.length_nil, List.replicate, Nat.reduceAdd]; (try simp only [List.cons_append]); (try simp only [List.nil_append]); (repeat (go_big_quiet_step (fail))); refine wpQuiet_nil ?_)
      (refine Rg.tree_nil ?_; intro z mz dz cz)
      have OZ := (dz.out 18 (by omega)).own _ _ HPF.out o18
      have AZ := mz.blk HB.out hbN
      have GZ := mz.grown
      clear dz cz o18 Hg8 Hk11 Hk18 mz
      generalize T.take K ++ [x] ++ T.drop K = LF at *
      obtain ⟨a18, c18, rfl⟩ := OZ.shape
      generalize LF.length = nF at *
      have az := AZ.cell
      unfold rledA at az
      have fz := AZ.free
      obtain ⟨H5, G5⟩ := H4.out.setT hN.symm (fun i hi => hS4.out i (by omega)) ((GrownS.none_ KN).trans GZ (fun _ hi _ => hi)) OZ
      rw [← hm1.out, ← hm2.out, ← HP.out] at H5
      replace H5 := Lib.hid H5
      have G5h := Lib.hid (G4h.out.trans G5 (fun _ hi _ => hi))
      go_wp2_with fail
      go_ret
      exact ⟨rfl, ⟨⟨_, _, _, H5.out⟩, HAL.out, HKL.out, HVL.out, H.out.len, H.out.rw⟩, G5h.out⟩
    · obtain ⟨h1, h2⟩ := ldHas_lt H.out.asc hF
      have hlen : (L.map (·.2)).length = L.length := by simp
      obtain ⟨g, cap, hv, _, hgl, hcap, hck, hfr⟩ := H3.out.ot.at_ wordF_len (i := ldK L win) (by rw [hlen]; exact h1)
      have ck := hck 0 _ rfl
      have fk := hfr (ldK L win)
      have e1 : (L.map (·.2))[ldK L win]'(by rw [hlen]; exact h1) = ldAt L win := by
        rw [List.getElem_map]
        have := (List.getElem?_eq_some_iff.1 h2).2
        rw [this]
      rw [e1, Nat.mul_one, Nat.add_zero] at ck
      rw [hlen] at hv
      subst hv
      have HP := Lib.hid (ldPut_yes (n := x) H.out.asc hF)
      have hm1 := Lib.hid (show (L.set (ldK L win) (win, ldAt L win + x)).map (·.1) = L.map (·.1) by
        rw [List.map_set]
        have e : win = (L.map (·.1))[ldK L win]'(by simpa using h1) := by
          rw [List.getElem_map]
          have := (List.getElem?_eq_some_iff.1 h2).2
          rw [this]
        exact (congrArg (fun v => (L.map (·.1)).set (ldK L win) v) e).trans (List.set_getElem_self _))
      have hm2 := Lib.hid (show (L.set (ldK L win) (win, ldAt L win + x)).map (·.2) = (L.map (·.2)).set (ldK L win) (ldAt L win + x) by rw [List.map_set])
      obtain ⟨H4, G4⟩ := H3.out.putT (i := ldK L win) (by rw [hlen]; exact h1) (ldAt L win + x)
      rw [← hm1.out, ← hm2.out, ← HP.out] at H4
      have H4' := Lib.hid H4
      have G4' := Lib.hid (G3h.out.trans G4 (fun _ hi _ => hi))
      have ax := H3.out.blk.cell
      unfold rledA at ax
      have hk0 : (0 : Int) ≤ (ldK L win : Int) := by omega
      have hk1 : (ldK L win : Int) < (L.length : Int) := by omega
      clear H4 G4 h2 hF e1 hck hfr hlen
      generalize ldAt L win = T at *
      generalize ldK L win = K at *
      go_wp2_with fail
      go_ret
      exact ⟨rfl, ⟨⟨_, _, _, H4'.out⟩, HAL.out, HKL.out, HVL.out, H.out.len, H.out.rw⟩, G4'.out⟩
end Go.Proofs.Ytniokdflljchgaa
