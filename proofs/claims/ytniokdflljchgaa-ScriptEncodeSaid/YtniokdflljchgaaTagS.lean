/- Tags put in order: the reference. -/
import Derived.Test.YtniokdflljchgaaTag
import Derived.Test.YtniokdflljchgaaIns
import Derived.StillTailTactics
namespace Go.Proofs.Ytniokdflljchgaa
open Go.RowKit Go.Sort

theorem blT_of (a b : ByteArray) : Op.bytesLess a.toList b.toList = decide (a.data.toList < b.data.toList) := by
  rw [ByteArray.toList_eq, ByteArray.toList_eq, bytesLess_eq]
theorem beT_of (a b : ByteArray) : (a.toList == b.toList) = decide (a.data.toList = b.data.toList) := by
  rw [ByteArray.toList_eq, ByteArray.toList_eq, Bool.eq_iff_iff]; simp
def SortP (L : List TagR) (w : World) (e : Ending) (w' : World) : Prop := ∃ v, e = .returned (.tuple #[v, .int .i64 (sortE L)]) ∧ Own tagF 2 143 w.heap.size w' v (if sortE L = 0 then sortT L else []) ∧ w.grownBy w' none
theorem sortP_no {L : List TagR} {w w' : World} {E : Int} (h : sortE L = E) (h0 : E ≠ 0) (hg : w.grownBy w' none) : SortP L w (.returned (.tuple #[.slice none 0 0, .int .i64 E])) w' :=
  ⟨_, by rw [h], by rw [if_neg (by omega)]; exact Own.nil _ _ _ _ _, hg⟩
def TagsRd (w : World) (v : Value) (L : List TagR) : Prop := RdL tagF 2 w v L

set_option maxHeartbeats 2000000 in
set_option maxRecDepth 100000 in
theorem rsortT_c (v : Value) (L : List TagR) (w : World) (h : RdL tagF 2 w v L) (hW : ∀ t ∈ L, TagW t) : Calls Try.prog 92 #[v] w (SortP L w) := by
  obtain ⟨a, c, rfl⟩ := h.shape
  have hm := h.2.1
  have H := Lib.hid h
  have HW := Lib.hid hW
  clear h hW
  by_cases h0 : L.length = 0
  · have HE := Lib.hid (sortE_few (.inl h0))
    obtain rfl : L = [] := List.eq_nil_of_length_eq_zero h0
    clear h0
    go_enter Try.func92, Try.ntmps92
    go_wp2_with fail
    go_ret2
    exact sortP_no HE.out (by decide) (grownBy_refl _ _)
  have i0 : ((L.length : Int) == 0) = false := beq_eq_false_iff_ne.2 (by omega)
  by_cases h8 : 8 < L.length
  · have HE := Lib.hid (sortE_few (.inr h8))
    have i8 : (8 : Int) < (L.length : Int) := by omega
    clear h0
    go_enter Try.func92, Try.ntmps92
    go_wp2_with fail
    go_ret2
    exact sortP_no HE.out (by decide) (grownBy_refl _ _)
  have i8 : (L.length : Int) ≤ 8 := by omega
  have Hfew := Lib.hid (show ¬ (L.length = 0 ∨ 8 < L.length) by omega)
  clear h0
  go_enter Try.func92, Try.ntmps92
  go_wp2_with fail
  go_loopw [21] (fun s21 wk => ∃ i : Nat, i ≤ L.length ∧ s21 = .int .i64 i ∧ (∀ j (hj : j < L.length), j < i → tagE L[j] = 0) ∧ w.grownBy wk none) (fun s21 _ => L.length - (intOf s21).toNat)
  case atStart => exact ⟨0, Nat.zero_le _, rfl, by intro j hj h; omega, grownBy_refl _ _⟩
  case round =>
    obtain ⟨i, hi, rfl, hall, hg⟩ := hrel
    have Hall := Lib.hid hall
    have HGr := Lib.hid hg
    clear hall
    by_cases hlt : i < L.length
    · obtain ⟨gx, ox, cx, hv, hgx, hcx⟩ := (RdL.same H.out hg).at_ tagF_len hlt
      cases hv
      have c0 := hcx 0 _ rfl
      have c1 := hcx 1 _ rfl
      rw [Nat.add_zero] at c0
      have hw := HW.out _ (List.getElem_mem hlt)
      have HF := Lib.hid (show ∀ E : Int, E ≠ 0 → tagE L[i] = E → sortE L = E from fun E hE h => by
        have h1 := tagsE_at hlt Hall.out (by rw [h]; exact hE)
        rw [sortE_tag Hfew.out (by rw [h1, h]; exact hE), h1, h])
      have HS := Lib.hid (show tagE L[i] = 0 → ∀ j (hj : j < L.length), j < i + 1 → tagE L[j] = 0 from fun h j hj hji => by
        rcases Nat.lt_or_ge j i with h1 | h1
        · exact Hall.out j hj h1
        · obtain rfl : j = i := by omega
          exact h)
      have C := Lib.hid fun w' => rtag_c L[i] w' hw
      clear hcx hw Hall hg
      generalize L[i] = x at *
      generalize tagE x = EE at *
      by_cases hE : EE = 0
      · subst hE
        have HS2 := Lib.hid (HS.out rfl)
        clear HF HS
        go_wp2_with (go_at_call 109; refine (C.out _).mono ?_; rintro e w2 ⟨rfl, g2⟩)
        exact ⟨⟨i + 1, by omega, by go_num, HS2.out, grownBy_trans HGr.out (grownBy_trans (World.grownBy_alloc _ _ _) g2)⟩, by simp [intOf]; omega⟩
      · have he2 : (EE != 0) = true := by simpa using hE
        have he3 : (EE == 0) = false := by simpa using hE
        have HF2 := Lib.hid (HF.out EE hE rfl)
        have HE0 := Lib.hid hE
        clear HF HS hE
        go_wp2_with (go_at_call 109; refine (C.out _).mono ?_; rintro e w2 ⟨rfl, g2⟩)
        go_ret2
        exact sortP_no HF2.out HE0.out (grownBy_trans HGr.out (grownBy_trans (World.grownBy_alloc _ _ _) g2))
    · have HT := Lib.hid (show tagsE L = 0 from tagsE_no fun t ht => by
        obtain ⟨j, hj, rfl⟩ := List.getElem_of_mem ht
        exact Hall.out j hj (by omega))
      have hi1 : ¬ (i : Int) < (L.length : Int) := by omega
      clear Hall
      go_upto_region 12 with fail
      clear hlt hi1
      go_loopw [33, 7] (fun s33 s7 wk => ∃ (j : Nat), j ≤ L.length ∧ s33 = .int .i64 j ∧ Dif (L.take j) ∧ Own tagF 2 143 w.heap.size wk s7 (sortT (L.take j)) ∧ w.grownBy wk none) (fun s33 _ _ => L.length - (intOf s33).toNat)
      case atStart => exact ⟨0, Nat.zero_le _, rfl, by simp [Dif], Own.nil _ _ _ _ _, hg⟩
      case round =>
        clear hg HGr hi
        obtain ⟨j, hj, rfl, hdif, hO, hg⟩ := hrel
        have HDf := Lib.hid hdif
        clear hdif
        by_cases hjl : j < L.length
        · obtain ⟨gx, ox, cx, hv, hgx, hcx⟩ := (RdL.same H.out hg).at_ tagF_len hjl
          cases hv
          have c0 := hcx 0 _ rfl
          have c1 := hcx 1 _ rfl
          rw [Nat.add_zero] at c0
          have HT2 := Lib.hid (show sortT (L.take (j + 1)) = insT (sortT (L.take j)) L[j] by rw [List.take_succ_eq_append_getElem hjl, sortT_snoc])
          have hfnd := asc_found (x := L[j]) (sortT_asc HDf.out)
          have HNo := Lib.hid (p := (∃ (hk : lessT (sortT (L.take j)) L[j] < (sortT (L.take j)).length), nmB (sortT (L.take j))[lessT (sortT (L.take j)) L[j]] = nmB L[j]) → sortE L = 5) (fun h => by
            obtain ⟨y, hy, e⟩ := hfnd.2 h
            refine sortE_dup Hfew.out HT.out fun hd => ?_
            have h2 := hd.take (j + 1)
            rw [List.take_succ_eq_append_getElem hjl] at h2
            exact (dif_snoc.1 h2).2 y ((sortT_mem _ _).1 hy) e)
          have HYes := Lib.hid (p := ¬ (∃ (hk : lessT (sortT (L.take j)) L[j] < (sortT (L.take j)).length), nmB (sortT (L.take j))[lessT (sortT (L.take j)) L[j]] = nmB L[j]) → Dif (L.take (j + 1))) (fun h => by
            rw [List.take_succ_eq_append_getElem hjl]
            exact dif_snoc.2 ⟨HDf.out, fun y hy e => h (hfnd.1 ⟨y, (sortT_mem _ _).2 hy, e⟩)⟩)
          have hsl : (sortT (L.take j)).length ≤ 8 := by rw [sortT_len, List.length_take]; omega
          clear hcx hfnd
          generalize sortT (L.take j) = S at *
          generalize L[j] = x at *
          obtain ⟨oa, oc, rfl⟩ := hO.shape
          go_upto_region 14 with fail
          have O2 := hO.same (World.grownBy_alloc wr (.cells #[.string x.name, .string x.value] 143) none)
          have G2 := grownBy_new_block hg (.cells #[.string x.name, .string x.value] 143)
          have A2 := Blk.new wr #[.string x.name, .string x.value] 143
          generalize wr.alloc (.cells #[.string x.name, .string x.value] 143) = w2 at *
          generalize wr.heap.size = gk at *
          have HN1 := Lib.hid (lessT_le S x)
          have HN2 := Lib.hid fun i (h : i < lessT S x) h2 => lessT_lt (k := x) h h2
          have HN3 := Lib.hid fun h => lessT_at (L := S) (k := x) h
          have HI := Lib.hid (show insT S x = S.take (lessT S x) ++ [x] ++ S.drop (lessT S x) from rfl)
          clear hO hg c0 c1 hgx
          generalize lessT S x = N at *
          have hN := HN1.out
          go_cut [10] (fun s10 wx => s10 = .int .i64 0 ∧ w2 = wx)
          case first =>
            go_wp2_with fail
            go_meet
            exact ⟨rfl, rfl⟩
          obtain ⟨rfl, rfl⟩ := hcut
          rename_i hK
          refine hK _ _ ?_
          apply wp_seq_k
          intro K1 hK1
          go_cut [10, 37, 38, 39, 40, 41, 42, 43, 44, 45, 46, 47, 48, 49, 50, 51, 52] (fun s10 _ _ _ _ _ _ _ _ _ _ _ _ _ _ _ _ wx => s10 = .int .i64 N ∧ w2.grownBy wx none)
          case first =>
            go_wp2_with fail
            go_loopw [10] (fun s10 wk => ∃ m : Nat, m ≤ N ∧ s10 = .int .i64 m ∧ w2.grownBy wk none) (fun s10 _ => N - (intOf s10).toNat)
            case atStart => exact ⟨0, Nat.zero_le _, rfl, grownBy_refl _ _⟩
            case round =>
              obtain ⟨m, hm, rfl, hgm⟩ := hrel
              have am := (A2.same hgm).cell
              by_cases hml : m < S.length
              · obtain ⟨go, oo, co, hvo, hgo, cm⟩ := (RdL.same O2.rd hgm).at_ tagF_len hml
                cases hvo
                have cm0 := cm 0 _ rfl
                have cm1 := cm 1 _ rfl
                rw [Nat.add_zero] at cm0
                have hml2 : (m : Int) < (S.length : Int) := by omega
                have hbl := blT_of S[m].name x.name
                clear cm
                by_cases hmN : m < N
                · have hlt := HN2.out m hmN hml
                  rw [decide_eq_true (show S[m].name.data.toList < x.name.data.toList from hlt)] at hbl
                  generalize S[m] = y at *
                  clear hlt
                  go_wp2_with fail
                  go_quiet (fail)
                  go_wp2_with fail
                  exact ⟨⟨m + 1, by omega, by go_num, grownBy_drewN hgm _⟩, by simp [intOf]; omega⟩
                · obtain rfl : m = N := by omega
                  have hlt := HN3.out hml
                  rw [decide_eq_false (show ¬ S[m].name.data.toList < x.name.data.toList from hlt)] at hbl
                  generalize S[m] = y at *
                  clear hlt
                  go_wp2_with fail
                  go_quiet (fail)
                  go_wp2_with fail
                  go_meet
                  exact ⟨rfl, grownBy_drewN hgm _⟩
              · obtain rfl : m = N := by omega
                have hml2 : decide ((m : Int) < (S.length : Int)) = false := decide_eq_false (by omega)
                go_wp2_with fail
                go_quiet (fail)
                go_wp2_with fail
                go_meet
                exact ⟨rfl, grownBy_drewN hgm _⟩
          obtain ⟨rfl, h3⟩ := hcut
          refine hK1 _ _ ?_
          have O3 := O2.same h3
          have A3 := A2.same h3
          have a3 := A3.cell
          by_cases hdup : ∃ (hk : N < S.length), nmB S[N] = nmB x
          · have HF := Lib.hid (HNo.out hdup)
            obtain ⟨hml, he⟩ := hdup
            obtain ⟨go, oo, co, hvo, hgo, cm⟩ := (RdL.same O3.rd (grownBy_refl _ _)).at_ tagF_len hml
            cases hvo
            have cm0 := cm 0 _ rfl
            have cm1 := cm 1 _ rfl
            rw [Nat.add_zero] at cm0
            have hml2 : (N : Int) < (S.length : Int) := by omega
            have hbe := beT_of S[N].name x.name
            rw [decide_eq_true (show S[N].name.data.toList = x.name.data.toList from he)] at hbe
            generalize S[N] = y at *
            clear he cm HNo HYes HN1 HN2 HN3
            go_wp2_with fail
            go_quiet (fail)
            go_wp2_with fail
            go_ret2
            exact sortP_no HF.out (by decide) (grownBy_trans G2 (grownBy_drewN h3 _))
          · have HD2 := Lib.hid (HYes.out hdup)
            have O3' := Lib.hid O3
            have A3' := Lib.hid A3
            apply wp_seq_k
            intro K3 hK3
            go_cut [53, 54, 55, 56, 57, 58, 59, 60, 61, 62, 63, 64, 65, 66] (fun _ _ _ _ _ _ _ _ _ _ _ _ _ s66 wx => s66 = .bool false ∧ w2.grownBy wx none)
            case first =>
              by_cases hml : N < S.length
              · obtain ⟨go, oo, co, hvo, hgo, cm⟩ := O3.rd.at_ tagF_len hml
                cases hvo
                have cm0 := cm 0 _ rfl
                have cm1 := cm 1 _ rfl
                rw [Nat.add_zero] at cm0
                have hml2 : (N : Int) < (S.length : Int) := by omega
                have hbe := beT_of S[N].name x.name
                rw [decide_eq_false (show ¬ S[N].name.data.toList = x.name.data.toList from fun e => hdup ⟨hml, e⟩)] at hbe
                generalize S[N] = y at *
                clear hdup cm
                go_wp2_with fail
                go_quiet (fail)
                go_wp2_with fail
                go_meet
                exact ⟨rfl, grownBy_drewN h3 _⟩
              · obtain rfl : N = S.length := by omega
                clear hdup
                have hml2 : decide ((S.length : Int) < (S.length : Int)) = false := decide_eq_false (by omega)
                go_wp2_with fail
                go_quiet (fail)
                go_wp2_with fail
                go_meet
                exact ⟨rfl, grownBy_drewN h3 _⟩
            obtain ⟨rfl, h4⟩ := hcut
            clear a3 A3 O3 hK hK1 hdup
            refine hK3 _ _ ?_
            have O3 := O3'.out
            have A3 := A3'.out
            clear O3' A3'
            have O3 := O2.same h4
            have A3 := A2.same h4
            have G3 := grownBy_trans G2 h4
            have hKl := hN
            have HSb := Lib.hid hsl
            have hsl : S.length ≤ 1000000 := by omega
            obtain ⟨P, rfl⟩ : ∃ P, P = N := ⟨_, rfl⟩
            clear O2 A2 HNo HYes HN1 HN2 HN3 hN h3
            have hcap := O3.cap
            have hP0 : (0 : Int) ≤ (P : Int) := by omega
            have hP1 : (P : Int) ≤ (S.length : Int) := by omega
            have hP2 : (P : Int) ≤ (oc : Int) := by omega
            have hP3 : (S.length : Int) ≤ (oc : Int) := by omega
            have hsz := G3.size
            refine wp_region_any (by kernel_rfl) ?_
            (refine Tail.take_put 8 75 (.slice oa S.length oc) rfl rfl (by kernel_rfl) (by kernel_rfl) (by kernel_rfl) (fun _ _ _ h => h) (Or.inl ⟨by rfl, fun w => ?_⟩) ?_; · go_simp); simp only [List.setIfInBounds_toArray, List.set_cons_zero, List.set_cons_succ]
            (refine Tail.take_put 9 76 (.int .i64 P) rfl rfl (by kernel_rfl) (by kernel_rfl) (by kernel_rfl) (fun _ _ _ h => h) (Or.inl ⟨by rfl, fun w => ?_⟩) ?_; · go_simp); simp only [List.setIfInBounds_toArray, List.set_cons_zero, List.set_cons_succ]
            (refine Tail.take_put 10 77 (.slice (if oc = P then oa else oa.map (·.add (P * 2))) (S.length - P) (oc - P)) rfl rfl (by kernel_rfl) (by kernel_rfl) (by kernel_rfl) (fun _ _ _ h => h) (Or.inl ⟨by rfl, fun w => ?_⟩) ?_; · go_simp); simp only [List.setIfInBounds_toArray, List.set_cons_zero, List.set_cons_succ]
            have RD := Lib.hid fun w' (h : Own tagF 2 143 w.heap.size w' (.slice oa S.length oc) S) => h.rd.drop tagF_len hKl hcap (oc - P)
            generalize (if oc = P then oa else oa.map (·.add (P * 2))) = od at *
            (refine Rg.wpAny_rg 7 #[] #[false, false, false, false, false, false, false, false, true, true, true, false, false] (fun w w' => World.grownBy w w' none) (fun _ _ _ _ _ => False) (by kernel_rfl) (by kernel_rfl) rfl (by kernel_rfl) (by simp only [Rg.tailL, List.drop]; decide) (fun w => grownBy_refl w none) (fun _ _ _ h k => grownBy_trans h k) (fun _ _ _ _ _ h => h) ?_; simp only [List.take, List.drop, Rg.tailL]; simp (decide := true) only [if_true, if_false])
            have Gd : wc.grownBy wc.drew none := (by (repeat (first | exact grownBy_refl _ _ | assumption | refine grownBy_new_block ?_ _ | refine grownBy_drew ?_ | refine grownBy_drewN ?_ _ | refine grownBy_setNew ?_ (by first | (simp; done) | omega | (simp; omega)) _)))
            have Kd := grownBy_trans G3 Gd
            have hb1 : (S.take P).length = P := by simp; omega
            have hb2 : (S.take P).length * 32 ≤ 140737488355328 := by rw [hb1]; omega
            have hb3 : (S.take P).length ≤ 9223372036854775807 := by rw [hb1]; omega
            have hb4 : ((S.take P).length + 1) * 32 ≤ 140737488355328 := by rw [hb1]; omega
            have hb5 : (S.take P).length + 1 ≤ 9223372036854775807 := by rw [hb1]; omega
            have hb6 : (S.take P ++ [x]).length = P + 1 := by rw [List.length_append, hb1]; rfl
            have hb7 : (S.drop P).length = S.length - P := by simp
            have hb8 : ((S.take P ++ [x]).length + (S.drop P).length) * 32 ≤ 140737488355328 := by rw [hb6, hb7]; omega
            have hb9 : (S.take P ++ [x]).length + (S.drop P).length ≤ 9223372036854775807 := by rw [hb6, hb7]; omega
            have Hb1 := Lib.hid hb1.symm
            have Hb7 := Lib.hid hb7.symm
            clear hb1 hb6 hb7
            (refine Rg.tree_op rfl rfl ?_; intro y0 my0 dy0)
            clear dy0
            have zy0 : w.heap.size ≤ y0.heap.size := (grownBy_trans Kd my0).size
            go_wp2_with fail
            refine ⟨World.grownBy_alloc _ _ _, ?_⟩
            have N0 := own_lit0 (e := 143) tagF 2 zy0
            have hg0 : wc.heap.size ≤ y0.heap.size := (grownBy_trans Gd my0).size
            generalize y0.alloc (.cells #[] 143) = e0 at *
            generalize y0.heap.size = g0 at *
            (refine Rg.tree_quiet 3 rfl (by first | exact Or.inl rfl | exact Or.inr rfl) ?_; simp only [List.take, List.drop, List.length_cons, List.length_nil, List.replicate, Nat.reduceAdd]; (try simp only [List.cons_append]); (try simp only [List.nil_append]); (repeat (go_big_quiet_step (fail))); refine wpQuiet_nil ?_)
            (refine Rg.tree_op rfl rfl ?_; intro y4 my4 dy4)
            have N4 := N0.same (dy4.out 0 (by omega) (by kernel_rfl))
            have K4 := grownBy_trans Gd my4
            have R4 := (O3.rd.take tagF_len hKl oc).same K4
            have z4 := (grownBy_trans Kd my4).size
            go_wp2_with (at_builtin; refine app_lit elt_tag one_tag N4 R4 Hb1.out hb2 hb3 z4 (by rfl) _ _ (by rfl) (by rfl) (by rfl) ?_; intro v4 e4 o4 g4 l4; have Hg4 := Lib.hid g4; clear g4)
            refine ⟨Hg4.out, ?_⟩
            have hv4 := Lies.ge l4 (fun k hk => Nat.le_trans hg0 (ge_new _ _ _ k hk)) K4.size
            clear R4 N0 N4 K4 z4 dy4 l4
            (refine Rg.tree_op rfl rfl ?_; intro y5 my5 dy5)
            clear dy5
            have a5 := (A3.same (grownBy_trans Gd my5)).cell
            go_wp2_with fail
            refine ⟨grownBy_refl _ _, ?_⟩
            clear a5
            (refine Rg.tree_op rfl rfl ?_; intro y6 my6 dy6)
            clear dy6
            go_wp2_with fail
            refine ⟨World.grownBy_alloc _ _ _, ?_⟩
            have N6 := Blk.new y6 #[.string x.name, .string x.value] 143
            generalize y6.alloc (.cells #[.string x.name, .string x.value] 143) = e6 at *
            generalize y6.heap.size = g6 at *
            (refine Rg.tree_nil ?_; intro z mz dz cz)
            have o5 := o4.same (dz.out 4 (by omega))
            have N7 := (N6.same (dz.out 6 (by omega))).one tagF_len x rfl
            have Kz := grownBy_trans Gd mz
            have KK := grownBy_trans Kd mz
            have z7 := KK.size
            have O7 := O3.same Kz
            have hlo : ∀ k, Value.ownBlock (.slice oa S.length oc) = some k → k < wc.heap.size := fun k hk => (O3.lt k hk).2
            have tok := Lib.hid hP0
            clear dz cz my0 my4 my5 my6 mz Hg4 Kz N6 o4 O3 A3 hg0 zy0 Gd Kd
            go_wp2_with (first
              | (at_builtin; have _t := tok; refine app elt_tag one_tag o5 N7 rfl hb4 hb5 z7 (by rfl) _ _ (by rfl) (by rfl) (by rfl) ?_; intro v7 w7 o7 g7 l7; clear tok; have K7 := grown_own KK o5 (Nat.le_refl _) g7; have R8 := RD.out _ (O7.kept g7 (fun k hk e => by have := hlo k hk; have := hv4 k e; omega)); have z8 := K7.size)
              | (at_builtin; refine app elt_tag one_tag o7 R8 Hb7.out hb8 hb9 z8 (by rfl) _ _ (by rfl) (by rfl) (by rfl) ?_; intro v8 w8 o8 g8 l8; have K8 := grown_own K7 o7 (Nat.le_refl _) g8))
            exact ⟨⟨j + 1, by omega, by go_num, HD2.out, by rw [HT2.out, HI.out]; exact o8, K8⟩, by simp [intOf]; omega⟩
        · have hke : L.take j = L := List.take_of_length_le (by omega)
          rw [hke] at hO HDf
          have HE := Lib.hid (sortE_ok Hfew.out HT.out HDf.out)
          obtain ⟨oa, oc, rfl⟩ := hO.shape
          have HO := Lib.hid hO
          clear hO hke
          go_wp2_with fail
          go_ret2
          exact ⟨_, by rw [HE.out]; rfl, by rw [HE.out, if_pos rfl]; exact HO.out, hg⟩
end Go.Proofs.Ytniokdflljchgaa
