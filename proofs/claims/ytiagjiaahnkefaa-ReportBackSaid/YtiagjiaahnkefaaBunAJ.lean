/- Several texts in one file; each begins with a comment that says what is proved in it. -/
import Derived.Test.YtiagjiaahnkefaaBunAH
import Derived.Test.YtiagjiaahnkefaaBunAC
import Derived.Test.YtiagjiaahnkefaaBunAE
import Derived.Test.YtiagjiaahnkefaaBunAG

/- The keys of summaries: the reference, which inserts one after the other. -/
namespace Go.Proofs.Ytiagjiaahnkefaa
open Go.RowKit Go.Sort

theorem lessN_le (L : List Bytes) (k : Bytes) : lessN L k ≤ L.length := List.Sublist.length_le (List.takeWhile_sublist _)
theorem lessN_lt {L : List Bytes} {k : Bytes} : ∀ {i : Nat} (h : i < lessN L k) (h2 : i < L.length), L[i] < k := by
  induction L with
  | nil => intro i h h2; simp at h2
  | cons a L ih =>
    intro i h h2
    by_cases ha : a < k
    · cases i with
      | zero => exact ha
      | succ i =>
        have : i < lessN L k := by simp [lessN, ha] at h; simpa [lessN] using h
        simpa using ih this (by simpa using h2)
    · simp [lessN, ha] at h
theorem lessN_at {L : List Bytes} {k : Bytes} (h : lessN L k < L.length) : ¬ L[lessN L k] < k := by
  induction L with
  | nil => simp at h
  | cons a L ih =>
    by_cases ha : a < k
    · have e : lessN (a :: L) k = lessN L k + 1 := by simp [lessN, ha]
      have := ih (by rw [e] at h; simpa using h)
      simpa [e] using this
    · have e : lessN (a :: L) k = 0 := by simp [lessN, ha]
      simpa [e] using ha

theorem bl_of (b : Bytes) (k : ByteArray) : Op.bytesLess b k.toList = decide (b < k.data.toList) := by
  rw [ByteArray.toList_eq, bytesLess_eq]
theorem be_of (b : Bytes) (k : ByteArray) : (b == k.toList) = decide (b = k.data.toList) := by
  rw [ByteArray.toList_eq, Bool.eq_iff_iff]; simp

set_option maxHeartbeats 1000000 in
set_option maxRecDepth 100000 in
theorem rkeys_c (v : Value) (l : List Summ) (w : World) (h : SumsRd w v l) (hs : (keysL l).length ≤ 100000) : Calls Try.prog 40 #[v] w (RetOwn strB 1 9 (keysF l) w) := by
  obtain ⟨a, c, rfl⟩ := h.rd.shape
  have hm := h.rd.2.1
  have H := Lib.hid h
  have Hs := Lib.hid hs
  clear h hs
  go_enter Try.func40, Try.ntmps40
  go_wp2_with fail
  go_loopw [3, 11] (fun s3 s11 wk => ∃ (k : Nat), k ≤ l.length ∧ s11 = .int .i64 k ∧ Own strB 1 9 w.heap.size wk s3 ((keysL (l.take k)).foldl insF []) ∧ w.grownBy wk none) (fun _ s11 _ => l.length - (intOf s11).toNat)
  case atStart => exact ⟨0, Nat.zero_le _, rfl, Own.nil _ _ _ _ _, grownBy_refl _ _⟩
  case round =>
    obtain ⟨k, hk, rfl, hO, hg⟩ := hrel
    by_cases hlt : k < l.length
    · obtain ⟨g, off, cap, hv, hgl, c0, c1, c2, c3, hR, hW⟩ := (H.out.same hg).at_ hlt
      cases hv
      have HS := Lib.hid (take_succ hlt)
      have Hk := Lib.hid (keysL_snoc (l.take k) l[k])
      have hbig := Lib.hid (keysL_take_le l (k + 1))
      obtain ⟨a1, k1, e1⟩ := hR.es.shape
      obtain ⟨a2, k2, e2⟩ := hR.vs.shape
      have Hes := Lib.hid (H.out.all _ (List.getElem_mem hlt)).es
      rw [e1] at c1 Hes
      rw [e2] at c3
      rw [HS.out] at hbig
      clear hR hW e1 e2
      generalize keysL (l.take k) = K at *
      generalize l[k] = s at *
      have hem := Hes.out.2.1
      go_upto_region 6 with fail
      have O1 := hO.same (World.grownBy_alloc wr (.cells #[.int .u64 s.total, .slice a1 s.es.length k1, .int .u64 s.untr, .slice a2 s.vs.length k2] 68) none)
      have G1 := grownBy_new_block hg (.cells #[.int .u64 s.total, .slice a1 s.es.length k1, .int .u64 s.untr, .slice a2 s.vs.length k2] 68)
      generalize wr.alloc (.cells #[.int .u64 s.total, .slice a1 s.es.length k1, .int .u64 s.untr, .slice a2 s.vs.length k2] 68) = w1 at *
      clear hO hg c0 c1 c2 c3 hgl
      have hKb : K.length + s.es.length ≤ 100000 := by
        have h1 := hbig.out
        have h2 := Hs.out
        rw [Hk.out, List.length_append, List.length_map] at h1
        omega
      go_loopw [3, 18] (fun s3 s18 wk => ∃ (j : Nat), j ≤ s.es.length ∧ s18 = .int .i64 j ∧ Own strB 1 9 w.heap.size wk s3 ((K ++ (s.es.take j).map entK).foldl insF []) ∧ w.grownBy wk none) (fun _ s18 _ => s.es.length - (intOf s18).toNat)
      case atStart => exact ⟨0, Nat.zero_le _, rfl, by simpa using O1, G1⟩
      case round =>
        obtain ⟨j, hj, rfl, hO, hg⟩ := hrel
        by_cases hjl : j < s.es.length
        · obtain ⟨ge, oe, ce, hve, hge, d0, d1, d2⟩ := RdL.ent (RdL.same Hes.out hg) hjl
          cases hve
          have HT := Lib.hid (take_succ hjl)
          have hbb : ((K ++ (s.es.take j).map entK).foldl insF []).length ≤ 100000 := by
            refine Nat.le_trans (foldIns_len _ []) ?_
            rw [List.length_append, List.length_map, List.length_take]; simp; omega
          have HF := Lib.hid (show (K ++ (s.es.take (j + 1)).map entK).foldl insF [] = insF ((K ++ (s.es.take j).map entK).foldl insF []) (entK s.es[j]) by rw [HT.out, List.map_append, ← List.append_assoc, List.foldl_append]; rfl)
          generalize (K ++ (s.es.take j).map entK).foldl insF [] = KK at *
          generalize s.es[j] = en at *
          obtain ⟨oa, oc, rfl⟩ := hO.shape
          go_upto_region 8 with fail
          have O2 := hO.same (World.grownBy_alloc wr (.cells #[.string en.key, .int .u64 en.own, .int .u64 en.slack] 77) none)
          have G2 := grownBy_new_block hg (.cells #[.string en.key, .int .u64 en.own, .int .u64 en.slack] 77)
          have A2 := Blk.new wr #[.string en.key, .int .u64 en.own, .int .u64 en.slack] 77
          generalize wr.alloc (.cells #[.string en.key, .int .u64 en.own, .int .u64 en.slack] 77) = w2 at *
          generalize wr.heap.size = gk at *
          have HO := Lib.hid hO
          have HN1 := Lib.hid (lessN_le KK (entK en))
          have HN2 := Lib.hid fun i (h : i < lessN KK (entK en)) h2 => lessN_lt (k := entK en) h h2
          have HN3 := Lib.hid fun h => lessN_at (L := KK) (k := entK en) h
          have HI := Lib.hid (show insF KK (entK en) = if KK[lessN KK (entK en)]? = some (entK en) then KK else KK.take (lessN KK (entK en)) ++ [entK en] ++ KK.drop (lessN KK (entK en)) from rfl)
          clear hO hg d0 d1 d2 hge
          generalize lessN KK (entK en) = N at *
          have hN := HN1.out
          go_cut [8] (fun s8 wx => s8 = .int .i64 0 ∧ w2 = wx)
          case first =>
            go_wp2_with fail
            go_meet
            exact ⟨rfl, rfl⟩
          obtain ⟨rfl, rfl⟩ := hcut
          rename_i hK
          refine hK _ _ ?_
          apply wp_seq_k
          intro K1 hK1
          go_cut [8, 22, 23, 24, 25, 26, 27, 28, 29, 30, 31, 32, 33, 34, 35, 36] (fun s8 _ _ _ _ _ _ _ _ _ _ _ _ _ _ _ wx => s8 = .int .i64 N ∧ w2.grownBy wx none)
          case first =>
            go_wp2_with fail
            go_loopw [8] (fun s8 wk => ∃ m : Nat, m ≤ N ∧ s8 = .int .i64 m ∧ w2.grownBy wk none) (fun s8 _ => N - (intOf s8).toNat)
            case atStart => exact ⟨0, Nat.zero_le _, rfl, grownBy_refl _ _⟩
            case round =>
              obtain ⟨m, hm, rfl, hgm⟩ := hrel
              have am := (A2.same hgm).cell
              by_cases hml : m < KK.length
              · obtain ⟨go, oo, co, hvo, hgo, cm⟩ := (O2.same hgm).rd.one strB_one hml
                cases hvo
                have hml2 : (m : Int) < (KK.length : Int) := by omega
                have hbl := bl_of KK[m] en.key
                by_cases hmN : m < N
                · have hlt := HN2.out m hmN hml
                  rw [decide_eq_true (show KK[m] < en.key.data.toList from hlt)] at hbl
                  generalize KK[m] = x at *
                  clear hlt
                  go_wp2_with fail
                  go_quiet (fail)
                  go_wp2_with fail
                  exact ⟨⟨m + 1, by omega, by go_num, grownBy_drewN hgm _⟩, by simp [intOf]; omega⟩
                · obtain rfl : m = N := by omega
                  have hlt := HN3.out hml
                  rw [decide_eq_false (show ¬ KK[m] < en.key.data.toList from hlt)] at hbl
                  generalize KK[m] = x at *
                  clear hlt
                  go_wp2_with fail
                  go_quiet (fail)
                  go_wp2_with fail
                  go_meet
                  exact ⟨rfl, grownBy_drewN hgm _⟩
              · obtain rfl : m = N := by omega
                have hml2 : decide ((m : Int) < (KK.length : Int)) = false := decide_eq_false (by omega)
                go_wp2_with fail
                go_quiet (fail)
                go_wp2_with fail
                go_meet
                exact ⟨rfl, grownBy_drewN hgm _⟩
          obtain ⟨rfl, h3⟩ := hcut
          refine hK1 _ _ ?_
          apply wp_seq_k
          intro K2 hK2
          have O3 := O2.same h3
          have A3 := A2.same h3
          have a3 := A3.cell
          go_cut [37, 38, 39, 40, 41, 42, 43, 44, 45, 46, 47, 48, 49] (fun _ _ _ _ _ _ _ _ _ _ _ _ s49 wx => s49 = .bool (!decide (KK[N]? = some (entK en))) ∧ w2.grownBy wx none)
          case first =>
            by_cases hml : N < KK.length
            · obtain ⟨go, oo, co, hvo, hgo, cm⟩ := O3.rd.one strB_one hml
              cases hvo
              have hml2 : (N : Int) < (KK.length : Int) := by omega
              have hml3 : ((N : Int) == (KK.length : Int)) = false := beq_eq_false_iff_ne.2 (by omega)
              have hbe := be_of KK[N] en.key
              have hgt := Lib.hid (show decide (KK[N]? = some (entK en)) = decide (KK[N] = en.key.data.toList) by rw [List.getElem?_eq_getElem hml]; simp [entK])
              generalize KK[N] = x at *
              cases hd : decide (x = en.key.data.toList)
              · rw [hd] at hbe hgt
                clear hd
                go_wp2_with fail
                go_quiet (fail)
                go_wp2_with fail
                go_meet
                exact ⟨by rw [hgt.out]; rfl, grownBy_drewN h3 _⟩
              · rw [hd] at hbe hgt
                clear hd
                go_wp2_with fail
                go_quiet (fail)
                go_wp2_with fail
                go_meet
                exact ⟨by rw [hgt.out]; rfl, grownBy_drewN h3 _⟩
            · obtain rfl : N = KK.length := by omega
              have hgt := Lib.hid (show decide (KK[KK.length]? = some (entK en)) = false by simp)
              go_wp2_with fail
              go_quiet (fail)
              go_wp2_with fail
              go_meet
              exact ⟨by rw [hgt.out]; rfl, grownBy_drewN h3 _⟩
          obtain ⟨rfl, h4⟩ := hcut
          clear a3 A3 O3 hK hK1
          refine hK2 _ _ ?_
          have O4 := O2.same h4
          have A4 := A2.same h4
          by_cases hins : KK[N]? = some (entK en)
          · rw [decide_eq_true hins]
            have hI := HI.out
            rw [if_pos hins] at hI
            have HI2 := Lib.hid hI
            clear hI hins
            go_wp2_with fail
            exact ⟨⟨j + 1, by omega, by go_num, by rw [HF.out, HI2.out]; exact O4, grownBy_trans G2 h4⟩, by simp [intOf]; omega⟩
          · rw [decide_eq_false hins]
            have hI := HI.out
            rw [if_neg hins] at hI
            have HI2 := Lib.hid hI
            clear hI hins
            have O3 := O4
            have A3 := A4
            have G3 := grownBy_trans G2 h4
            have hKl := hN
            have hsl : KK.length ≤ 1000000 := by omega
            have Hxk := Lib.hid (show (#[Value.string en.key] : Array Value).toList = strB (entK en) by simp [strB, entK])
            generalize entK en = x at *
            obtain ⟨S, rfl⟩ : ∃ S, S = KK := ⟨_, rfl⟩
            obtain ⟨P, rfl⟩ : ∃ P, P = N := ⟨_, rfl⟩
            clear O4 A4
            go_upto_region 12 with fail
            have hcap := O3.cap
            have hP0 : (0 : Int) ≤ (P : Int) := by omega
            have hP1 : (P : Int) ≤ (S.length : Int) := by omega
            have hP2 : (P : Int) ≤ (oc : Int) := by omega
            have hP3 : (S.length : Int) ≤ (oc : Int) := by omega
            have hsz := G3.size
            refine wp_region_any (by kernel_rfl) ?_
            (refine Tail.take_put 9 59 (.slice oa S.length oc) rfl rfl (by kernel_rfl) (by kernel_rfl) (by kernel_rfl) (fun _ _ _ h => h) (Or.inl ⟨by rfl, fun w => ?_⟩) ?_; · go_simp); simp only [List.setIfInBounds_toArray, List.set_cons_zero, List.set_cons_succ]
            (refine Tail.take_put 10 60 (.int .i64 P) rfl rfl (by kernel_rfl) (by kernel_rfl) (by kernel_rfl) (fun _ _ _ h => h) (Or.inl ⟨by rfl, fun w => ?_⟩) ?_; · go_simp); simp only [List.setIfInBounds_toArray, List.set_cons_zero, List.set_cons_succ]
            (refine Tail.take_put 11 61 (.slice (if oc = P then oa else oa.map (·.add (P * 1))) (S.length - P) (oc - P)) rfl rfl (by kernel_rfl) (by kernel_rfl) (by kernel_rfl) (fun _ _ _ h => h) (Or.inl ⟨by rfl, fun w => ?_⟩) ?_; · go_simp); simp only [List.setIfInBounds_toArray, List.set_cons_zero, List.set_cons_succ]
            have RD := Lib.hid fun w' (h : Own strB 1 9 w.heap.size w' (.slice oa S.length oc) S) => h.rd.drop strB_len hKl hcap (oc - P)
            generalize (if oc = P then oa else oa.map (·.add (P * 1))) = od at *
            (refine Rg.wpAny_rg 8 #[] #[false, false, false, false, false, false, false, false, false, true, true, true, false, false] (fun w w' => World.grownBy w w' none) (fun _ _ _ _ _ => False) (by kernel_rfl) (by kernel_rfl) rfl (by kernel_rfl) (by simp only [Rg.tailL, List.drop]; decide) (fun w => grownBy_refl w none) (fun _ _ _ h k => grownBy_trans h k) (fun _ _ _ _ _ h => h) ?_; simp only [List.take, List.drop, Rg.tailL]; simp (decide := true) only [if_true, if_false])
            have Gd : wc.grownBy wc.drew none := (by (repeat (first | exact grownBy_refl _ _ | assumption | refine grownBy_new_block ?_ _ | refine grownBy_drew ?_ | refine grownBy_drewN ?_ _ | refine grownBy_setNew ?_ (by first | (simp; done) | omega | (simp; omega)) _)))
            have Kd := grownBy_trans G3 Gd
            have hb1 : (S.take P).length = P := by simp; omega
            have hb2 : (S.take P).length * 16 ≤ 140737488355328 := by rw [hb1]; omega
            have hb3 : (S.take P).length ≤ 9223372036854775807 := by rw [hb1]; omega
            have hb4 : ((S.take P).length + 1) * 16 ≤ 140737488355328 := by rw [hb1]; omega
            have hb5 : (S.take P).length + 1 ≤ 9223372036854775807 := by rw [hb1]; omega
            have hb6 : (S.take P ++ [x]).length = P + 1 := by rw [List.length_append, hb1]; rfl
            have hb7 : (S.drop P).length = S.length - P := by simp
            have hb8 : ((S.take P ++ [x]).length + (S.drop P).length) * 16 ≤ 140737488355328 := by rw [hb6, hb7]; omega
            have hb9 : (S.take P ++ [x]).length + (S.drop P).length ≤ 9223372036854775807 := by rw [hb6, hb7]; omega
            have Hb1 := Lib.hid hb1.symm
            have Hb7 := Lib.hid hb7.symm
            clear hb1 hb6 hb7
            (refine Rg.tree_op rfl rfl ?_; intro y0 my0 dy0)
            clear dy0
            have zy0 : w.heap.size ≤ y0.heap.size := (grownBy_trans Kd my0).size
            go_wp2_with fail
            refine ⟨World.grownBy_alloc _ _ _, ?_⟩
            have N0 := own_lit0 (e := 9) strB 1 zy0
            have hg0 : wc.heap.size ≤ y0.heap.size := (grownBy_trans Gd my0).size
            generalize y0.alloc (.cells #[] 9) = e0 at *
            generalize y0.heap.size = g0 at *
            (refine Rg.tree_quiet 3 rfl (by first | exact Or.inl rfl | exact Or.inr rfl) ?_; simp only [List.take, List.drop, List.length_cons, List.length_nil, List.replicate, Nat.reduceAdd]; (try simp only [List.cons_append]); (try simp only [List.nil_append]); (repeat (go_big_quiet_step (fail))); refine wpQuiet_nil ?_)
            (refine Rg.tree_op rfl rfl ?_; intro y4 my4 dy4)
            have N4 := N0.same (dy4.out 0 (by omega) (by kernel_rfl))
            have K4 := grownBy_trans Gd my4
            have R4 := (O3.rd.take strB_len hKl oc).same K4
            have z4 := (grownBy_trans Kd my4).size
            go_wp2_with (at_builtin; refine app_lit elt_str one_str N4 R4 Hb1.out hb2 hb3 z4 (by rfl) _ _ (by rfl) (by rfl) (by rfl) ?_; intro v4 e4 o4 g4 l4; have Hg4 := Lib.hid g4; clear g4)
            refine ⟨Hg4.out, ?_⟩
            have hv4 := Lies.ge l4 (fun k hk => Nat.le_trans hg0 (ge_new _ _ _ k hk)) K4.size
            clear R4 N0 N4 K4 z4 dy4 l4
            (refine Rg.tree_quiet 1 rfl (by first | exact Or.inl rfl | exact Or.inr rfl) ?_; simp only [List.take, List.drop, List.length_cons, List.length_nil, List.replicate, Nat.reduceAdd]; (try simp only [List.cons_append]); (try simp only [List.nil_append]); (repeat (go_big_quiet_step (fail))); refine wpQuiet_nil ?_)
            (refine Rg.tree_op rfl rfl ?_; intro y5 my5 dy5)
            clear dy5
            have a5 := (A3.same (grownBy_trans Gd my5)).cell
            go_wp2_with fail
            refine ⟨grownBy_refl _ _, ?_⟩
            clear a5
            (refine Rg.tree_op rfl rfl ?_; intro y6 my6 dy6)
            clear dy6
            go_wp2_with fail
            refine ⟨World.grownBy_alloc _ _ _, ?_⟩
            have N6 := Blk.new y6 #[.string en.key] 9
            generalize y6.alloc (.cells #[.string en.key] 9) = e6 at *
            generalize y6.heap.size = g6 at *
            (refine Rg.tree_nil ?_; intro z mz dz cz)
            have o5 := o4.same (dz.out 4 (by omega))
            have N7 := (N6.same (dz.out 7 (by omega))).one strB_len x Hxk.out
            have Kz := grownBy_trans Gd mz
            have KK := grownBy_trans Kd mz
            have z7 := KK.size
            have O7 := O3.same Kz
            have hlo : ∀ k, Value.ownBlock (.slice oa S.length oc) = some k → k < wc.heap.size := fun k hk => (O3.lt k hk).2
            have tok := Lib.hid hP0
            clear dz cz my0 my4 my5 my6 mz Hg4 Kz N6 o4 O3 A3 hg0 zy0 Gd Kd
            go_wp2_with (first
              | (at_builtin; have _t := tok; refine app elt_str one_str o5 N7 rfl hb4 hb5 z7 (by rfl) _ _ (by rfl) (by rfl) (by rfl) ?_; intro v7 w7 o7 g7 l7; clear tok; have K7 := grown_own KK o5 (Nat.le_refl _) g7; have R8 := RD.out _ (O7.kept g7 (fun k hk e => by have := hlo k hk; have := hv4 k e; omega)); have z8 := K7.size)
              | (at_builtin; refine app elt_str one_str o7 R8 Hb7.out hb8 hb9 z8 (by rfl) _ _ (by rfl) (by rfl) (by rfl) ?_; intro v8 w8 o8 g8 l8; have K8 := grown_own K7 o7 (Nat.le_refl _) g8))
            exact ⟨⟨j + 1, by omega, by go_num, by rw [HF.out, HI2.out]; exact o8, K8⟩, by simp [intOf]; omega⟩
        · have hje : s.es.take j = s.es := List.take_of_length_le (by omega)
          rw [hje] at hO
          go_wp2_with fail
          exact ⟨⟨k + 1, by omega, by go_num, by rw [HS.out, Hk.out]; exact hO, hg⟩, by simp [intOf]; omega⟩
    · have hke : l.take k = l := List.take_of_length_le (by omega)
      rw [hke, ins_fold] at hO
      go_wp2_with fail
      go_ret
      exact ⟨_, rfl, hO, hg⟩
end Go.Proofs.Ytiagjiaahnkefaa

/- The reference's Line. -/
namespace Go.Proofs.Ytiagjiaahnkefaa
open Go.RowKit
attribute [local go_sem ↓] exec_load_cfg
attribute [local go_sem] run_loadCfgS

theorem fold_stepR (c : Cfg) (t : List Int) (l : List Summ) (k : ByteArray) (O : List Int) {j : Nat} (hj : j < O.length) :
    foldB c t l k ((O.take (j + 1)).filter (fun i : Int => decide (i < (l.length : Int)))) = if decide (O[j] < (l.length : Int)) then addP (foldB c t l k ((O.take j).filter (fun i : Int => decide (i < (l.length : Int))))) (bP c t l k O[j]) else foldB c t l k ((O.take j).filter (fun i : Int => decide (i < (l.length : Int)))) := by
  rw [take_succ hj, List.filter_append]
  by_cases h : decide (O[j] < (l.length : Int)) = true
  · rw [if_pos h, List.filter_cons_of_pos (p := fun i : Int => decide (i < (l.length : Int))) h, List.filter_nil, foldB_snoc]
  · rw [if_neg h, List.filter_cons_of_neg (p := fun i : Int => decide (i < (l.length : Int))) h, List.filter_nil, List.append_nil]
theorem keepRLine {w0 w2 : World} {bc g o : Nat} {c : Cfg} {ve vr : Value} {tot un : Int} (hlt : bc < w0.heap.size ∧ g < w0.heap.size) (hB : BoxAt w0 bc c)
    (h : w0.cell? ⟨g, o, none⟩ = some (.int .u64 tot) ∧ w0.cell? ⟨g, o + 1, none⟩ = some ve ∧ w0.cell? ⟨g, o + 2, none⟩ = some (.int .u64 un) ∧ w0.cell? ⟨g, o + 3, none⟩ = some vr) (h0 : w0.grownBy w2 none) :
    isCfg w2 bc = true ∧ readCfg w2 bc = c.val ∧ w2.cell? ⟨g, o, none⟩ = some (.int .u64 tot) ∧ w2.cell? ⟨g, o + 1, none⟩ = some ve ∧ w2.cell? ⟨g, o + 2, none⟩ = some (.int .u64 un) ∧ w2.cell? ⟨g, o + 3, none⟩ = some vr := by
  obtain ⟨h3, h4, h5, h6⟩ := h
  obtain ⟨l3, l4⟩ := hlt
  have hB2 := hB.same h0
  have hc := (grownBy_cells h0).1
  exact ⟨hB2.is, hB2.reads, (hc g _ l4 (by simp)).trans h3, (hc g _ l4 (by simp)).trans h4, (hc g _ l4 (by simp)).trans h5, (hc g _ l4 (by simp)).trans h6⟩

set_option maxHeartbeats 2000000 in
set_option maxRecDepth 100000 in
theorem rline_c (c : Cfg) (t : List Int) (lv : Value) (l : List Summ) (k : ByteArray) (w : World) (h : RCfg w c t) (hl : SumsRd w lv l) (ho : SumsOk l) (hk : k.size ≤ 9223372036854775807) :
    Calls Try.prog 43 #[c.val, lv, .string k] w (RetVal (lineV k (lineF c t l k).1 (lineF c t l k).2) w) := by
  obtain ⟨la, lc, rfl⟩ := hl.rd.shape
  have H := Lib.hid h
  have HL := Lib.hid hl
  obtain ⟨s1, s2⟩ := h.shards
  have hsp := h.spread
  have hlm := hl.rd.2.1
  clear h hl
  go_enter Try.func43, Try.ntmps43
  go_upto_region 1 with (refine box_cfg rfl _ rfl c rfl ?_; intro w1 B1 G1 z1)
  have kr : Blk (w1.alloc (.cells #[.string ⟨#[]⟩, .int .u64 0, .int .u64 0] 71)) w1.heap.size #[.string ⟨#[]⟩, .int .u64 0, .int .u64 0] := (by repeat (first | exact Blk.new' _ _ _ (by simp) | refine Blk.same ?_ (World.grownBy_alloc _ _ _) | refine Blk.drew ?_ _ | refine Blk.drew1 ?_ | refine Blk.set_ (by assumption) _ _ rfl | refine Blk.off ?_ (by first | omega | (simp; done) | (simp; omega)) _ _ | assumption))
  have kc : BoxAt (w1.alloc (.cells #[.string ⟨#[]⟩, .int .u64 0, .int .u64 0] 71)) w.heap.size c := B1.same (World.grownBy_alloc _ _ _)
  have K4 : w.grownBy (w1.alloc (.cells #[.string ⟨#[]⟩, .int .u64 0, .int .u64 0] 71)) none := grownBy_trans G1 (World.grownBy_alloc _ _ _)
  clear G1 B1
  generalize w1.alloc (.cells #[.string ⟨#[]⟩, .int .u64 0, .int .u64 0] 71) = w4 at *
  generalize w1.heap.size = b at *
  have kb0 : Blk (w4.alloc (.cells #[.int .u64 0, .int .u64 0] 62)) w4.heap.size #[.int .u64 0, .int .u64 0] := Blk.new _ _ _
  have kc5 := kc.same (World.grownBy_alloc w4 (.cells #[.int .u64 0, .int .u64 0] 62) none)
  have K5 : w4.grownBy (w4.alloc (.cells #[.int .u64 0, .int .u64 0] 62)) none := World.grownBy_alloc _ _ _
  have z5 : w4.heap.size < (w4.alloc (.cells #[.int .u64 0, .int .u64 0] 62)).heap.size := by simp
  go_upto_region 2 with fail
  generalize hbs : w4.heap.size = bs at *
  generalize w4.alloc (.cells #[.int .u64 0, .int .u64 0] 62) = w5 at *
  go_upto_region 3 with (first | (refine load_cfg rfl _ rfl _ rfl c (by assumption) ?_) | (go_at_call 88; refine (rset_c c t k _ (H.out.same (grownBy_trans K4 K5)) hk).mono ?_; rintro e w6 ⟨ov, rfl, hov, G6⟩; obtain ⟨oa, oc, rfl⟩ := hov.shape))
  have kb := kb0.same G6
  have K6 := grownBy_trans K5 G6
  have hbase : ∀ g, Value.ownBlock (.slice oa (setF c t k).length oc) = some g → g ≠ bs := fun g hg e => by have := (hov.lt g hg).1; omega
  have hin := setN_in (h := homeF c t k) (n := c.Spread.toNat) s1
  have hlen : (setF c t k).length ≤ 8 := by rw [setF, setN_len]; omega
  have Hfin := Lib.hid (p := foldB c t l k ((setF c t k).filter (fun i : Int => decide (i < (l.length : Int)))) = lineF c t l k) rfl
  have Hin : Hid (∀ x ∈ setF c t k, 0 ≤ x ∧ x < c.Shards) := Lib.hid hin
  obtain ⟨O, hO⟩ : ∃ O, O = setF c t k := ⟨_, rfl⟩
  rw [← hO] at hov hlen Hin Hfin hbase ⊢
  have HO : Hid (Own intF 1 3 w5.heap.size w6 (.slice oa O.length oc) O) := Lib.hid hov
  have Hbs := Lib.hid hbs
  have hbs1 : w4.heap.size ≤ bs := by omega
  clear hO hov hin G6 kb0 kc5 K5 hbs
  go_loopw [9, 16] (fun s9 s16 wr => ∃ j : Nat, j ≤ O.length ∧ s16 = .int .i64 j ∧ Blk wr bs #[.int .u64 (foldB c t l k ((O.take j).filter (fun i : Int => decide (i < (l.length : Int))))).1, .int .u64 (foldB c t l k ((O.take j).filter (fun i : Int => decide (i < (l.length : Int))))).2] ∧ w6.grownBy wr (some bs) ∧ w4.grownBy wr none) (fun _ s16 _ => O.length - (intOf s16).toNat)
  case atStart => exact ⟨0, Nat.zero_le _, rfl, kb, grownBy_refl _ _, K6⟩
  case round =>
    clear kb K6
    obtain ⟨j, hj, rfl, kb, h6, h4⟩ := hrel
    by_cases hlt : j < O.length
    · obtain ⟨g, off, cap, hv, hgl, c0⟩ := ((HO.out.kept h6 (fun g hg e => hbase g hg (by injection e with e; exact e.symm))).rd).one int_one hlt
      cases hv
      have hF := fold_stepR c t l k O hlt
      obtain ⟨hx0, hx1⟩ := Hin.out _ (List.getElem_mem hlt)
      obtain ⟨hwa, hwb⟩ := foldB_w (c := c) (t := t) ho k ((O.take j).filter (fun i : Int => decide (i < (l.length : Int))))
      generalize foldB c t l k ((O.take j).filter (fun i : Int => decide (i < (l.length : Int)))) = f at *
      generalize O[j] = x at *
      by_cases hxl : x < (l.length : Int)
      · rw [decide_eq_true hxl, if_pos rfl] at hF
        obtain ⟨n, rfl⟩ := Int.eq_ofNat_of_zero_le hx0
        have hn : n < l.length := by omega
        have HF := Lib.hid hF
        obtain ⟨hb1, hb2⟩ := bP_w (c := c) (t := t) ho k (n : Int)
        have hbP : bP c t l k (n : Int) = (min (bndE l[n].es l[n].untr k).1 (sEstF c t l[n] k), min (bndE l[n].es l[n].untr k).2 (sEstF c t l[n] k)) := by
          unfold bP; rw [Int.toNat_natCast, List.getElem?_eq_getElem hn]
        have hm := List.getElem_mem hn
        have hcon := Lib.hid fun w' hg => rbounds_c c t l[n] k w' (H.out.same hg) (((HL.out).all _ hm).same hg) (HL.out.wf _ hm) (ho.rows _ hm) (ho.len _ hm) hk
        have HV := Lib.hid (p := boundsV c t l[n] k = .tuple #[bndV (bP c t l k (n : Int)).1 (bP c t l k (n : Int)).2, .bool (bndHas l[n].es k)]) (by rw [hbP]; rfl)
        have K2 := grownBy_trans K4 h4
        have E2 := HL.out.same K2
        have hKC := kc.same h4
        generalize hbx : bP c t l k (n : Int) = bx at *
        clear hbP hF hbx
        go_upto_region 6 with fail
        obtain ⟨gl, offl, capl, hvl, hgll, d0, d1, d2, d3, _, _⟩ := E2.at_ hn
        cases hvl
        have hn0 : (0 : Int) ≤ (n : Int) := by omega
        have hn1 : (n : Int) < (l.length : Int) := by omega
        have HL2 := Lib.hid (p := w.heap.size < wr.heap.size ∧ gl < wr.heap.size) ⟨hKC.lt, hgll⟩
        have HS2 := Lib.hid fun wx => keepRLine (w2 := wx) HL2.out hKC ⟨d0, d1, d2, d3⟩
        have hz3 := kb.lt
        clear c0 d0 d1 d2 d3 E2
        go_cut [10, 11] (fun s10 s11 wx => ∃ g9, s10 = .pointer (some ⟨g9, 0, none⟩) ∧ Blk wx g9 #[.int .u64 bx.1, .int .u64 bx.2] ∧ Blk wx bs #[.int .u64 f.1, .int .u64 f.2] ∧ wr.grownBy wx none)
        case first =>
          go_region_held3 (fun w' => isCfg w' w.heap.size = true ∧ readCfg w' w.heap.size = c.val ∧ w'.cell? ⟨gl, offl + n * 4, none⟩ = some (.int .u64 l[n].total) ∧ w'.cell? ⟨gl, offl + n * 4 + 1, none⟩ = some l[n].ve ∧ w'.cell? ⟨gl, offl + n * 4 + 2, none⟩ = some (.int .u64 l[n].untr) ∧ w'.cell? ⟨gl, offl + n * 4 + 3, none⟩ = some l[n].vr)
            (first | exact HS2.out _ (by (repeat (first | exact grownBy_refl _ _ | assumption | refine grownBy_new_block ?_ _ | refine grownBy_drew ?_ | refine grownBy_drewN ?_ _ | refine grownBy_setNew ?_ (by first | (simp; done) | omega | (simp; omega)) _))))
            (first | (go_at_call 89; refine (hcon.out _ (grownBy_trans K2 (by (repeat (first | exact grownBy_refl _ _ | assumption | refine grownBy_new_block ?_ _ | refine grownBy_drew ?_ | refine grownBy_drewN ?_ _ | refine grownBy_setNew ?_ (by first | (simp; done) | omega | (simp; omega)) _))))).mono ?_; rw [HV.out]; rintro e w3 ⟨rfl, G3⟩; (try (have hz : Blk w3 wr.heap.size #[.int .u64 0, .int .u64 0] := Blk.same (Blk.drew1 (Blk.new wr _ _)) G3; have hzc := hz.cell; have hzf := hz.free)); replace G3 : wr.grownBy w3 none := grownBy_trans (by (repeat (first | exact grownBy_refl _ _ | assumption | refine grownBy_new_block ?_ _ | refine grownBy_drew ?_ | refine grownBy_drewN ?_ _ | refine grownBy_setNew ?_ (by first | (simp; done) | omega | (simp; omega)) _))) G3; have BI3 := kb.same G3; have z3 := G3.size))
          · go_wp2_with fail
            go_meet
            exact ⟨_, rfl, Blk.new _ _ _, BI3.same (World.grownBy_alloc _ _ _), grownBy_new_block G3 _⟩
          · go_wp2_with fail
            go_meet
            exact ⟨_, rfl, (hz.set_ 0 _ rfl).set_ 1 _ rfl, (BI3.off (by omega) _ _).off (by omega) _ _, grownBy_setNew (grownBy_setNew G3 (Nat.le_refl _) _) (Nat.le_refl _) _⟩
        case rest =>
          obtain ⟨g9, rfl, BB, BI4, G4⟩ := hcut
          have bb := BB.cell
          have bi := BI4.cell
          clear HS2 hKC HL2 BB kb
          go_wp2_with (go_at_call 90; refine (rAdd_c f.1 f.2 bx.1 bx.2 _ hwa hwb hb1 hb2).mono ?_; rintro e w7 ⟨rfl, G7⟩; have kb7 := BI4.same G7; have kbc7 := kb7.cell; have kbf7 := kb7.free)
          have G8 := grownBy_trans G4 G7
          exact ⟨⟨j + 1, by omega, by go_num, by rw [HF.out]; exact (kb7.set_ 0 _ rfl).set_ 1 _ rfl, grownBy_set (grownBy_set (grownBy_trans h6 (grownBy_some G8 _)) 0 _) 1 _, grownBy_setNew (grownBy_setNew (grownBy_trans h4 G8) hbs1 _) hbs1 _⟩, by simp [intOf]; omega⟩
      · rw [decide_eq_false hxl, if_neg (by decide)] at hF
        have HF := Lib.hid hF
        have hd : decide (x < (l.length : Int)) = false := decide_eq_false hxl
        clear hF
        go_wp2_with fail
        exact ⟨⟨j + 1, by omega, by go_num, by rw [HF.out]; exact kb, h6, h4⟩, by simp [intOf]; omega⟩
    · have hl : foldB c t l k ((O.take j).filter (fun i : Int => decide (i < (l.length : Int)))) = lineF c t l k := by rw [List.take_of_length_le (by omega)]; exact Hfin.out
      rw [hl] at kb
      clear hl Hfin
      generalize lineF c t l k = f at *
      have kbc := kb.cell
      have krc := (kr.same h4).cell
      have krf := (kr.same h4).free
      have hzz : b ≠ bs := by have := kr.lt; omega
      go_wp2_with fail
      have BZ := (((kr.same h4).set_ 0 (.string k) rfl).set_ 1 (.int .u64 f.1) rfl).set_ 2 (.int .u64 f.2) rfl
      have bz := BZ.cell
      refine bodyPost_ret (v := lineV k f.1 f.2) (by simp [results, Try.results43, go_sem, bz]) rfl ?_
      exact retVal rfl (grownBy_setNew (grownBy_setNew (grownBy_setNew (grownBy_trans K4 h4) (by simp; omega) _) (by simp; omega) _) (by simp; omega) _)
end Go.Proofs.Ytiagjiaahnkefaa

/- The lines of all tracked keys: the reference. Lists of texts compared. -/
namespace Go.Proofs.Ytiagjiaahnkefaa
open Go.RowKit Go.Sort
attribute [local go_sem ↓] exec_load_cfg
attribute [local go_sem] run_loadCfgS

set_option maxHeartbeats 1000000 in
set_option maxRecDepth 100000 in
theorem rall_c (c : Cfg) (t : List Int) (lv : Value) (l : List Summ) (w : World) (h : RCfg w c t) (hl : SumsRd w lv l) (ho : SumsOk l) (hs : (keysL l).length ≤ 100000) (hk : ∀ s ∈ l, ∀ e ∈ s.es, e.key.size ≤ 9223372036854775807) :
    Calls Try.prog 46 #[c.val, lv] w (RetOwn lnF 3 71 (allF c t l) w) := by
  obtain ⟨la, lc, rfl⟩ := hl.rd.shape
  have Hc1 := Lib.hid fun w' (h : w.grownBy w' none) => rkeys_c _ l w' (hl.same h) hs
  have Hc2 := Lib.hid fun (b : Bytes) (hb : b ∈ keysF l) w' (g : w.grownBy w' none) => rline_c c t _ l (bA b) w' (h.same g) (hl.same g) ho (by
    obtain ⟨s, h1, e, h2, rfl⟩ := mem_keysF hb
    have := hk s h1 e h2
    show (entK e).toArray.size ≤ _
    simpa [entK] using this)
  have HKl := Lib.hid (keysF_len l)
  have HA := Lib.hid (show allF c t l = (keysF l).map (lnOf c t l) from rfl)
  have hln : ∀ b, lnOf c t l b = ⟨bA b, (lineF c t l (bA b)).1, (lineF c t l (bA b)).2⟩ := fun _ => rfl
  have Hln := Lib.hid hln
  have Hs := Lib.hid hs
  clear h hl ho hs hk hln
  generalize allF c t l = AL at *
  generalize keysF l = K at *
  go_enter Try.func46, Try.ntmps46
  go_upto_region 2 with (refine box_cfg rfl _ rfl c rfl ?_; intro w1 B1 G1 z1)
  go_wp2_with (go_at_call 40; refine (Hc1.out _ G1).mono ?_; rintro e w2 ⟨v2, rfl, o2, g2⟩; have R2 := o2.rd; obtain ⟨ka, kc, rfl⟩ := R2.shape)
  have B2 := B1.same g2
  have K2 := grownBy_trans G1 g2
  have hkm := R2.2.1
  clear o2 B1 Hc1
  go_loopw [5, 11] (fun s7 s13 wk => ∃ (j : Nat), j ≤ K.length ∧ s13 = .int .i64 j ∧ Own lnF 3 71 w2.heap.size wk s7 ((K.take j).map (lnOf c t l)) ∧ w2.grownBy wk none) (fun _ s13 _ => K.length - (intOf s13).toNat)
  case atStart => exact ⟨0, Nat.zero_le _, rfl, Own.nil _ _ _ _ _, grownBy_refl _ _⟩
  case round =>
    obtain ⟨j, hj, rfl, hO, hg⟩ := hrel
    have B3 := B2.same hg
    by_cases hjl : j < K.length
    · obtain ⟨gk, ok, ck, hvk, hgk, ck0⟩ := (R2.same hg).one strB_one hjl
      cases hvk
      have HT := Lib.hid (show (K.take (j + 1)).map (lnOf c t l) = (K.take j).map (lnOf c t l) ++ [lnOf c t l K[j]] by rw [take_succ hjl, List.map_append]; rfl)
      have hcl := Lib.hid (Hc2.out _ (List.getElem_mem hjl))
      have hlb := Lib.hid (Hln.out K[j])
      have hb1 : (((K.take j).map (lnOf c t l)).length + 1) * 32 ≤ 140737488355328 := by have := HKl.out; have := Hs.out; rw [List.length_map, List.length_take]; omega
      have hb2 : ((K.take j).map (lnOf c t l)).length + 1 ≤ 9223372036854775807 := by omega
      generalize (K.take j).map (lnOf c t l) = M at *
      have hbA : (⟨K[j].toArray⟩ : ByteArray) = bA K[j] := rfl
      rw [hbA] at ck0
      generalize lnOf c t l K[j] = x at *
      generalize bA K[j] = kk at *
      generalize (lineF c t l kk).1 = lo at *
      generalize (lineF c t l kk).2 = hi at *
      have hx := hlb.out
      subst hx
      clear hlb hbA
      go_upto_region 6 with (first | (refine load_cfg rfl _ rfl _ rfl c (by assumption) ?_) | (go_at_call 43; refine (hcl.out _ (grownBy_trans K2 hg)).mono ?_; rintro e w4 ⟨rfl, g4⟩; have O4 := hO.same g4; have G4 := grownBy_trans hg g4; have hsz := G4.size; have Hcs := Lib.hid (show (#[Value.string kk, .int .u64 lo, .int .u64 hi] : Array Value).toList = lnF ⟨kk, lo, hi⟩ from rfl)) | (at_builtin; refine app_one elt_ln one_ln lnF_len O4 ⟨kk, lo, hi⟩ hb1 hb2 hsz Hcs.out rfl (.tmp 15) (.tmp 20) rfl rfl rfl ?_; intro v5 w5 o5 g5 l5))
      have K5 := grown_own G4 O4 (Nat.le_refl _) g5
      go_wp2_with fail
      exact ⟨⟨j + 1, by omega, by go_num, by rw [HT.out]; exact o5, K5⟩, by simp [intOf]; omega⟩
    · have hke : K.take j = K := List.take_of_length_le (by omega)
      rw [hke] at hO
      go_wp2_with fail
      go_ret
      refine ⟨_, rfl, ?_, grownBy_trans K2 hg⟩
      rw [HA.out]
      exact hO.base fun k hk => Nat.le_trans K2.size (hO.lt k hk).1

set_option maxHeartbeats 400000 in
theorem sameTexts_c (v v' : Value) (L : List Bytes) (w : World) (h : RdL strB 1 w v L) (h' : RdL strB 1 w v' L) : Calls Try.prog 38 #[v, v'] w (RetBool true w) := by
  obtain ⟨a, c, rfl⟩ := h.shape
  obtain ⟨a', c', rfl⟩ := h'.shape
  have hm := h.2.1
  have hne : ((L.length : Int) != (L.length : Int)) = false := by simp
  have H := Lib.hid h
  have H' := Lib.hid h'
  clear h h'
  go_enter Try.func38, Try.ntmps38
  go_wp2_with fail
  go_loopw [13] (fun s13 wr => ∃ k : Nat, k ≤ L.length ∧ s13 = .int .i64 k ∧ w.grownBy wr none) (fun s13 _ => L.length - (intOf s13).toNat)
  case atStart => exact ⟨0, Nat.zero_le _, rfl, grownBy_refl _ _⟩
  case round =>
    obtain ⟨k, hk, rfl, hg⟩ := hrel
    by_cases hlt : k < L.length
    · obtain ⟨g, off, cap, hv, hgl, hc⟩ := (RdL.same H.out hg).one strB_one hlt
      obtain ⟨g', off', cap', hv', hgl', hc'⟩ := (RdL.same H'.out hg).one strB_one hlt
      cases hv
      cases hv'
      generalize L[k] = x at *
      have hk0 : (0 : Int) ≤ (k : Int) := by omega
      have hk1 : (k : Int) < (L.length : Int) := by omega
      go_wp2_with fail
      go_quiet (fail)
      go_wp2_with fail
      exact ⟨⟨k + 1, by omega, by go_num, grownBy_drewN hg _⟩, by simp [intOf]; omega⟩
    · go_wp2_with fail
      go_ret
      exact retBool rfl hg
end Go.Proofs.Ytiagjiaahnkefaa

/- Which summaries are valid: the reference. -/
namespace Go.Proofs.Ytiagjiaahnkefaa
open Go.RowKit
attribute [local go_sem ↓] exec_load_cfg
attribute [local go_sem] run_loadCfgS
theorem rows_none {d n t : Int} {rows : List (List Int)} {m : Nat} (e : m = rows.length) (h : ¬ 0 < m) : rowsErr d n t rows = if badLen n rows then 3 else if badNum t rows then 1 else 0 := by
  have h0 : rows = [] := List.length_eq_zero_iff.1 (by omega)
  subst h0
  rfl
theorem exact_range {own slack tot : Int} (h : (own == 0) = true ∨ (!exactB own slack tot) = true) : own = 0 ∨ tot < own + slack := by
  unfold exactB at h; simp at h; omega
theorem exact_ok {own slack tot : Int} (h : (own == 0) = false ∧ (!exactB own slack tot) = false) : own ≠ 0 ∧ own + slack ≤ tot := by
  unfold exactB at h; simp at h; omega

set_option maxHeartbeats 1000000 in
set_option maxRecDepth 100000 in
theorem rsummary_c (c : Cfg) (s : Summ) (w : World) (hR : SumRd w s) (hW : SumW s) (hS : SumSmall s) :
    Calls Try.prog 83 #[c.val, sumV s.total s.ve s.untr s.vr] w (RetInt (sumErr c.Depth c.Width s) w) := by
  have HR := Lib.hid hR
  have HW := Lib.hid hW
  have HS := Lib.hid hS
  obtain ⟨a1, k1, e1⟩ := hR.es.shape
  obtain ⟨a2, k2, e2⟩ := hR.vs.shape
  have hm := hR.es.2.1
  have h1 : 9223372036854775808 < s.total ∨ s.total < s.untr → sumErr c.Depth c.Width s = 1 := sum_1
  have h7 : ¬(9223372036854775808 < s.total ∨ s.total < s.untr) → (96 : Int) < s.es.length → sumErr c.Depth c.Width s = 7 := sum_7
  have ho : ¬(9223372036854775808 < s.total ∨ s.total < s.untr) → (s.es.length : Int) ≤ 96 → sumErr c.Depth c.Width s = if entsErr s.total s.es ≠ 0 then entsErr s.total s.es else if s.total < ownF s.es then 12 else rowsErr c.Depth c.Width s.total s.rows := sum_of
  have HRow := Lib.hid hR.rowsRd
  have Hvl := Lib.hid hR.len
  have hv2 : s.vs.length ≤ 1000 := by rw [hR.len]; exact hS.rows
  have hwt := hW.total
  have Hsl := Lib.hid hS.row
  have Hkey := Lib.hid hS.key
  have Hes := Lib.hid hR.es
  have Hew := Lib.hid hW.es
  rw [e1] at Hes ⊢
  rw [e2] at HRow ⊢
  have H1 := Lib.hid h1
  have H7 := Lib.hid h7
  have HO := Lib.hid ho
  clear hR hW hS h1 h7 ho e1 e2 HR HW HS
  generalize sumErr c.Depth c.Width s = SE at *
  obtain ⟨tot, ve, un, vr, es, vs, rows⟩ := s
  simp only at *
  go_enter Try.func83, Try.ntmps83
  go_upto_region 1 with (refine box_cfg rfl _ rfl c rfl ?_; intro w1 B1 G1 z1)
  have B2 : Blk (w1.alloc (.cells #[.int .u64 tot, .slice a1 es.length k1, .int .u64 un, .slice a2 vs.length k2] 68)) w1.heap.size #[.int .u64 tot, .slice a1 es.length k1, .int .u64 un, .slice a2 vs.length k2] := (by repeat (first | exact Blk.new' _ _ _ (by simp) | refine Blk.same ?_ (World.grownBy_alloc _ _ _) | refine Blk.drew ?_ _ | refine Blk.drew1 ?_ | refine Blk.set_ (by assumption) _ _ rfl | refine Blk.off ?_ (by first | omega | (simp; done) | (simp; omega)) _ _ | assumption))
  have hg : w.grownBy (w1.alloc (.cells #[.int .u64 tot, .slice a1 es.length k1, .int .u64 un, .slice a2 vs.length k2] 68)) none := grownBy_new_block G1 _
  have BC : BoxAt (w1.alloc (.cells #[.int .u64 tot, .slice a1 es.length k1, .int .u64 un, .slice a2 vs.length k2] 68)) w.heap.size c := B1.same (World.grownBy_alloc _ _ _)
  generalize w1.alloc (.cells #[.int .u64 tot, .slice a1 es.length k1, .int .u64 un, .slice a2 vs.length k2] 68) = w2 at *
  clear G1 B1
  have b2 := B2.cell
  generalize hbb : w1.heap.size = b at *
  generalize hcc : w.heap.size = cb at *
  go_wp2_with fail
  rotate_right
  · go_ret
    exact retInt (H1.out (Or.inl (by assumption))) hg
  · go_ret
    exact retInt (H1.out (by assumption)) hg
  · go_ret
    exact retInt (H7.out (by omega) (by assumption)) hg
  have ht : tot ≤ 9223372036854775808 := by assumption
  have HE := Lib.hid (HO.out (by omega) (by assumption))
  have hl96 : (es.length : Int) ≤ 96 := by assumption
  clear H1 H7 HO
  go_loopw [5, 31] (fun s5 s31 wr => ∃ (j : Nat), j ≤ es.length ∧ s31 = .int .i64 j ∧ s5 = .int .u64 (ownF (es.take j)) ∧ W64 (ownF (es.take j)) ∧ (∀ i, i < j → errAt tot es i = 0) ∧ w2.grownBy wr none) (fun _ s31 _ => es.length - (intOf s31).toNat)
  case atStart => exact ⟨0, Nat.zero_le _, rfl, rfl, w64_0, by omega, grownBy_refl _ _⟩
  case round =>
    obtain ⟨j, hj, rfl, rfl, hT, hall, hgr⟩ := hrel
    have Hall := Lib.hid hall
    clear hall
    have hgg := grownBy_trans hg hgr
    have BCr := BC.same hgr
    have B2r := B2.same hgr
    have b3 := B2r.cell
    have b4 := fun o => (B2r.same (World.grownBy_alloc wr o none)).cell
    by_cases hlt : j < es.length
    · obtain ⟨g, off, cap, hv, hgl, c0, c1, c2⟩ := (Hes.out.same hgg).ent hlt
      cases hv
      have HS := Lib.hid (take_succ hlt)
      have Hs := Lib.hid (ownF_snoc (es.take j) es[j])
      obtain ⟨hw1, hw2⟩ := Hew.out _ (List.getElem_mem hlt)
      have hks := Hkey.out _ (List.getElem_mem hlt)
      have HX : Hid (∀ k, entErr tot (prevK es j) es[j] = k → k ≠ 0 → SE = k) := Lib.hid fun k h hk => by
        have he : errAt tot es j = k := by unfold errAt; rw [List.getElem?_eq_getElem hlt]; exact h
        rw [HE.out, ents_at (tot := tot) hlt Hall.out (by rw [he]; exact hk), he, if_pos hk]
      have Hno : Hid (entErr tot (prevK es j) es[j] = 0 → ∀ i, i < j + 1 → errAt tot es i = 0) := Lib.hid fun h i hi => by
        by_cases e : i = j
        · subst e; unfold errAt; rw [List.getElem?_eq_getElem hlt]; exact h
        · exact Hall.out i (by omega)
      generalize ownF (es.take j) = T at *
      generalize es[j] = en at *
      go_wp2_with fail
      · go_ret
        exact retInt (HX.out 3 (err_empty (by assumption)) (by decide)) (grownBy_trans hgg (World.grownBy_alloc _ _ _))
      · go_ret
        exact retInt (HX.out 4 (err_long (by assumption) (by assumption)) (by decide)) (grownBy_trans hgg (World.grownBy_alloc _ _ _))
      have he : en.key.toList.isEmpty = false := by assumption
      have hl : (en.key.size : Int) ≤ 255 := by assumption
      have HEm := Lib.hid he
      have HLn := Lib.hid hl
      clear he hl
      by_cases h0 : 0 < j
      · obtain ⟨m, rfl⟩ : ∃ m, j = m + 1 := ⟨j - 1, by omega⟩
        obtain ⟨g', off', cap', hv', hgl', p0, p1, p2⟩ := (Hes.out.same hgg).ent (k := m) (by omega)
        cases hv'
        have hpk : prevK es (m + 1) = some es[m].key := by simp [prevK, List.getElem?_eq_getElem (show m < es.length by omega)]
        rw [hpk] at HX Hno
        have hd : decide ((0 : Int) < ((m + 1 : Nat) : Int)) = true := decide_eq_true (by omega)
        have hx : ((m + 1 : Nat) : Int) - 1 = (m : Int) := by omega
        have hm1 : (0 : Int) ≤ (m : Int) := by omega
        have hm2 : (m : Int) < (es.length : Int) := by omega
        have pp := fun o => ((grownBy_cells (World.grownBy_alloc wr o none)).1 g (off + m * 3) hgl (by simp)).trans p0
        clear hpk p1 p2
        generalize es[m].key = pk at *
        go_quiet (fail)
        have Hb := Lib.hid (p := (Op.bytesLess en.key.toList pk.toList || en.key.toList == pk.toList) = ((some pk).map (leB en.key)).getD false) rfl
        generalize (Op.bytesLess en.key.toList pk.toList || en.key.toList == pk.toList) = bx at *
        clear pp
        have BE : Blk ((wr.alloc (.cells #[.string en.key, .int .u64 en.own, .int .u64 en.slack] 77)).drewN nq) wr.heap.size #[.string en.key, .int .u64 en.own, .int .u64 en.slack] := (by repeat (first | exact Blk.new' _ _ _ (by simp) | refine Blk.same ?_ (World.grownBy_alloc _ _ _) | refine Blk.drew ?_ _ | refine Blk.drew1 ?_ | refine Blk.set_ (by assumption) _ _ rfl | refine Blk.off ?_ (by first | omega | (simp; done) | (simp; omega)) _ _ | assumption))
        have BS : Blk ((wr.alloc (.cells #[.string en.key, .int .u64 en.own, .int .u64 en.slack] 77)).drewN nq) b #[.int .u64 tot, .slice (some ⟨g, off, none⟩) es.length k1, .int .u64 un, .slice a2 vs.length k2] := Blk.drew (B2r.same (World.grownBy_alloc _ _ _)) _
        have Kq : wr.grownBy ((wr.alloc (.cells #[.string en.key, .int .u64 en.own, .int .u64 en.slack] 77)).drewN nq) none := (by (repeat (first | exact grownBy_refl _ _ | assumption | refine grownBy_new_block ?_ _ | refine grownBy_drew ?_ | refine grownBy_drewN ?_ _ | refine grownBy_setNew ?_ (by first | (simp; done) | omega | (simp; omega)) _)))
        generalize (wr.alloc (.cells #[.string en.key, .int .u64 en.own, .int .u64 en.slack] 77)).drewN nq = wq at *
        have be := BE.cell
        have bs := BS.cell
        clear b4 BS
        cases bx
        · have HP := Lib.hid (p := ((some pk).map (leB en.key)).getD false = false) Hb.out.symm
          have hW2 := satA_w hT hw1
          go_wp2_with (first | (go_at_call 111; refine (rExact_c en.own en.slack tot _ hw1 hw2 hwt).mono ?_; rintro e w5 ⟨rfl, G5⟩; have be5 := (BE.same G5).cell) | (go_at_call 84; refine (rsum_c T en.own _ hT hw1).mono ?_; rintro e w' ⟨rfl, rfl⟩))
          · go_ret
            exact retInt (HX.out 1 (err_range HEm.out HLn.out HP.out (Or.inl (by assumption))) (by decide)) (grownBy_trans hgg Kq)
          · go_ret
            exact retInt (HX.out 1 (err_range HEm.out HLn.out HP.out (exact_range (by assumption))) (by decide)) (grownBy_trans (grownBy_trans hgg Kq) G5)
          · obtain ⟨q1, q2⟩ := exact_ok (own := en.own) (slack := en.slack) (tot := tot) (by assumption)
            have hN := Hno.out (err_ok HEm.out HLn.out HP.out q1 q2)
            exact ⟨⟨(m + 1) + 1, by omega, by go_num, by rw [HS.out, Hs.out], by rw [HS.out, Hs.out]; exact hW2, hN, grownBy_trans hgr (grownBy_trans Kq G5)⟩, by simp [intOf]; omega⟩
        · have HP := Lib.hid (p := ((some pk).map (leB en.key)).getD false = true) Hb.out.symm
          go_wp2_with fail
          go_ret
          exact retInt (HX.out 6 (err_order HEm.out HLn.out HP.out) (by decide)) (grownBy_trans hgg Kq)
      · have hj0 : j = 0 := by omega
        subst hj0
        go_quiet (fail)
        have BE : Blk ((wr.alloc (.cells #[.string en.key, .int .u64 en.own, .int .u64 en.slack] 77)).drewN nq) wr.heap.size #[.string en.key, .int .u64 en.own, .int .u64 en.slack] := (by repeat (first | exact Blk.new' _ _ _ (by simp) | refine Blk.same ?_ (World.grownBy_alloc _ _ _) | refine Blk.drew ?_ _ | refine Blk.drew1 ?_ | refine Blk.set_ (by assumption) _ _ rfl | refine Blk.off ?_ (by first | omega | (simp; done) | (simp; omega)) _ _ | assumption))
        have BS : Blk ((wr.alloc (.cells #[.string en.key, .int .u64 en.own, .int .u64 en.slack] 77)).drewN nq) b #[.int .u64 tot, .slice (some ⟨g, off, none⟩) es.length k1, .int .u64 un, .slice a2 vs.length k2] := Blk.drew (B2r.same (World.grownBy_alloc _ _ _)) _
        have Kq : wr.grownBy ((wr.alloc (.cells #[.string en.key, .int .u64 en.own, .int .u64 en.slack] 77)).drewN nq) none := (by (repeat (first | exact grownBy_refl _ _ | assumption | refine grownBy_new_block ?_ _ | refine grownBy_drew ?_ | refine grownBy_drewN ?_ _ | refine grownBy_setNew ?_ (by first | (simp; done) | omega | (simp; omega)) _)))
        generalize (wr.alloc (.cells #[.string en.key, .int .u64 en.own, .int .u64 en.slack] 77)).drewN nq = wq at *
        have be := BE.cell
        have bs := BS.cell
        clear b4 BS
        have HP := Lib.hid (p := ((prevK es 0).map (leB en.key)).getD false = false) rfl
        have hW2 := satA_w hT hw1
        go_wp2_with (first | (go_at_call 111; refine (rExact_c en.own en.slack tot _ hw1 hw2 hwt).mono ?_; rintro e w5 ⟨rfl, G5⟩; have be5 := (BE.same G5).cell) | (go_at_call 84; refine (rsum_c T en.own _ hT hw1).mono ?_; rintro e w' ⟨rfl, rfl⟩))
        · go_ret
          exact retInt (HX.out 1 (err_range HEm.out HLn.out HP.out (Or.inl (by assumption))) (by decide)) (grownBy_trans hgg Kq)
        · go_ret
          exact retInt (HX.out 1 (err_range HEm.out HLn.out HP.out (exact_range (by assumption))) (by decide)) (grownBy_trans (grownBy_trans hgg Kq) G5)
        · obtain ⟨q1, q2⟩ := exact_ok (own := en.own) (slack := en.slack) (tot := tot) (by assumption)
          have hN := Hno.out (err_ok HEm.out HLn.out HP.out q1 q2)
          exact ⟨⟨0 + 1, by omega, by go_num, by rw [HS.out, Hs.out], by rw [HS.out, Hs.out]; exact hW2, hN, grownBy_trans hgr (grownBy_trans Kq G5)⟩, by simp [intOf]; omega⟩
    · have hl : es.take j = es := List.take_of_length_le (by omega)
      have hez : entsErr tot es = 0 := ents_no fun i hi => Hall.out i (by omega)
      have hSE : SE = if tot < ownF es then 12 else rowsErr c.Depth c.Width tot rows := by rw [HE.out, hez, if_neg (by decide)]
      have HSE := Lib.hid hSE
      rw [hl] at hT ⊢
      have hb8 := BCr.cell
      clear hl hez hSE HE Hall b4
      generalize ownF es = T at *
      go_wp2_with fail
      · go_ret
        exact retInt (HSE.out.trans (if_pos (by assumption))) hgg
      · have h0 : 0 < vs.length := by assumption
        have hq : rowsErr c.Depth c.Width tot rows = 3 := rows_3 Hvl.out (beq_eq_false_iff_ne.2 (by omega)) (by assumption)
        go_ret
        exact retInt (HSE.out.trans ((if_neg (by omega)).trans hq)) hgg
      · have h0 : 0 < vs.length := by assumption
        have HQ := Lib.hid (HSE.out.trans ((if_neg (by omega)).trans (rows_of (n := c.Width) (t := tot) Hvl.out (beq_eq_false_iff_ne.2 (by omega)) (by assumption))))
        generalize ((vs.length : Int) != c.Depth) = bq at *
        have hbq : bq = false := by assumption
        subst hbq
        clear h0
        clear HSE
        go_loopw [98] (fun s98 wy => ∃ j : Nat, j ≤ vs.length ∧ s98 = .int .i64 j ∧ (∀ i, (hi : i < rows.length) → i < j → decide ((rows[i].length : Int) ≠ c.Width) = false) ∧ wr = wy) (fun s98 _ => vs.length - (intOf s98).toNat)
        case atStart => exact ⟨0, Nat.zero_le _, rfl, by intro i _ h; omega, rfl⟩
        case round =>
          clear hj hlt
          obtain ⟨j, hj, rfl, hall, rfl⟩ := hrel
          have Hall := Lib.hid hall
          clear hall
          by_cases hjv : j < vs.length
          · have hjl : j < rows.length := by have := Hvl.out; omega
            obtain ⟨g, off, cap, hv, hgl, c1⟩ := (HRow.out.same hgg).rd.one val_one hjv
            cases hv
            have hrow := Hsl.out _ (List.getElem_mem hjl)
            have hRR := (HRow.out.same hgg).all j vs[j] rows[j] (List.getElem?_eq_getElem hjv) (List.getElem?_eq_getElem hjl)
            have HN := Lib.hid (fun h : decide ((rows[j].length : Int) ≠ c.Width) = true => any_yes (p := fun r : List Int => decide ((r.length : Int) ≠ c.Width)) hjl h)
            have HY := Lib.hid (fun h : decide ((rows[j].length : Int) ≠ c.Width) = false => (fun i (hi : i < rows.length) (hij : i < j + 1) => by
              by_cases e : i = j
              · subst e; exact h
              · exact Hall.out i hi (by omega) : ∀ i, (hi : i < rows.length) → i < j + 1 → decide ((rows[i].length : Int) ≠ c.Width) = false))
            generalize vs[j] = u at *
            generalize rows[j] = row at *
            obtain ⟨ra, rc, rfl⟩ := hRR.shape
            clear hRR
            go_wp2_with fail
            · have h : ((row.length : Int) != c.Width) = true := by assumption
              have hb : badLen c.Width rows = true := HN.out (decide_eq_true (bne_iff_ne.1 h))
              have hz : SE = 3 := by rw [HQ.out, if_pos hb]
              go_ret
              exact retInt hz hgg
            · have h : ((row.length : Int) != c.Width) = false := by assumption
              exact ⟨⟨j + 1, by omega, by go_num, HY.out (decide_eq_false (fun e => e (bne_eq_false_iff_eq.1 h))), trivial⟩, by simp [intOf]; omega⟩
          · have hb : badLen c.Width rows = false := any_no fun i hi => Hall.out i hi (by have := Hvl.out; omega)
            have HQ2 := Lib.hid (p := SE = if badNum tot rows then 1 else 0) (by rw [HQ.out, if_neg (by rw [hb]; decide)])
            clear HQ hb Hall
            go_wp2_with fail
            go_loopw [111] (fun s111 wy => ∃ j : Nat, j ≤ vs.length ∧ s111 = .int .i64 j ∧ (∀ i, (hi : i < rows.length) → i < j → gtF tot rows[i] = false) ∧ wr = wy) (fun s111 _ => vs.length - (intOf s111).toNat)
            case atStart => exact ⟨0, Nat.zero_le _, rfl, by intro i _ h; omega, rfl⟩
            case round =>
              clear hj hjv
              obtain ⟨j, hj, rfl, hall, rfl⟩ := hrel
              have Hall := Lib.hid hall
              clear hall
              by_cases hjv : j < vs.length
              · have hjl : j < rows.length := by have := Hvl.out; omega
                obtain ⟨g, off, cap, hv, hgl, c1⟩ := (HRow.out.same hgg).rd.one val_one hjv
                cases hv
                have hRR := (HRow.out.same hgg).all j vs[j] rows[j] (List.getElem?_eq_getElem hjv) (List.getElem?_eq_getElem hjl)
                have hrow := Hsl.out _ (List.getElem_mem hjl)
                have HN := Lib.hid (fun h : gtF tot rows[j] = true => any_yes (p := gtF tot) hjl h)
                have HY := Lib.hid (fun h : gtF tot rows[j] = false => (fun i (hi : i < rows.length) (hij : i < j + 1) => by
                  by_cases e : i = j
                  · subst e; exact h
                  · exact Hall.out i hi (by omega) : ∀ i, (hi : i < rows.length) → i < j + 1 → gtF tot rows[i] = false))
                generalize vs[j] = u at *
                generalize rows[j] = row at *
                obtain ⟨ra, rc, rfl⟩ := hRR.shape
                have HRR := Lib.hid hRR
                clear hRR
                go_wp2_with fail
                go_loopw [117] (fun s117 wy => ∃ k : Nat, k ≤ row.length ∧ s117 = .int .i64 k ∧ (∀ i, (hi : i < row.length) → i < k → decide (tot < row[i]) = false) ∧ wr = wy) (fun s117 _ => row.length - (intOf s117).toNat)
                case atStart => exact ⟨0, Nat.zero_le _, rfl, by intro i _ h; omega, rfl⟩
                case round =>
                  obtain ⟨k, hk, rfl, hall, rfl⟩ := hrel
                  have Hal2 := Lib.hid hall
                  clear hall
                  by_cases hkl : k < row.length
                  · obtain ⟨gx, offx, capx, hvx, hgx, cx⟩ := HRR.out.one word_one hkl
                    cases hvx
                    have HN2 := Lib.hid (fun h : decide (tot < row[k]) = true => gtF_yes hkl h)
                    have HY2 := Lib.hid (fun h : decide (tot < row[k]) = false => (fun i (hi : i < row.length) (hij : i < k + 1) => by
                      by_cases e : i = k
                      · subst e; exact h
                      · exact Hal2.out i hi (by omega) : ∀ i, (hi : i < row.length) → i < k + 1 → decide (tot < row[i]) = false))
                    generalize row[k] = x at *
                    go_wp2_with fail
                    · have hb : badNum tot rows = true := HN.out (HN2.out (decide_eq_true (by assumption)))
                      have hz : SE = 1 := by rw [HQ2.out, if_pos hb]
                      go_ret
                      exact retInt hz hgg
                    · exact ⟨⟨k + 1, by omega, by go_num, HY2.out (decide_eq_false (by omega)), trivial⟩, by simp [intOf]; omega⟩
                  · have hgt := HY.out (gtF_no fun i hi => Hal2.out i hi (by omega))
                    have Hgt := Lib.hid hgt
                    clear hgt
                    go_wp2_with fail
                    exact ⟨⟨j + 1, by omega, by go_num, Hgt.out, trivial⟩, by simp [intOf]; omega⟩
              · have hb : badNum tot rows = false := any_no fun i hi => Hall.out i hi (by have := Hvl.out; omega)
                have hz : SE = 0 := by rw [HQ2.out, if_neg (by rw [hb]; decide)]
                have Hz := Lib.hid hz
                clear hz hb
                go_wp2_with fail
                go_ret
                exact retInt Hz.out hgg
      · have h0 : ¬ 0 < vs.length := by assumption
        have HQ := Lib.hid (HSE.out.trans ((if_neg (by omega)).trans (rows_none (d := c.Depth) (n := c.Width) (t := tot) Hvl.out h0)))
        have hz : SE = 0 := by
          have hr0 : rows = [] := List.length_eq_zero_iff.1 (by have := Hvl.out; omega)
          rw [HQ.out, hr0]; rfl
        have Hz := Lib.hid hz
        clear HSE HQ hz
        go_loopw [98] (fun s98 wy => s98 = .int .i64 0 ∧ wr = wy) (fun _ _ => 0)
        case atStart => exact ⟨rfl, rfl⟩
        case round =>
          obtain ⟨rfl, rfl⟩ := hrel
          go_wp2_with fail
          go_loopw [111] (fun s111 wy => s111 = .int .i64 0 ∧ wr = wy) (fun _ _ => 0)
          case atStart => exact ⟨rfl, rfl⟩
          case round =>
            obtain ⟨rfl, rfl⟩ := hrel
            go_wp2_with fail
            go_ret
            exact retInt Hz.out hgg
end Go.Proofs.Ytiagjiaahnkefaa

/- Which lists of summaries are valid; the rest: the reference. -/
namespace Go.Proofs.Ytiagjiaahnkefaa
open Go.RowKit
attribute [local go_sem ↓] exec_load_cfg
attribute [local go_sem] run_loadCfgS

set_option maxHeartbeats 1000000 in
set_option maxRecDepth 100000 in
theorem rmerge_c (c : Cfg) (t : List Int) (lv : Value) (l : List Summ) (w : World) (h : RCfg w c t) (hl : SumsRd w lv l) (hs : SumsSmall l) :
    Calls Try.prog 35 #[c.val, lv] w (RetInt (mergeErr c l) w) := by
  obtain ⟨la, lc, rfl⟩ := hl.rd.shape
  have H := Lib.hid h
  have HL := Lib.hid hl
  have Hs := Lib.hid hs
  have hlm := hl.rd.2.1
  have h11 : (l.length : Int) ≠ c.Shards → mergeErr c l = 11 := fun h => by unfold mergeErr; rw [if_pos h]
  have hme : (l.length : Int) = c.Shards → mergeErr c l = if sumsErr c l ≠ 0 then sumsErr c l else if 9223372036854775808 < totalF l then 12 else 0 := fun h => by unfold mergeErr; rw [if_neg (fun e => e h)]
  have H11 := Lib.hid h11
  have Hme := Lib.hid hme
  have Ht := Lib.hid fun w' (hg : w.grownBy w' none) => rtotal_c _ l w' (hl.same hg)
  clear h hl hs h11 hme
  generalize mergeErr c l = ME at *
  go_enter Try.func35, Try.ntmps35
  go_upto_region 1 with (refine box_cfg rfl _ rfl c rfl ?_; intro w1 B1 G1 z1)
  go_wp2_with (first | (refine load_cfg rfl _ rfl _ rfl c (by assumption) ?_) | (go_at_call 82; refine (rroutes_c c t _ (H.out.same G1)).mono ?_; rintro e w2 ⟨rfl, G2⟩; have BC := B1.same G2; have bc := BC.cell))
  · go_ret
    exact retInt (H11.out (bne_iff_ne.1 (by assumption))) (grownBy_trans G1 G2)
  have h18 : ((l.length : Int) != c.Shards) = false := by assumption
  have HM := Lib.hid (Hme.out (bne_eq_false_iff_eq.1 h18))
  rw [h18]
  rename_i h19 _ _
  clear h18 h19
  have hg := grownBy_trans G1 G2
  clear H11 Hme G1 B1 G2 bc
  go_loopw [21] (fun s21 wr => ∃ (j : Nat), j ≤ l.length ∧ s21 = .int .i64 j ∧ (∀ i, (hi : i < l.length) → i < j → sumErr c.Depth c.Width l[i] = 0) ∧ w2.grownBy wr none) (fun s21 _ => l.length - (intOf s21).toNat)
  case atStart => exact ⟨0, Nat.zero_le _, rfl, by intro i _ h; omega, grownBy_refl _ _⟩
  case round =>
    obtain ⟨j, hj, rfl, hall, hgr⟩ := hrel
    have Hall := Lib.hid hall
    clear hall
    have hgg := grownBy_trans hg hgr
    have BCr := BC.same hgr
    by_cases hlt : j < l.length
    · obtain ⟨g, off, cap, hv, hgl, c0, c1, c2, c3, hR, hW⟩ := (HL.out.same hgg).at_ hlt
      cases hv
      have hsm := Hs.out _ (List.getElem_mem hlt)
      have hcall := fun w' (h' : wr.grownBy w' none) => rsummary_c c l[j] w' (hR.same h') hW hsm
      obtain ⟨a1, k1, e1⟩ := hR.es.shape
      obtain ⟨a2, k2, e2⟩ := hR.vs.shape
      rw [e1] at c1 hcall
      rw [e2] at c3 hcall
      have hat := fun h => sums_at (c := c) hlt Hall.out h
      have hno := fun (h : sumErr c.Depth c.Width l[j] = 0) => (fun i hi (hij : i < j + 1) => by
        by_cases e : i = j
        · subst e; exact h
        · exact Hall.out i hi (by omega) : ∀ i, (hi : i < l.length) → i < j + 1 → sumErr c.Depth c.Width l[i] = 0)
      clear hR hW hsm e1 e2
      by_cases hz : sumErr c.Depth c.Width l[j] = 0
      · have Hno := Lib.hid (hno hz)
        rw [hz] at hcall
        have Hc := Lib.hid hcall
        clear hz hno hat hcall
        generalize l[j].total = x0 at *
        generalize l[j].untr = x2 at *
        go_wp2_with (first | (refine load_cfg rfl _ rfl _ rfl c (BCr.same (World.grownBy_alloc _ _ _)) ?_) | (go_at_call 83; refine (Hc.out _ (by (repeat (first | exact grownBy_refl _ _ | assumption | refine grownBy_new_block ?_ _ | refine grownBy_drew ?_ | refine grownBy_drewN ?_ _ | refine grownBy_setNew ?_ (by first | (simp; done) | omega | (simp; omega)) _)))).mono ?_; rintro e w5 ⟨rfl, G5⟩))
        exact ⟨⟨j + 1, by omega, by go_num, Hno.out, grownBy_trans hgr (grownBy_trans (World.grownBy_alloc _ _ _) G5)⟩, by simp [intOf]; omega⟩
      · have Hq := Lib.hid (p := ME = sumErr c.Depth c.Width l[j]) (by rw [HM.out, hat hz, if_pos hz])
        have Hc := Lib.hid hcall
        clear hno hat hcall HM
        generalize sumErr c.Depth c.Width l[j] = ee at *
        have hz2 : (ee != 0) = true := bne_iff_ne.2 hz
        generalize l[j].total = x0 at *
        generalize l[j].untr = x2 at *
        go_wp2_with (first | (refine load_cfg rfl _ rfl _ rfl c (BCr.same (World.grownBy_alloc _ _ _)) ?_) | (go_at_call 83; refine (Hc.out _ (by (repeat (first | exact grownBy_refl _ _ | assumption | refine grownBy_new_block ?_ _ | refine grownBy_drew ?_ | refine grownBy_drewN ?_ _ | refine grownBy_setNew ?_ (by first | (simp; done) | omega | (simp; omega)) _)))).mono ?_; rintro e w5 ⟨rfl, G5⟩))
        go_ret
        exact retInt Hq.out (grownBy_trans hgg (grownBy_trans (World.grownBy_alloc _ _ _) G5))
    · have hsz : sumsErr c l = 0 := sums_no fun i hi => Hall.out i hi (by omega)
      have hME : ME = if 9223372036854775808 < totalF l then 12 else 0 := by rw [HM.out, hsz, if_neg (by decide)]
      have HME := Lib.hid hME
      clear hsz hME HM Hall
      generalize totalF l = T at *
      go_wp2_with (first | (refine load_cfg rfl _ rfl _ rfl c (by assumption) ?_) | (go_at_call 37; refine (Ht.out _ hgg).mono ?_; rintro e w5 ⟨rfl, G5⟩))
      · go_ret
        exact retInt (HME.out.trans (if_pos (by assumption))) (grownBy_trans hgg G5)
      · go_ret
        exact retInt (HME.out.trans (if_neg (by omega))) (grownBy_trans hgg G5)
end Go.Proofs.Ytiagjiaahnkefaa

/- The rest: the reference. -/
namespace Go.Proofs.Ytiagjiaahnkefaa
open Go.RowKit
attribute [local go_sem ↓] exec_load_cfg
attribute [local go_sem] run_loadCfgS

set_option maxHeartbeats 1000000 in
set_option maxRecDepth 100000 in
theorem rrest_c (c : Cfg) (t : List Int) (lv : Value) (l : List Summ) (w : World) (h : RCfg w c t) (hl : SumsRd w lv l) (hs : SumsSmall l) :
    Calls Try.prog 42 #[c.val, lv] w (RetWord (restF c l) w) := by
  obtain ⟨la, lc, rfl⟩ := hl.rd.shape
  have HL := Lib.hid hl
  have hlm := hl.rd.2.1
  obtain ⟨s1, s2⟩ := h.shards
  obtain ⟨s3, s4⟩ := h.spread
  have Hc := Lib.hid fun w' (hg : w.grownBy w' none) => rmerge_c c t _ l w' (h.same hg) (hl.same hg) hs
  clear h hl hs
  by_cases hz : mergeErr c l = 0
  · have hlen := merge_len hz
    obtain ⟨N, hN⟩ : ∃ N, c.Spread.toNat = N := ⟨_, rfl⟩
    have HR := Lib.hid (p := restF c l = restI c.Shards N l l.length) (by unfold restF; rw [if_neg (by omega), hN, ← hlen]; rfl)
    have hN1 : c.Spread = (N : Int) := by omega
    have hN2 : N ≤ 8 := by omega
    have hl8 : l.length ≤ 8 := by omega
    have hl1 : 1 ≤ l.length := by omega
    have Hlen := Lib.hid hlen
    have HN1 := Lib.hid hN1
    have HAf := Lib.hid fun (k : Nat) (hk : k < l.length) (w' : World) => after_c c k w' ⟨s1, s2⟩ ⟨s3, s4⟩ ⟨by omega, by omega⟩
    have HIn : Hid (∀ k : Nat, ∀ x ∈ setN (k : Int) c.Shards N, 0 ≤ x ∧ x < (l.length : Int)) := Lib.hid fun k x hx => by
      have := setN_in s1 x hx
      rw [hlen]; exact this
    rw [hN] at HAf
    have hmod : ∀ (h : Nat) (i : Nat), 0 ≤ ((h : Int) + i) % c.Shards ∧ ((h : Int) + i) % c.Shards < l.length := fun h i => ⟨Int.emod_nonneg _ (by omega), by rw [hlen]; exact Int.emod_lt_of_pos _ (by omega)⟩
    have Hmod := Lib.hid hmod
    rw [hz] at Hc
    have hsz : (c.Shards == 0) = false := beq_eq_false_iff_ne.2 (by omega)
    clear hz hN hN1 hlen hmod
    go_enter Try.func42, Try.ntmps42
    go_upto_region 1 with (refine box_cfg rfl _ rfl c rfl ?_; intro w1 B1 G1 z1)
    go_wp2_with (first | (refine load_cfg rfl _ rfl _ rfl c (by assumption) ?_) | (go_at_call 35; refine (Hc.out _ G1).mono ?_; rintro e w2 ⟨rfl, G2⟩; have BC := B1.same G2; have bc := BC.cell))
    have hg := grownBy_trans G1 G2
    clear G1 B1 G2 bc Hc
    go_loopw [5, 6] (fun s5 s6 wr => ∃ (k : Nat), k ≤ l.length ∧ s6 = .int .i64 k ∧ s5 = .int .u64 (restI c.Shards N l k) ∧ W64 (restI c.Shards N l k) ∧ w2.grownBy wr none) (fun _ s6 _ => l.length - (intOf s6).toNat)
    case atStart => exact ⟨0, Nat.zero_le _, rfl, rfl, w64_0, grownBy_refl _ _⟩
    case round =>
      obtain ⟨k, hk, rfl, rfl, hT, hgr⟩ := hrel
      have BCr := BC.same hgr
      have bcr := BCr.cell
      by_cases hlt : k < l.length
      · have hlt2 : (k : Int) < c.Shards := by have := Hlen.out; omega
        have HS := Lib.hid (restI_succ c.Shards N l k)
        have hin := HIn.out k
        have hON := setN_len k c.Shards N
        have HA2 := Lib.hid (HAf.out k hlt)
        generalize restI c.Shards N l k = T at *
        generalize setN k c.Shards N = O at *
        have Hin := Lib.hid hin
        clear hin
        go_wp2_with (first | (refine load_cfg rfl _ rfl _ rfl c (by assumption) ?_) | (go_at_call 87; refine (HA2.out _).mono ?_; rintro e w3 ⟨ov, rfl, hov, G3⟩; obtain ⟨oa, oc, rfl⟩ := hov.shape))
        have HO := Lib.hid hov.rd
        have hgg := grownBy_trans (grownBy_trans hg hgr) G3
        clear hov bcr
        go_loopw [7, 24] (fun s7 s24 wi => ∃ (i : Nat), i ≤ O.length ∧ s24 = .int .i64 i ∧ s7 = .int .u64 (uF l (O.take i)) ∧ W64 (uF l (O.take i)) ∧ w3 = wi) (fun _ s24 _ => O.length - (intOf s24).toNat)
        case atStart => exact ⟨0, Nat.zero_le _, rfl, rfl, w64_0, rfl⟩
        case round =>
          obtain ⟨i, hi, rfl, rfl, hU, rfl⟩ := hrel
          by_cases hil : i < O.length
          · obtain ⟨go, offo, capo, hvo, hgo, co⟩ := HO.out.one int_one hil
            cases hvo
            obtain ⟨m1, m2⟩ := Hin.out _ (List.getElem_mem hil)
            have HS2 := Lib.hid (take_succ hil)
            have HU2 := Lib.hid (uF_snoc l (O.take i) O[i])
            generalize O[i] = q at *
            obtain ⟨n, rfl⟩ := Int.eq_ofNat_of_zero_le m1
            have hnl : n < l.length := by omega
            obtain ⟨g, off, cap, hv, hgl, c0, c1, c2, c3, hR, hW⟩ := (HL.out.same hgg).at_ hnl
            cases hv
            have hwu := hW.untr
            have HA := Lib.hid (uAt_eq hnl)
            have hW2 := satA_w hU hwu
            generalize l[n].untr = u at *
            generalize uF l (O.take i) = U at *
            clear hR hW c0 c1 c3
            go_wp2_with (go_at_call 84; refine (rsum_c U u _ hU hwu).mono ?_; rintro e w' ⟨rfl, rfl⟩)
            exact ⟨⟨i + 1, by omega, by go_num, by rw [HS2.out, HU2.out, HA.out], by rw [HS2.out, HU2.out, HA.out]; exact hW2, trivial⟩, by simp [intOf]; omega⟩
          · have hle : O.take i = O := List.take_of_length_le (by omega)
            rw [hle] at hU ⊢
            clear hle
            generalize uF l O = U at *
            go_wp2_with fail
            refine ⟨⟨k + 1, by omega, by go_num, ?_, ?_, grownBy_trans hgr G3⟩, by simp [intOf]; omega⟩
            · rw [HS.out]
            · rw [HS.out]; unfold W64 at *; omega
      · have hlt2 : ¬ (k : Int) < c.Shards := by have := Hlen.out; omega
        have hkl : k = l.length := by omega
        have HF := Lib.hid (p := restF c l = restI c.Shards N l k) (by rw [hkl]; exact HR.out)
        generalize restI c.Shards N l k = T at *
        go_wp2_with fail
        go_ret
        exact retWord HF.out (grownBy_trans hg hgr)
  · have HF := Lib.hid (p := restF c l = 0) (by unfold restF; rw [if_pos hz])
    generalize mergeErr c l = ME at *
    have hz2 : (ME != 0) = true := bne_iff_ne.2 hz
    go_enter Try.func42, Try.ntmps42
    go_upto_region 1 with (refine box_cfg rfl _ rfl c rfl ?_; intro w1 B1 G1 z1)
    go_wp2_with (first | (refine load_cfg rfl _ rfl _ rfl c (by assumption) ?_) | (go_at_call 35; refine (Hc.out _ G1).mono ?_; rintro e w2 ⟨rfl, G2⟩))
    go_ret
    exact retWord HF.out (grownBy_trans G1 G2)
end Go.Proofs.Ytiagjiaahnkefaa
