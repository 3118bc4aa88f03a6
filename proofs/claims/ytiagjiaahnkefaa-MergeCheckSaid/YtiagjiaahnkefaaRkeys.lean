/- The keys of summaries: the reference, which inserts one after the other. -/
import Derived.Test.YtiagjiaahnkefaaKeys
import Derived.Test.YtiagjiaahnkefaaIns
namespace Go.Proofs.Ytiagjiaahnkefaa
open Go.RowKit Go.Sort

theorem lessN_le (L : List Bytes) (k : Bytes) : lessN L k ≤ L.length := List.Sublist.length_le (List.takeWhile_sublist _)
theorem lessN_lt {L : List Bytes} {k : Bytes} : ∀ {i : Nat} (h : i < lessN L k) (h2 : i < L.length), L[i] < k := by
  induction L with
  | nil => intro i h h2; simp at h2
  | cons a L ih =>
    intro i h h2
    by_cases ha : a < k
    · cases i with
      | zero => exact ha
      | succ i =>
        have : i < lessN L k := by simp [lessN, ha] at h; simpa [lessN] using h
        simpa using ih this (by simpa using h2)
    · simp [lessN, ha] at h
theorem lessN_at {L : List Bytes} {k : Bytes} (h : lessN L k < L.length) : ¬ L[lessN L k] < k := by
  induction L with
  | nil => simp at h
  | cons a L ih =>
    by_cases ha : a < k
    · have e : lessN (a :: L) k = lessN L k + 1 := by simp [lessN, ha]
      have := ih (by rw [e] at h; simpa using h)
      simpa [e] using this
    · have e : lessN (a :: L) k = 0 := by simp [lessN, ha]
      simpa [e] using ha

theorem bl_of (b : Bytes) (k : ByteArray) : Op.bytesLess b k.toList = decide (b < k.data.toList) := by
  rw [ByteArray.toList_eq, bytesLess_eq]
theorem be_of (b : Bytes) (k : ByteArray) : (b == k.toList) = decide (b = k.data.toList) := by
  rw [ByteArray.toList_eq, Bool.eq_iff_iff]; simp

set_option maxHeartbeats 1000000 in
set_option maxRecDepth 100000 in
theorem rkeys_c (v : Value) (l : List Summ) (w : World) (h : SumsRd w v l) (hs : (keysL l).length ≤ 100000) : Calls Try.prog 40 #[v] w (RetOwn strB 1 9 (keysF l) w) := by
  obtain ⟨a, c, rfl⟩ := h.rd.shape
  have hm := h.rd.2.1
  have H := Lib.hid h
  have Hs := Lib.hid hs
  clear h hs
  go_enter Try.func40, Try.ntmps40
  go_wp2_with fail
  go_loopw [3, 11] (fun s3 s11 wk => ∃ (k : Nat), k ≤ l.length ∧ s11 = .int .i64 k ∧ Own strB 1 9 w.heap.size wk s3 ((keysL (l.take k)).foldl insF []) ∧ w.grownBy wk none) (fun _ s11 _ => l.length - (intOf s11).toNat)
  case atStart => exact ⟨0, Nat.zero_le _, rfl, Own.nil _ _ _ _ _, grownBy_refl _ _⟩
  case round =>
    obtain ⟨k, hk, rfl, hO, hg⟩ := hrel
    by_cases hlt : k < l.length
    · obtain ⟨g, off, cap, hv, hgl, c0, c1, c2, c3, hR, hW⟩ := (H.out.same hg).at_ hlt
      cases hv
      have HS := Lib.hid (take_succ hlt)
      have Hk := Lib.hid (keysL_snoc (l.take k) l[k])
      have hbig := Lib.hid (keysL_take_le l (k + 1))
      obtain ⟨a1, k1, e1⟩ := hR.es.shape
      obtain ⟨a2, k2, e2⟩ := hR.vs.shape
      have Hes := Lib.hid (H.out.all _ (List.getElem_mem hlt)).es
      rw [e1] at c1 Hes
      rw [e2] at c3
      rw [HS.out] at hbig
      clear hR hW e1 e2
      generalize keysL (l.take k) = K at *
      generalize l[k] = s at *
      have hem := Hes.out.2.1
      go_upto_region 6 with fail
      have O1 := hO.same (World.grownBy_alloc wr (.cells #[.int .u64 s.total, .slice a1 s.es.length k1, .int .u64 s.untr, .slice a2 s.vs.length k2] 68) none)
      have G1 := grownBy_new_block hg (.cells #[.int .u64 s.total, .slice a1 s.es.length k1, .int .u64 s.untr, .slice a2 s.vs.length k2] 68)
      generalize wr.alloc (.cells #[.int .u64 s.total, .slice a1 s.es.length k1, .int .u64 s.untr, .slice a2 s.vs.length k2] 68) = w1 at *
      clear hO hg c0 c1 c2 c3 hgl
      have hKb : K.length + s.es.length ≤ 100000 := by
        have h1 := hbig.out
        have h2 := Hs.out
        rw [Hk.out, List.length_append, List.length_map] at h1
        omega
      go_loopw [3, 18] (fun s3 s18 wk => ∃ (j : Nat), j ≤ s.es.length ∧ s18 = .int .i64 j ∧ Own strB 1 9 w.heap.size wk s3 ((K ++ (s.es.take j).map entK).foldl insF []) ∧ w.grownBy wk none) (fun _ s18 _ => s.es.length - (intOf s18).toNat)
      case atStart => exact ⟨0, Nat.zero_le _, rfl, by simpa using O1, G1⟩
      case round =>
        obtain ⟨j, hj, rfl, hO, hg⟩ := hrel
        by_cases hjl : j < s.es.length
        · obtain ⟨ge, oe, ce, hve, hge, d0, d1, d2⟩ := RdL.ent (RdL.same Hes.out hg) hjl
          cases hve
          have HT := Lib.hid (take_succ hjl)
          have hbb : ((K ++ (s.es.take j).map entK).foldl insF []).length ≤ 100000 := by
            refine Nat.le_trans (foldIns_len _ []) ?_
            rw [List.length_append, List.length_map, List.length_take]; simp; omega
          have HF := Lib.hid (show (K ++ (s.es.take (j + 1)).map entK).foldl insF [] = insF ((K ++ (s.es.take j).map entK).foldl insF []) (entK s.es[j]) by rw [HT.out, List.map_append, ← List.append_assoc, List.foldl_append]; rfl)
          generalize (K ++ (s.es.take j).map entK).foldl insF [] = KK at *
          generalize s.es[j] = en at *
          obtain ⟨oa, oc, rfl⟩ := hO.shape
          go_upto_region 8 with fail
          have O2 := hO.same (World.grownBy_alloc wr (.cells #[.string en.key, .int .u64 en.own, .int .u64 en.slack] 77) none)
          have G2 := grownBy_new_block hg (.cells #[.string en.key, .int .u64 en.own, .int .u64 en.slack] 77)
          have A2 := Blk.new wr #[.string en.key, .int .u64 en.own, .int .u64 en.slack] 77
          generalize wr.alloc (.cells #[.string en.key, .int .u64 en.own, .int .u64 en.slack] 77) = w2 at *
          generalize wr.heap.size = gk at *
          have HO := Lib.hid hO
          have HN1 := Lib.hid (lessN_le KK (entK en))
          have HN2 := Lib.hid fun i (h : i < lessN KK (entK en)) h2 => lessN_lt (k := entK en) h h2
          have HN3 := Lib.hid fun h => lessN_at (L := KK) (k := entK en) h
          have HI := Lib.hid (show insF KK (entK en) = if KK[lessN KK (entK en)]? = some (entK en) then KK else KK.take (lessN KK (entK en)) ++ [entK en] ++ KK.drop (lessN KK (entK en)) from rfl)
          clear hO hg d0 d1 d2 hge
          generalize lessN KK (entK en) = N at *
          have hN := HN1.out
          go_cut [8] (fun s8 wx => s8 = .int .i64 0 ∧ w2 = wx)
          case first =>
            go_wp2_with fail
            go_meet
            exact ⟨rfl, rfl⟩
          obtain ⟨rfl, rfl⟩ := hcut
          rename_i hK
          refine hK _ _ ?_
          apply wp_seq_k
          intro K1 hK1
          go_cut [8, 22, 23, 24, 25, 26, 27, 28, 29, 30, 31, 32, 33, 34, 35, 36] (fun s8 _ _ _ _ _ _ _ _ _ _ _ _ _ _ _ wx => s8 = .int .i64 N ∧ w2.grownBy wx none)
          case first =>
            go_wp2_with fail
            go_loopw [8] (fun s8 wk => ∃ m : Nat, m ≤ N ∧ s8 = .int .i64 m ∧ w2.grownBy wk none) (fun s8 _ => N - (intOf s8).toNat)
            case atStart => exact ⟨0, Nat.zero_le _, rfl, grownBy_refl _ _⟩
            case round =>
              obtain ⟨m, hm, rfl, hgm⟩ := hrel
              have am := (A2.same hgm).cell
              by_cases hml : m < KK.length
              · obtain ⟨go, oo, co, hvo, hgo, cm⟩ := (O2.same hgm).rd.one strB_one hml
                cases hvo
                have hml2 : (m : Int) < (KK.length : Int) := by omega
                have hbl := bl_of KK[m] en.key
                by_cases hmN : m < N
                · have hlt := HN2.out m hmN hml
                  rw [decide_eq_true (show KK[m] < en.key.data.toList from hlt)] at hbl
                  generalize KK[m] = x at *
                  clear hlt
                  go_wp2_with fail
                  go_quiet (fail)
                  go_wp2_with fail
                  exact ⟨⟨m + 1, by omega, by go_num, grownBy_drewN hgm _⟩, by simp [intOf]; omega⟩
                · obtain rfl : m = N := by omega
                  have hlt := HN3.out hml
                  rw [decide_eq_false (show ¬ KK[m] < en.key.data.toList from hlt)] at hbl
                  generalize KK[m] = x at *
                  clear hlt
                  go_wp2_with fail
                  go_quiet (fail)
                  go_wp2_with fail
                  go_meet
                  exact ⟨rfl, grownBy_drewN hgm _⟩
              · obtain rfl : m = N := by omega
                have hml2 : decide ((m : Int) < (KK.length : Int)) = false := decide_eq_false (by omega)
                go_wp2_with fail
                go_quiet (fail)
                go_wp2_with fail
                go_meet
                exact ⟨rfl, grownBy_drewN hgm _⟩
          obtain ⟨rfl, h3⟩ := hcut
          refine hK1 _ _ ?_
          apply wp_seq_k
          intro K2 hK2
          have O3 := O2.same h3
          have A3 := A2.same h3
          have a3 := A3.cell
          go_cut [37, 38, 39, 40, 41, 42, 43, 44, 45, 46, 47, 48, 49] (fun _ _ _ _ _ _ _ _ _ _ _ _ s49 wx => s49 = .bool (!decide (KK[N]? = some (entK en))) ∧ w2.grownBy wx none)
          case first =>
            by_cases hml : N < KK.length
            · obtain ⟨go, oo, co, hvo, hgo, cm⟩ := O3.rd.one strB_one hml
              cases hvo
              have hml2 : (N : Int) < (KK.length : Int) := by omega
              have hml3 : ((N : Int) == (KK.length : Int)) = false := beq_eq_false_iff_ne.2 (by omega)
              have hbe := be_of KK[N] en.key
              have hgt := Lib.hid (show decide (KK[N]? = some (entK en)) = decide (KK[N] = en.key.data.toList) by rw [List.getElem?_eq_getElem hml]; simp [entK])
              generalize KK[N] = x at *
              cases hd : decide (x = en.key.data.toList)
              · rw [hd] at hbe hgt
                clear hd
                go_wp2_with fail
                go_quiet (fail)
                go_wp2_with fail
                go_meet
                exact ⟨by rw [hgt.out]; rfl, grownBy_drewN h3 _⟩
              · rw [hd] at hbe hgt
                clear hd
                go_wp2_with fail
                go_quiet (fail)
                go_wp2_with fail
                go_meet
                exact ⟨by rw [hgt.out]; rfl, grownBy_drewN h3 _⟩
            · obtain rfl : N = KK.length := by omega
              have hgt := Lib.hid (show decide (KK[KK.length]? = some (entK en)) = false by simp)
              go_wp2_with fail
              go_quiet (fail)
              go_wp2_with fail
              go_meet
              exact ⟨by rw [hgt.out]; rfl, grownBy_drewN h3 _⟩
          obtain ⟨rfl, h4⟩ := hcut
          clear a3 A3 O3 hK hK1
          refine hK2 _ _ ?_
          have O4 := O2.same h4
          have A4 := A2.same h4
          by_cases hins : KK[N]? = some (entK en)
          · rw [decide_eq_true hins]
            have hI := HI.out
            rw [if_pos hins] at hI
            have HI2 := Lib.hid hI
            clear hI hins
            go_wp2_with fail
            exact ⟨⟨j + 1, by omega, by go_num, by rw [HF.out, HI2.out]; exact O4, grownBy_trans G2 h4⟩, by simp [intOf]; omega⟩
          · rw [decide_eq_false hins]
            have hI := HI.out
            rw [if_neg hins] at hI
            have HI2 := Lib.hid hI
            clear hI hins
            have O3 := O4
            have A3 := A4
            have G3 := grownBy_trans G2 h4
            have hKl := hN
            have hsl : KK.length ≤ 1000000 := by omega
            have Hxk := Lib.hid (show (#[Value.string en.key] : Array Value).toList = strB (entK en) by simp [strB, entK])
            generalize entK en = x at *
            obtain ⟨S, rfl⟩ : ∃ S, S = KK := ⟨_, rfl⟩
            obtain ⟨P, rfl⟩ : ∃ P, P = N := ⟨_, rfl⟩
            clear O4 A4
            go_upto_region 12 with fail
            have hcap := O3.cap
            have hP0 : (0 : Int) ≤ (P : Int) := by omega
            have hP1 : (P : Int) ≤ (S.length : Int) := by omega
            have hP2 : (P : Int) ≤ (oc : Int) := by omega
            have hP3 : (S.length : Int) ≤ (oc : Int) := by omega
            have hsz := G3.size
            refine wp_region_any (by kernel_rfl) ?_
            (refine Tail.take_put 9 59 (.slice oa S.length oc) rfl rfl (by kernel_rfl) (by kernel_rfl) (by kernel_rfl) (fun _ _ _ h => h) (Or.inl ⟨by rfl, fun w => ?_⟩) ?_; · go_simp); simp only [List.setIfInBounds_toArray, List.set_cons_zero, List.set_cons_succ]
            (refine Tail.take_put 10 60 (.int .i64 P) rfl rfl (by kernel_rfl) (by kernel_rfl) (by kernel_rfl) (fun _ _ _ h => h) (Or.inl ⟨by rfl, fun w => ?_⟩) ?_; · go_simp); simp only [List.setIfInBounds_toArray, List.set_cons_zero, List.set_cons_succ]
            (refine Tail.take_put 11 61 (.slice (if oc = P then oa else oa.map (·.add (P * 1))) (S.length - P) (oc - P)) rfl rfl (by kernel_rfl) (by kernel_rfl) (by kernel_rfl) (fun _ _ _ h => h) (Or.inl ⟨by rfl, fun w => ?_⟩) ?_; · go_simp); simp only [List.setIfInBounds_toArray, List.set_cons_zero, List.set_cons_succ]
            have RD := Lib.hid fun w' (h : Own strB 1 9 w.heap.size w' (.slice oa S.length oc) S) => h.rd.drop strB_len hKl hcap (oc - P)
            generalize (if oc = P then oa else oa.map (·.add (P * 1))) = od at *
            (refine Rg.wpAny_rg 8 #[] #[false, false, false, false, false, false, false, false, false, true, true, true, false, false] (fun w w' => World.grownBy w w' none) (fun _ _ _ _ _ => False) (by kernel_rfl) (by kernel_rfl) rfl (by kernel_rfl) (by simp only [Rg.tailL, List.drop]; decide) (fun w => grownBy_refl w none) (fun _ _ _ h k => grownBy_trans h k) (fun _ _ _ _ _ h => h) ?_; simp only [List.take, List.drop, Rg.tailL]; simp (decide := true) only [if_true, if_false])
            have Gd : wc.grownBy wc.drew none := (by (repeat (first | exact grownBy_refl _ _ | assumption | refine grownBy_new_block ?_ _ | refine grownBy_drew ?_ | refine grownBy_drewN ?_ _ | refine grownBy_setNew ?_ (by first | (simp; done) | omega | (simp; omega)) _)))
            have Kd := grownBy_trans G3 Gd
            have hb1 : (S.take P).length = P := by simp; omega
            have hb2 : (S.take P).length * 16 ≤ 140737488355328 := by rw [hb1]; omega
            have hb3 : (S.take P).length ≤ 9223372036854775807 := by rw [hb1]; omega
            have hb4 : ((S.take P).length + 1) * 16 ≤ 140737488355328 := by rw [hb1]; omega
            have hb5 : (S.take P).length + 1 ≤ 9223372036854775807 := by rw [hb1]; omega
            have hb6 : (S.take P ++ [x]).length = P + 1 := by rw [List.length_append, hb1]; rfl
            have hb7 : (S.drop P).length = S.length - P := by simp
            have hb8 : ((S.take P ++ [x]).length + (S.drop P).length) * 16 ≤ 140737488355328 := by rw [hb6, hb7]; omega
            have hb9 : (S.take P ++ [x]).length + (S.drop P).length ≤ 9223372036854775807 := by rw [hb6, hb7]; omega
            have Hb1 := Lib.hid hb1.symm
            have Hb7 := Lib.hid hb7.symm
            clear hb1 hb6 hb7
            (refine Rg.tree_op rfl rfl ?_; intro y0 my0 dy0)
            clear dy0
            have zy0 : w.heap.size ≤ y0.heap.size := (grownBy_trans Kd my0).size
            go_wp2_with fail
            refine ⟨World.grownBy_alloc _ _ _, ?_⟩
            have N0 := own_lit0 (e := 9) strB 1 zy0
            have hg0 : wc.heap.size ≤ y0.heap.size := (grownBy_trans Gd my0).size
            generalize y0.alloc (.cells #[] 9) = e0 at *
            generalize y0.heap.size = g0 at *
            (refine Rg.tree_quiet 3 rfl (by first | exact Or.inl rfl | exact Or.inr rfl) ?_; simp only [List.take, List.drop, List.length_cons, List.length_nil, List.replicate, Nat.reduceAdd]; (try simp only [List.cons_append]); (try simp only [List.nil_append]); (repeat (go_big_quiet_step (fail))); refine wpQuiet_nil ?_)
            (refine Rg.tree_op rfl rfl ?_; intro y4 my4 dy4)
            have N4 := N0.same (dy4.out 0 (by omega) (by kernel_rfl))
            have K4 := grownBy_trans Gd my4
            have R4 := (O3.rd.take strB_len hKl oc).same K4
            have z4 := (grownBy_trans Kd my4).size
            go_wp2_with (at_builtin; refine app_lit elt_str one_str N4 R4 Hb1.out hb2 hb3 z4 (by rfl) _ _ (by rfl) (by rfl) (by rfl) ?_; intro v4 e4 o4 g4 l4; have Hg4 := Lib.hid g4; clear g4)
            refine ⟨Hg4.out, ?_⟩
            have hv4 := Lies.ge l4 (fun k hk => Nat.le_trans hg0 (ge_new _ _ _ k hk)) K4.size
            clear R4 N0 N4 K4 z4 dy4 l4
            (refine Rg.tree_quiet 1 rfl (by first | exact Or.inl rfl | exact Or.inr rfl) ?_; simp only [List.take, List.drop, List.length_cons, List.length_nil, List.replicate, Nat.reduceAdd]; (try simp only [List.cons_append]); (try simp only [List.nil_append]); (repeat (go_big_quiet_step (fail))); refine wpQuiet_nil ?_)
            (refine Rg.tree_op rfl rfl ?_; intro y5 my5 dy5)
            clear dy5
            have a5 := (A3.same (grownBy_trans Gd my5)).cell
            go_wp2_with fail
            refine ⟨grownBy_refl _ _, ?_⟩
            clear a5
            (refine Rg.tree_op rfl rfl ?_; intro y6 my6 dy6)
            clear dy6
            go_wp2_with fail
            refine ⟨World.grownBy_alloc _ _ _, ?_⟩
            have N6 := Blk.new y6 #[.string en.key] 9
            generalize y6.alloc (.cells #[.string en.key] 9) = e6 at *
            generalize y6.heap.size = g6 at *
            (refine Rg.tree_nil ?_; intro z mz dz cz)
            have o5 := o4.same (dz.out 4 (by omega))
            have N7 := (N6.same (dz.out 7 (by omega))).one strB_len x Hxk.out
            have Kz := grownBy_trans Gd mz
            have KK := grownBy_trans Kd mz
            have z7 := KK.size
            have O7 := O3.same Kz
            have hlo : ∀ k, Value.ownBlock (.slice oa S.length oc) = some k → k < wc.heap.size := fun k hk => (O3.lt k hk).2
            have tok := Lib.hid hP0
            clear dz cz my0 my4 my5 my6 mz Hg4 Kz N6 o4 O3 A3 hg0 zy0 Gd Kd
            go_wp2_with (first
              | (at_builtin; have _t := tok; refine app elt_str one_str o5 N7 rfl hb4 hb5 z7 (by rfl) _ _ (by rfl) (by rfl) (by rfl) ?_; intro v7 w7 o7 g7 l7; clear tok; have K7 := grown_own KK o5 (Nat.le_refl _) g7; have R8 := RD.out _ (O7.kept g7 (fun k hk e => by have := hlo k hk; have := hv4 k e; omega)); have z8 := K7.size)
              | (at_builtin; refine app elt_str one_str o7 R8 Hb7.out hb8 hb9 z8 (by rfl) _ _ (by rfl) (by rfl) (by rfl) ?_; intro v8 w8 o8 g8 l8; have K8 := grown_own K7 o7 (Nat.le_refl _) g8))
            exact ⟨⟨j + 1, by omega, by go_num, by rw [HF.out, HI2.out]; exact o8, K8⟩, by simp [intOf]; omega⟩
        · have hje : s.es.take j = s.es := List.take_of_length_le (by omega)
          rw [hje] at hO
          go_wp2_with fail
          exact ⟨⟨k + 1, by omega, by go_num, by rw [HS.out, Hk.out]; exact hO, hg⟩, by simp [intOf]; omega⟩
    · have hke : l.take k = l := List.take_of_length_le (by omega)
      rw [hke, ins_fold] at hO
      go_wp2_with fail
      go_ret
      exact ⟨_, rfl, hO, hg⟩
end Go.Proofs.Ytiagjiaahnkefaa
