/- Several texts in one file; each begins with a comment that says what is proved in it. -/
import Derived.Test.YtiagjiaahnkefaaBunAC
import Derived.Test.YtiagjiaahnkefaaBunAB
import Derived.Test.YtiagjiaahnkefaaShelf
import Derived.Lib.MinMax
import Derived.Sort.OwnSortedInts

/- The order of merging: merge.Order, its reference, slices.Delete, SameInts. -/
namespace Go.Proofs.Ytiagjiaahnkefaa
open Go.RowKit Go.Sort

theorem elt_int : Elt 27 3 (.int .i64 0) 1 8 := ⟨Try.underlying27, by kernel_rfl, rfl, by decide⟩
theorem one_int : OneF intF := by intro x u hu; simp [intF] at hu; subst hu; rfl
theorem cells_intF (l : List Int) : cellsOf intF l = l.map (fun x => Value.int .i64 x) := cells_int l
def sliceLen : Value → Nat
  | .slice _ n _ => n
  | _ => 0

/-- What a function leaves that makes a slice of its own, and nothing else. -/

theorem delete_c (B : Nat) (a : Option Addr) (c : Nat) (L : List Int) (p : Nat) (ip ij : Int) (w : World) (h : Own intF 1 3 B w (.slice a L.length c) L) (hp : p < L.length) (hi : ip = p) (hj : ij = p + 1) :
    Calls Try.prog 66 #[.slice a L.length c, .int .i64 ip, .int .i64 ij] w fun e w' =>
      e = .returned (.slice a (L.eraseIdx p).length c) ∧ Own intF 1 3 B w' (.slice a (L.eraseIdx p).length c) (L.eraseIdx p) ∧ w.grownBy w' (Value.ownBlock (.slice a L.length c)) := by
  subst hi
  obtain rfl : ij = ((p + 1 : Nat) : Int) := by omega
  rcases h.2 with ⟨hn, h0⟩ | ⟨g, cap, cur, hv, hb, hg, h1, h2, h3, h4⟩
  · omega
  cases hv
  have hl : (L.eraseIdx p).length = L.length - 1 := by rw [List.length_eraseIdx, if_pos hp]
  have hH : Holds (Value.int .i64) w g 0 L.toArray := holds_of_blockI hg (by rw [← cells_intF, ← h4]; simp)
  refine (Try.slices_Delete_int g 0 c p (p + 1) L w hH h1 (by unfold maxLen at h2; exact h2) (by omega) (by omega)).mono ?_
  rintro e w' ⟨rfl, q, rfl⟩
  have e1 : L.take p ++ L.drop (p + 1) = L.eraseIdx p := (List.eraseIdx_eq_take_drop_succ L p).symm
  have hts : (L.take p ++ L.drop (p + 1) ++ List.replicate (p + 1 - p) 0).length = L.length := by rw [e1]; simp [hl]; omega
  have hown := ownsRow_sortedI (w := w) (n := q) (os := #[]) (e := 3) (ss := L) (ts := L.take p ++ L.drop (p + 1) ++ List.replicate (p + 1 - p) 0) hts hb hg h1 h2 h3
  rw [grow_empty] at hown
  refine ⟨by rw [hl, show L.length - (p + 1 - p) = L.length - 1 by omega], ?_, ?_⟩
  · rcases hown.2 with ⟨hn, _⟩ | ⟨g', cap', cur', hv', hb', hg', q1, q2, q3, q4⟩
    · cases hn
    cases hv'
    refine ⟨by rw [length_cellsOf _ 1 intF_len], .inr ⟨g, c, cur', rfl, hb, hg', by omega, q2, q3, ?_⟩⟩
    have e2 : cur'.toList.take ((L.eraseIdx p).length * 1) = (cur'.toList.take (L.length * 1)).take ((L.eraseIdx p).length * 1) := by rw [List.take_take, Nat.min_eq_left (by omega)]
    rw [e2, q4, e1, cells_intF, List.map_append, Nat.mul_one, List.take_left' (by simp)]
  · have := grownBy_sortedI (w := w) (g := g) (n := q) (os := #[]) (L.take p ++ L.drop (p + 1) ++ List.replicate (p + 1 - p) 0).toArray
    rw [grow_empty] at this
    exact this

set_option maxHeartbeats 1000000 in
set_option maxRecDepth 100000 in
theorem order_c (v : Value) (P : List Int) (n : Int) (w : World) (h : RdL intF 1 w v P) (hn : n ≤ 1000) :
    Calls Try.prog 24 #[v, .int .i64 n] w (RetOwn intF 1 3 (order P n.toNat) w) := by
  obtain ⟨aP, cP, rfl⟩ := h.shape
  have hm := h.2.1
  have H := Lib.hid h
  obtain ⟨N, hN0⟩ : ∃ N, n.toNat = N := ⟨_, rfl⟩
  rw [hN0]
  have hmax : max n 0 = (N : Int) := by omega
  have hN : N ≤ 1000 := by omega
  clear h hN0
  go_enter Try.func24, Try.ntmps24
  go_upto_region 3 with fail
  clear hmax
  go_loopw [5, 12] (fun s5 s12 wr => ∃ k : Nat, k ≤ N ∧ s12 = .int .i64 k ∧ Own intF 1 3 w.heap.size wr s5 (rangeI k) ∧ w.grownBy wr none) (fun _ s12 _ => N - (intOf s12).toNat)
  case atStart => exact ⟨0, Nat.zero_le _, rfl, Own.nil _ _ _ _ _, grownBy_refl _ _⟩
  case round =>
    obtain ⟨k, hk, rfl, hL, hg⟩ := hrel
    have hsz := hg.size
    have hrl := rangeI_len k
    by_cases hlt : k < N
    · have hb1 : ((rangeI k).length + 1) * 8 ≤ 140737488355328 := by omega
      have hb2 : (rangeI k).length + 1 ≤ 9223372036854775807 := by omega
      have Hrl := Lib.hid hrl
      clear hrl
      go_wp2_with (at_builtin; refine app_one elt_int one_int intF_len hL (k : Int) hb1 hb2 hsz (by rfl) rfl (.tmp 15) (.tmp 17) rfl rfl rfl ?_; intro v1 w1 o1 g1 l1)
      refine ⟨⟨k + 1, by omega, by go_num, by rw [rangeI_succ]; exact o1, grown_own hg hL (Nat.le_refl _) g1⟩, by simp [intOf]; omega⟩
    · obtain rfl : k = N := by omega
      clear hlt hk
      obtain ⟨aL, cL, hv⟩ := hL.shape
      rw [rangeI_len] at hv
      subst hv
      go_wp2_with fail
      go_loopw [5, 6, 8, 9] (fun s5 s6 s8 s9 wr => ∃ (i : Nat) (a : Option Addr) (c : Nat) (L O : List Int), s5 = .slice a L.length c ∧ s8 = .int .i64 i ∧ Own intF 1 3 w.heap.size wr (.slice a L.length c) L ∧ Own intF 1 3 w.heap.size wr s6 O ∧ Apart (.slice a L.length c) s6 ∧ O ++ ordGo P L.length i L = order P k ∧ i + L.length ≤ 1000 ∧ O.length = i ∧ w.grownBy wr none) (fun s5 _ _ _ _ => sliceLen s5)
      case atStart =>
        refine ⟨0, aL, cL, rangeI k, [], by rw [rangeI_len], rfl, ?_, Own.nil _ _ _ _ _, (apart_nil _).symm, ?_, by rw [rangeI_len]; omega, rfl, hg⟩
        · rw [rangeI_len]; exact hL
        · rw [rangeI_len]; rfl
      case round =>
        clear hL hg hsz hrl
        obtain ⟨i, a, c, L, O, rfl, rfl, hL, hO, hap, hord, hb, hOi, hg⟩ := hrel
        have hsz := hg.size
        have hb1 : (O.length + 1) * 8 ≤ 140737488355328 := by omega
        have hb2 : O.length + 1 ≤ 9223372036854775807 := by omega
        have HOi := Lib.hid hOi
        have Hord := Lib.hid hord
        clear hOi hord
        by_cases h0 : 0 < L.length
        · have hz : ((L.length : Int) == 0) = false := beq_eq_false_iff_ne.2 (by omega)
          have hp := pickAt_lt P i L.length h0
          have HS := Lib.hid (ordGo_step P i L h0 O)
          obtain ⟨gL, offL, cL', hvL, hgL, h1L⟩ := hL.rd.one int_one hp
          have heL : L.getD (pickAt P i L.length) 0 = L[pickAt P i L.length] := by simp [List.getD_eq_getElem?_getD, List.getElem?_eq_getElem hp]
          rw [← heL] at h1L
          have HvL := Lib.hid hvL
          cases hvL
          clear heL HvL
          have hpi := Lib.hid (pickAt_in P i L.length (h0 := h0))
          have hpo := Lib.hid (pickAt_out P i L.length)
          generalize hpe : pickAt P i L.length = p at *
          clear hpe
          generalize L.getD p 0 = y at *
          go_upto_if 28 with fail
          go_cut [9] (fun s9 wx => s9 = .int .i64 (p : Int) ∧ wx = wr)
          case first =>
            by_cases hi : i < P.length
            · obtain ⟨gP, offP, cP', hvP, hgP, h1P⟩ := (H.out.same hg).one int_one hi
              have heP : P.getD i 0 = P[i] := by simp [List.getD_eq_getElem?_getD, List.getElem?_eq_getElem hi]
              have hq := hpi.out hi
              rw [heP] at hq
              cases hvP
              clear heP
              have HW := Lib.hid (within_num P[i] L.length (by omega))
              obtain ⟨hwa, hwb⟩ := within_tmod P[i] L.length (by omega)
              have Hq := Lib.hid hq
              generalize P[i] = x at *
              clear hq
              go_wp2_with fail
              go_meet
              exact ⟨by rw [HW.out, Hq.out], rfl⟩
            · have hq := hpo.out hi
              have Hq := Lib.hid hq
              clear hq
              go_wp2_with fail
              go_meet
              exact ⟨by rw [Hq.out]; rfl, rfl⟩
          case rest =>
            obtain ⟨rfl, rfl⟩ := hcut
            have hp0 : (0 : Int) ≤ (p : Int) := by omega
            have hp1 : (p : Int) < (L.length : Int) := by omega
            go_upto_region 14 with (at_builtin; refine app_one elt_int one_int intF_len hO y hb1 hb2 hsz (by rfl) rfl (.tmp 42) (.tmp 47) rfl rfl rfl ?_; intro v1 w1 o1 g1 l1)
            have hap1 := Apart.app hap.symm (fun k hk => (hL.lt k hk).2) l1
            have hL1 := hL.kept g1 (fun k hk e => hap k hk e)
            have hg1 := grown_own hg hO (Nat.le_refl _) g1
            clear h1L hap hL g1 l1 hg hgL hO
            go_wp2_with (go_at_call 66; refine (delete_c _ _ _ L p _ _ _ hL1 hp rfl rfl).mono ?_; rintro e w2 ⟨rfl, o2, g2⟩)
            have hap2 : Apart (.slice (some ⟨gL, offL, none⟩) (L.eraseIdx p).length c) v1 := fun g hg e => hap1 g e hg
            have hO2 := o1.kept g2 (fun k hk e => hap1 k hk e)
            have hg2 := grown_own hg1 hL1 (Nat.le_refl _) g2
            have hel : (L.eraseIdx p).length = L.length - 1 := by rw [List.length_eraseIdx, if_pos hp]
            refine ⟨⟨i + 1, _, _, L.eraseIdx p, O ++ [y], rfl, by go_num, o2, hO2, hap2, by rw [← HS.out, Hord.out], by omega, by simp [HOi.out], hg2⟩, ?_⟩
            show (L.eraseIdx p).length < L.length
            omega
        · obtain rfl : L = [] := List.length_eq_zero_iff.1 (by omega)
          have he : O = order P k := by rw [← Hord.out]; simp [ordGo]
          have He := Lib.hid he
          clear he Hord hap h0
          simp only [List.length_nil] at hL ⊢
          go_wp2_with fail
          go_ret
          exact ⟨_, rfl, by rw [← He.out]; exact hO, hg⟩

theorem tmod_neg (x n : Int) (h : 0 < n) : (x.tmod n < 0 → x.tmod n + n = x % n) ∧ (0 ≤ x.tmod n → x.tmod n = x % n) := by
  have h1 : x.tmod n = if 0 ≤ x ∨ n ∣ x then x % n else x % n - n := by
    rw [Int.tmod_eq_emod]; split
    · simp
    · have : (n.natAbs : Int) = n := by omega
      rw [this]
  have a := Int.emod_nonneg x (show n ≠ 0 by omega)
  have b := Int.emod_lt_of_pos x h
  rw [h1]; split <;> constructor <;> intro h2 <;> omega

set_option maxHeartbeats 2000000 in
set_option maxRecDepth 100000 in
theorem rorder_c (v : Value) (P : List Int) (n : Int) (w : World) (h : RdL intF 1 w v P) (hn : n ≤ 1000) :
    Calls Try.prog 26 #[v, .int .i64 n] w (RetOwn intF 1 3 (order P n.toNat) w) := by
  obtain ⟨aP, cP, rfl⟩ := h.shape
  have hm := h.2.1
  have H := Lib.hid h
  obtain ⟨N, hN0⟩ : ∃ N, n.toNat = N := ⟨_, rfl⟩
  rw [hN0]
  have hN1 : n ≤ N := by omega
  have hN2 : ∀ k : Nat, k ≤ N → n ≤ (k : Int) → k = N := by omega
  have HN2 := Lib.hid hN2
  have hN : N ≤ 1000 := by omega
  clear h hN0 hN2
  go_enter Try.func26, Try.ntmps26
  go_upto_region 3 with fail
  go_loopw [5, 7] (fun s5 s7 wr => ∃ k : Nat, k ≤ N ∧ s7 = .int .i64 k ∧ Own intF 1 3 w.heap.size wr s5 (rangeI k) ∧ w.grownBy wr none) (fun _ s7 _ => N - (intOf s7).toNat)
  case atStart => exact ⟨0, Nat.zero_le _, rfl, Own.nil _ _ _ _ _, grownBy_refl _ _⟩
  case round =>
    obtain ⟨k, hk, rfl, hL, hg⟩ := hrel
    have hsz := hg.size
    have hrl := rangeI_len k
    by_cases hlt : (k : Int) < n
    · have hb1 : ((rangeI k).length + 1) * 8 ≤ 140737488355328 := by omega
      have hb2 : (rangeI k).length + 1 ≤ 9223372036854775807 := by omega
      have Hrl := Lib.hid hrl
      clear hrl
      go_wp2_with (at_builtin; refine app_one elt_int one_int intF_len hL (k : Int) hb1 hb2 hsz (by rfl) rfl (.tmp 15) (.tmp 17) rfl rfl rfl ?_; intro v1 w1 o1 g1 l1)
      refine ⟨⟨k + 1, by omega, by go_num, by rw [rangeI_succ]; exact o1, grown_own hg hL (Nat.le_refl _) g1⟩, by simp [intOf]; omega⟩
    · obtain rfl : k = N := HN2.out k hk (by omega)
      clear hk HN2 hN1
      obtain ⟨aL, cL, hv⟩ := hL.shape
      rw [rangeI_len] at hv
      subst hv
      go_wp2_with fail
      go_loopw [5, 6, 8, 9] (fun s5 s6 s8 s9 wr => ∃ (i : Nat) (a : Option Addr) (c : Nat) (L O : List Int), s5 = .slice a L.length c ∧ s8 = .int .i64 i ∧ Own intF 1 3 w.heap.size wr (.slice a L.length c) L ∧ Own intF 1 3 w.heap.size wr s6 O ∧ Apart (.slice a L.length c) s6 ∧ O ++ ordGo P L.length i L = order P k ∧ i + L.length ≤ 1000 ∧ O.length = i ∧ w.grownBy wr none) (fun s5 _ _ _ _ => sliceLen s5)
      case atStart =>
        refine ⟨0, aL, cL, rangeI k, [], by rw [rangeI_len], rfl, ?_, Own.nil _ _ _ _ _, (apart_nil _).symm, ?_, by rw [rangeI_len]; omega, rfl, hg⟩
        · rw [rangeI_len]; exact hL
        · rw [rangeI_len]; rfl
      case round =>
        clear hL hg hsz hrl hlt
        obtain ⟨i, a, c, L, O, rfl, rfl, hL, hO, hap, hord, hb, hOi, hg⟩ := hrel
        have hsz := hg.size
        have hb1 : (O.length + 1) * 8 ≤ 140737488355328 := by omega
        have hb2 : O.length + 1 ≤ 9223372036854775807 := by omega
        have HOi := Lib.hid hOi
        have Hord := Lib.hid hord
        clear hOi hord
        by_cases h0 : 0 < L.length
        · have hz : ((L.length : Int) == 0) = false := beq_eq_false_iff_ne.2 (by omega)
          have hp := pickAt_lt P i L.length h0
          have HS := Lib.hid (ordGo_step P i L h0 O)
          obtain ⟨gL, offL, cL', hvL, hgL, h1L⟩ := hL.rd.one int_one hp
          have heL : L.getD (pickAt P i L.length) 0 = L[pickAt P i L.length] := by simp [List.getD_eq_getElem?_getD, List.getElem?_eq_getElem hp]
          rw [← heL] at h1L
          have HvL := Lib.hid hvL
          cases hvL
          clear heL HvL
          have hpi := Lib.hid (pickAt_in P i L.length (h0 := h0))
          have hpo := Lib.hid (pickAt_out P i L.length)
          generalize hpe : pickAt P i L.length = p at *
          clear hpe
          generalize L.getD p 0 = y at *
          go_upto_if 27 with fail
          go_cut [9] (fun s9 wx => s9 = .int .i64 (p : Int) ∧ wx = wr)
          case first =>
            by_cases hi : i < P.length
            · obtain ⟨gP, offP, cP', hvP, hgP, h1P⟩ := (H.out.same hg).one int_one hi
              have heP : P.getD i 0 = P[i] := by simp [List.getD_eq_getElem?_getD, List.getElem?_eq_getElem hi]
              have hq := hpi.out hi
              rw [heP] at hq
              cases hvP
              clear heP
              have HW := Lib.hid (tmod_neg P[i] L.length (by omega))
              obtain ⟨hwa, hwb⟩ := within_tmod P[i] L.length (by omega)
              have Hq := Lib.hid hq
              generalize P[i] = x at *
              clear hq
              go_wp2_with fail
              · go_meet
                exact ⟨by rw [HW.out.1 (by assumption), Hq.out], rfl⟩
              · go_meet
                exact ⟨by rw [HW.out.2 (by omega), Hq.out], rfl⟩
            · have hq := hpo.out hi
              have Hq := Lib.hid hq
              clear hq
              go_wp2_with fail
              go_meet
              exact ⟨by rw [Hq.out]; rfl, rfl⟩
          case rest =>
            obtain ⟨rfl, rfl⟩ := hcut
            have hp0 : (0 : Int) ≤ (p : Int) := by omega
            have hp1 : (p : Int) < (L.length : Int) := by omega
            go_upto_region 15 with (at_builtin; refine app_one elt_int one_int intF_len hO y hb1 hb2 hsz (by rfl) rfl (.tmp 41) (.tmp 46) rfl rfl rfl ?_; intro v1 w1 o1 g1 l1)
            have hap1 := Apart.app hap.symm (fun k hk => (hL.lt k hk).2) l1
            have hL1 := hL.kept g1 (fun k hk e => hap k hk e)
            have hg1 := grown_own hg hO (Nat.le_refl _) g1
            clear h1L hap hL g1 l1 hg hgL hO
            have hcap := hL1.cap
            have hc1 : (p : Int) ≤ (c : Int) := by omega
            have hc2 : (p : Int) + 1 ≤ (L.length : Int) := by omega
            have hc3 : (L.length : Int) ≤ (c : Int) := by omega
            have hs1 := hg1.size
            have hlt1 : (L.take p).length = p := by simp; omega
            have hlt2 : (L.drop (p + 1)).length = L.length - (p + 1) := by simp
            have hb3 : (([] : List Int).length + (L.take p).length) * 8 ≤ 140737488355328 := by rw [hlt1]; simp; omega
            have hb4 : ([] : List Int).length + (L.take p).length ≤ 9223372036854775807 := by rw [hlt1]; simp; omega
            have hb5 : (([] ++ L.take p : List Int).length + (L.drop (p + 1)).length) * 8 ≤ 140737488355328 := by rw [List.nil_append, hlt1, hlt2]; omega
            have hb6 : ([] ++ L.take p : List Int).length + (L.drop (p + 1)).length ≤ 9223372036854775807 := by rw [List.nil_append, hlt1, hlt2]; omega
            have hR1 : RdL intF 1 (w1.alloc (.cells #[] 3)).drew (.slice (some ⟨gL, offL, none⟩) p c) (L.take p) := (hL1.rd.take intF_len (by omega) c).same (grownBy_drew (World.grownBy_alloc w1 _ none))
            have hO0 : Own intF 1 3 w.heap.size (w1.alloc (.cells #[] 3)).drew (.slice (some ⟨w1.heap.size, 0, none⟩) 0 0) [] := own_lit0 intF 1 hs1
            have hs2 : w.heap.size ≤ (w1.alloc (.cells #[] 3)).drew.heap.size := by simp [World.drew]; omega
            have Hlt1 := Lib.hid hlt1.symm
            have Hlt2 := Lib.hid hlt2.symm
            have tok := Lib.hid hp
            clear hlt1 hlt2
            have hw1 : IntKind.i64.wrap ((p : Int) + 1) = (p : Int) + 1 := IntWalk.i64_in _ (by omega)
            have hw2 : ((p : Int) + 1).toNat = p + 1 := by omega
            have hw3 : (0 : Int) ≤ (p : Int) + 1 := by omega
            have hpl : p + 1 ≤ L.length := by omega
            go_region_law ((first | (have _t := tok; refine step_app elt_int one_int hO0 hR1 Hlt1.out hb3 hb4 hs2 (by rfl) _ _ (by rfl) (by rfl) (by rfl) ?_; intro v2 w2 o2 g2 l2; clear tok; have hg2 := grown_own (grownBy_drew (grownBy_new_block hg1 _)) hO0 (Nat.le_refl _) g2; have hL2 := hL1.kept (grownBy_trans (grownBy_drew (World.grownBy_alloc w1 _ _)) g2) (off_new (fun k hk => (hL1.lt k hk).2)); have hO2 := o1.kept (grownBy_trans (grownBy_drew (World.grownBy_alloc w1 _ _)) g2) (off_new (fun k hk => (o1.lt k hk).2)); have hv2 := Lies.ge l2 (ge_new _ _ _) (Nat.le_of_lt (by simp [World.drew])); have hR2 := hL2.rd.drop1 intF_len hpl hcap (c - (p + 1)); have hs3 := hg2.size) | (refine step_app elt_int one_int o2 hR2 Hlt2.out hb5 hb6 hs3 (by rfl) _ _ (by rfl) (by rfl) (by rfl) ?_; intro v3 w3 o3 g3 l3)))
            have hg3 := grown_own hg2 o2 (Nat.le_refl _) g3
            have hv1 : ∀ k, v1.ownBlock = some k → k < w1.heap.size := fun k hk => (o1.lt k hk).2
            have hO3 := hO2.kept g3 (fun k hk e => by have h1 := hv1 k hk; have h2 := hv2 k e; omega)
            have hw12 : w1.heap.size ≤ w2.heap.size := by have := g2.size; simp [World.drew] at this; omega
            have hap3 : Apart v3 v1 := apart_ge (Lies.ge l3 hv2 hw12) hv1
            have he3 : [] ++ L.take p ++ L.drop (p + 1) = L.eraseIdx p := by rw [List.nil_append]; exact (List.eraseIdx_eq_take_drop_succ L p).symm
            rw [he3] at o3
            have hel : (L.eraseIdx p).length = L.length - 1 := by rw [List.length_eraseIdx, if_pos hp]
            obtain ⟨a3, c3, hv3⟩ := o3.shape
            subst hv3
            have Hel := Lib.hid hel
            clear hw1 hw2 he3 hel hO0 hR1 hR2 hL1 hL2 g2 g3 l2 l3 hg1 hg2 hO2 o1 o2 hv1 hv2 hb3 hb4 hb5 hb6
            go_wp2_with fail
            refine ⟨⟨i + 1, _, _, L.eraseIdx p, O ++ [y], rfl, by go_num, o3, hO3, hap3, by rw [← HS.out, Hord.out], by have := Hel.out; omega, by simp [HOi.out], hg3⟩, ?_⟩
            show (L.eraseIdx p).length < L.length
            have := Hel.out
            omega
        · obtain rfl : L = [] := List.length_eq_zero_iff.1 (by omega)
          have he : O = order P k := by rw [← Hord.out]; simp [ordGo]
          have He := Lib.hid he
          clear he Hord hap h0
          simp only [List.length_nil] at hL ⊢
          go_wp2_with fail
          go_ret
          exact ⟨_, rfl, by rw [← He.out]; exact hO, hg⟩
end Go.Proofs.Ytiagjiaahnkefaa

/- The shards of a key. -/
namespace Go.Proofs.Ytiagjiaahnkefaa
open Go.RowKit
attribute [local go_sem ↓] exec_load_cfg
attribute [local go_sem] run_loadCfgS

/-- n shards from h on, of m. -/
def setN (h m : Int) (n : Nat) : List Int := (rangeI n).map (fun i => (h + i) % m)
theorem setN_len (h m : Int) (n : Nat) : (setN h m n).length = n := by simp [setN, rangeI_len]
theorem setN_succ (h m : Int) (n : Nat) : setN h m (n + 1) = setN h m n ++ [(h + n) % m] := by simp [setN, rangeI_succ]
def setF (c : Cfg) (t : List Int) (k : ByteArray) : List Int := setN (homeF c t k) c.Shards c.Spread.toNat
def eightA (l : List Int) : Array Value := ((l ++ List.replicate (8 - l.length) 0).map (fun x => Value.int .i64 x)).toArray
/-- What a function leaves that makes a slice to be read. -/
def RetRd {α : Type} (f : α → List Value) (s : Nat) (l : List α) (w : World) (en : Ending) (w' : World) : Prop := ∃ v, en = .returned v ∧ RdL f s w' v l ∧ w.grownBy w' none
theorem RetOwn.rd {α : Type} {f : α → List Value} {s : Nat} {e : TypeId} {l : List α} {w : World} {en : Ending} {w' : World} (h : RetOwn f s e l w en w') : RetRd f s l w en w' := by
  obtain ⟨v, h1, h2, h3⟩ := h; exact ⟨v, h1, h2.rd, h3⟩

set_option maxHeartbeats 400000 in
set_option maxRecDepth 100000 in
theorem after_c (c : Cfg) (h : Int) (w : World) (hc : 1 ≤ c.Shards ∧ c.Shards ≤ 8) (hs : 1 ≤ c.Spread ∧ c.Spread ≤ c.Shards) (hh : 0 ≤ h ∧ h ≤ 8) : Calls Try.prog 87 #[c.val, .int .i64 h] w (RetOwn intF 1 3 (setN h c.Shards c.Spread.toNat) w) := by
  obtain ⟨h1, h2⟩ := hc
  obtain ⟨h3, h4⟩ := hs
  obtain ⟨h5, h6⟩ := hh
  obtain ⟨N, hN⟩ : ∃ N, c.Spread.toNat = N := ⟨_, rfl⟩
  have hN1 : c.Spread ≤ N := by omega
  have hN2 : N ≤ 8 := by omega
  have hN3 : ∀ k : Nat, k ≤ N → c.Spread ≤ (k : Int) → k = N := by omega
  have HN := Lib.hid hN3
  rw [hN]
  clear hN hN3
  go_enter Try.func87, Try.ntmps87
  go_upto_region 3 with (refine box_cfg rfl _ rfl c rfl ?_; intro w1 B1 G1 z1)
  go_loopw [5, 6] (fun s5 s6 wr => ∃ k : Nat, k ≤ N ∧ s6 = .int .i64 k ∧ Own intF 1 3 w1.heap.size wr s5 (setN h c.Shards k) ∧ w1.heap.size ≤ wr.heap.size ∧ w.grownBy wr none ∧ BoxAt wr w.heap.size c) (fun _ s6 _ => N - (intOf s6).toNat)
  case atStart => exact ⟨0, Nat.zero_le _, rfl, Own.nil _ _ _ _ _, Nat.le_refl _, G1, B1⟩
  case round =>
    obtain ⟨k, hk, rfl, hL, hsz, hg, hB⟩ := hrel
    have hrl := setN_len h c.Shards k
    have b1 := hB.cell
    by_cases hlt : (k : Int) < c.Spread
    · have hb1 : ((setN h c.Shards k).length + 1) * 8 ≤ 140737488355328 := by omega
      have hb2 : (setN h c.Shards k).length + 1 ≤ 9223372036854775807 := by omega
      have HS := Lib.hid (setN_succ h c.Shards k)
      have hz : (c.Shards == 0) = false := beq_eq_false_iff_ne.2 (by omega)
      have hkN : k < N := by omega
      clear hrl
      go_wp2_with (at_builtin; refine app_one elt_int one_int intF_len hL ((h + k) % c.Shards) hb1 hb2 hsz (by rfl) rfl (.tmp 13) (.tmp 20) rfl rfl rfl ?_; intro v1 w1 o1 g1 l1)
      have hB2 := hB.kept g1 (fun e => by have := (hL.lt _ e).1; omega)
      refine ⟨⟨k + 1, by omega, by go_num, by rw [HS.out]; exact o1, Nat.le_trans hsz g1.size, grown_own hg hL (Nat.le_of_lt z1) g1, hB2⟩, by simp [intOf]; omega⟩
    · obtain rfl : k = N := HN.out k hk (by omega)
      clear hk HN hN1
      go_wp2_with fail
      go_ret
      exact ⟨_, rfl, hL.base (fun k hk => Nat.le_trans (Nat.le_of_lt z1) (hL.lt k hk).1), hg⟩

theorem homeF_bd (c : Cfg) (t : List Int) (k : ByteArray) (h : 1 ≤ c.Shards) : 0 ≤ homeF c t k ∧ homeF c t k < c.Shards := slotF_bd _ _ h
set_option maxHeartbeats 400000 in
set_option maxRecDepth 100000 in
theorem rset_c (c : Cfg) (t : List Int) (k : ByteArray) (w : World) (h : RCfg w c t) (hk : k.size ≤ 9223372036854775807) : Calls Try.prog 88 #[c.val, .string k] w (RetOwn intF 1 3 (setF c t k) w) := by
  have H := Lib.hid h
  obtain ⟨h1, h2⟩ := homeF_bd c t k h.shards.1
  have h3 := h.shards
  clear h
  go_enter Try.func88, Try.ntmps88
  go_upto_region 3 with (first | (refine box_cfg rfl _ rfl c rfl ?_; intro w1 B1 G1 z1) | (refine load_cfg rfl _ rfl _ rfl c (by assumption) ?_) | (go_at_call 82; refine (rroutes_c c t _ (H.out.same G1)).mono ?_; rintro e w2 ⟨rfl, G2⟩))
  have G := grownBy_trans G1 G2
  obtain ⟨r1, r2, r3⟩ := (B1.same G2).re
  have r4 := call_re (w := w2) fun w' hg => rhome_c c t k w' (H.out.same (grownBy_trans G hg)) hk
  (refine Tail.wp_region_tail_grown 4 (by kernel_rfl) (by kernel_rfl) ?_; simp only [List.take, List.drop]; (repeat (go_big_quiet_step (with_reducible exact r4 _ _))); refine wpQuiet_nil ?_; rintro _ ⟨⟨d5, os5⟩, rfl⟩)
  have G5 := grownBy_trans G (grown_re w2 d5 os5)
  clear r1 r2 r3 r4
  generalize Go.Sort.grow (redrawn w2 d5) os5 = w5 at *
  go_wp2_with (go_at_call 87; refine (after_c c _ _ h3 H.out.spread ⟨h1, by omega⟩).mono ?_; rintro e w6 ⟨v, rfl, o6, G6⟩)
  go_ret
  exact ⟨v, rfl, o6.base (fun k hk => Nat.le_trans G5.size (o6.lt k hk).1), grownBy_trans G5 G6⟩

theorem slice_arr8 (ar k : Nat) (hk : k ≤ 8) (w : World) : (Instr.sliceAt 130 (.pointer (some ⟨ar, 0, none⟩)) none (some (.int .i64 k)) (some (.int .i64 k))).run Try.prog w = .ok (.slice (some ⟨ar, 0, none⟩) k k) w := by
  have e : Try.prog.arrayLen 130 = 8 := by kernel_rfl
  have e2 : Try.prog.elem 130 = 3 := by kernel_rfl
  have := run_sliceAt_array_hm (P := Try.prog) w 130 ⟨ar, 0, none⟩ (by rw [e, e2]; exact Try.underlying130) .i64 .i64 (k : Int) k (by omega) (by omega) (by rw [e]; omega)
  rw [this, e2]
  simp only [go_sem]
  simp
theorem eightA_get {l : List Int} (h : l.length < 8) : (eightA l)[l.length]? = some (.int .i64 0) := by
  unfold eightA
  obtain ⟨m, hm⟩ : ∃ m, 8 - l.length = m + 1 := ⟨7 - l.length, by omega⟩
  simp [hm, List.replicate_succ]
theorem eightA_set {l : List Int} (h : l.length < 8) (x : Int) : (eightA l).setIfInBounds l.length (.int .i64 x) = eightA (l ++ [x]) := by
  unfold eightA
  obtain ⟨m, hm⟩ : ∃ m, 8 - l.length = m + 1 := ⟨7 - l.length, by omega⟩
  have hm2 : 8 - (l ++ [x]).length = m := by simp; omega
  rw [hm, hm2, List.replicate_succ]
  simp
theorem eightA_rd {w : World} {ar : Nat} {l : List Int} {t : TypeId} {f : Nat × Nat} (h : w.heap[ar]? = some (.cells (eightA l) t f)) (hl : l.length ≤ 8) (c : Nat) : RdL intF 1 w (.slice (some ⟨ar, 0, none⟩) l.length c) l := by
  refine ⟨length_cellsOf _ 1 intF_len _, by omega, .inr ⟨ar, 0, c, rfl, (Array.getElem?_eq_some_iff.1 h).1, fun j u hu => ?_⟩⟩
  rw [cells_intF] at hu
  have hj : j < l.length := by have := (List.getElem?_eq_some_iff.1 hu).1; simpa using this
  simp only [World.cell?, h, Nat.zero_add, eightA]
  simp only [List.getElem?_toArray, List.map_append]
  rw [List.getElem?_append_left (by simpa using hj)]; simpa using hu

set_option maxHeartbeats 400000 in
set_option maxRecDepth 100000 in
theorem set_c (c : Cfg) (t : List Int) (k : ByteArray) (w : World) (h : RCfg w c t) (hk : k.size ≤ 9223372036854775807) : Calls Try.prog 31 #[c.val, .string k] w (RetRd intF 1 (setF c t k) w) := by
  have H := Lib.hid h
  obtain ⟨h1, h2⟩ := homeF_bd c t k h.shards.1
  obtain ⟨h3, h4⟩ := h.shards
  obtain ⟨h5, h6⟩ := h.spread
  obtain ⟨N, hN⟩ : ∃ N, c.Spread.toNat = N := ⟨_, rfl⟩
  have hN1 : c.Spread ≤ N := by omega
  have hN2 : N ≤ 8 := by omega
  have hN3 : ∀ k : Nat, k ≤ N → c.Spread ≤ (k : Int) → k = N := by omega
  have HN := Lib.hid hN3
  have hF : setF c t k = setN (homeF c t k) c.Shards N := by unfold setF; rw [hN]
  have HSp := Lib.hid (p := c.Spread = (N : Int)) (by omega)
  rw [hF]
  clear h hF hN hN3
  go_enter Try.func31, Try.ntmps31
  go_upto_region 4 with (first | (refine box_cfg rfl _ rfl c rfl ?_; intro w1 B1 G1 z1) | (refine load_cfg rfl _ rfl _ rfl c (by assumption) ?_) | (go_at_call 71; refine (rcheck_c c t _ (H.out.same G1)).mono ?_; rintro e w2 ⟨rfl, G2⟩))
  have hA : (w2.alloc (.cells (eightA []) 130)).heap[w2.heap.size]? = some (.cells (eightA []) 130) := heap_alloc_new w2 _
  have B2 : BoxAt (w2.alloc (.cells (eightA []) 130)) w.heap.size c := (B1.same G2).same (World.grownBy_alloc _ _ _)
  have K2 : w.grownBy (w2.alloc (.cells (eightA []) 130)) none := grownBy_trans G1 (grownBy_trans G2 (World.grownBy_alloc _ _ _))
  have z2 : w.heap.size < w2.heap.size := Nat.lt_of_lt_of_le z1 G2.size
  have z3 : w2.heap.size < (w2.alloc (.cells (eightA []) 130)).heap.size := by simp
  obtain ⟨ar, har⟩ : ∃ ar, ar = w2.heap.size := ⟨_, rfl⟩
  rw [← har] at hA z2 z3
  have e8 : eightA [] = #[.int .i64 0, .int .i64 0, .int .i64 0, .int .i64 0, .int .i64 0, .int .i64 0, .int .i64 0, .int .i64 0] := rfl
  rw [e8] at hA B2 K2 z3
  rw [← har]
  generalize w2.alloc (.cells #[.int .i64 0, .int .i64 0, .int .i64 0, .int .i64 0, .int .i64 0, .int .i64 0, .int .i64 0, .int .i64 0] 130) = wa at *
  clear har G1 G2 B1 z1 e8
  go_upto_region 6 with (first | (refine load_cfg rfl _ rfl _ rfl c (by assumption) ?_) | (go_at_call 72; refine (home_c c t k _ (H.out.same K2) hk).mono ?_; rintro e w3 ⟨rfl, G3⟩; have B3 := B2.same G3; have b3 := B3.cell; have A3 := (G3.block ar z3 (by simp)).trans hA; have K3 := grownBy_trans K2 G3; have z4 := Nat.lt_of_lt_of_le z3 G3.size))
  clear hA B2 K2 z3 G3 b3
  generalize homeF c t k = h at *
  go_loopw [7, 16] (fun s7 s16 wr => ∃ k : Nat, k ≤ N ∧ s16 = .int .i64 k ∧ wr.heap[ar]? = some (.cells (eightA (setN h c.Shards k)) 130) ∧ BoxAt wr w.heap.size c ∧ w.grownBy wr none) (fun _ s16 _ => N - (intOf s16).toNat)
  case atStart => exact ⟨0, Nat.zero_le _, rfl, A3, B3, K3⟩
  case round =>
    obtain ⟨k, hk, rfl, hA, hB, hg⟩ := hrel
    clear A3 B3 K3
    have b1 := hB.cell
    have hrl := setN_len h c.Shards k
    by_cases hlt : (k : Int) < c.Spread
    · have hk8 : k < 8 := by omega
      have HS := Lib.hid (setN_succ h c.Shards k)
      have hz : (c.Shards == 0) = false := beq_eq_false_iff_ne.2 (by omega)
      have ck : wr.cell? ⟨ar, k, none⟩ = some (.int .i64 0) := by
        have := eightA_get (l := setN h c.Shards k) (by omega)
        rw [hrl] at this
        simp only [World.cell?, hA]; exact this
      have fk : wr.frozen? ⟨ar, k, none⟩ = false := by simp [World.frozen?, hA]
      have HA := Lib.hid hA
      have HB := Lib.hid hB
      have Hrl := Lib.hid hrl
      have hk0 : (0 : Int) ≤ (k : Int) := by omega
      have hk7 : (k : Int) < 8 := by omega
      clear hA hB hrl
      go_wp2_with fail
      refine ⟨⟨k + 1, by omega, by go_num, ?_, HB.out.kept (grownBy_set (grownBy_refl wr (some ar)) k _) (by simp; omega), grownBy_setNew hg (by simp; omega) _⟩, by simp [intOf]; omega⟩
      rw [heap_set _ HA.out, HS.out]
      have := eightA_set (l := setN h c.Shards k) (by rw [Hrl.out]; exact hk8) ((h + k) % c.Shards)
      rw [Hrl.out] at this
      rw [this]
    · obtain rfl : k = N := HN.out k hk (by omega)
      have hSp : c.Spread = (k : Int) := HSp.out
      have hsl := slice_arr8 ar k hN2
      have HA := Lib.hid hA
      clear hk HN hN1 hlt h6 h5 hA
      go_wp2_with fail
      go_ret
      refine ⟨_, rfl, ?_, hg⟩
      have := eightA_rd HA.out (by rw [hrl]; exact hN2) k
      rw [hrl] at this
      exact this
end Go.Proofs.Ytiagjiaahnkefaa

/- Estimates of a sketch's rows. -/
namespace Go.Proofs.Ytiagjiaahnkefaa
open Go.RowKit
attribute [local go_sem ↓] exec_load_cfg
attribute [local go_sem] run_loadCfgS

/-- Rows of words. -/
structure RowsRd (w : World) (v : Value) (vs : List Value) (rows : List (List Int)) : Prop where
  rd : RdL valF 1 w v vs
  len : vs.length = rows.length
  all : ∀ (i : Nat) u row, vs[i]? = some u → rows[i]? = some row → RdL wordF 1 w u row
theorem RowsRd.same {w w' : World} {v : Value} {vs : List Value} {rows : List (List Int)} (h : RowsRd w v vs rows) (hg : w.grownBy w' none) : RowsRd w' v vs rows :=
  ⟨h.rd.same hg, h.len, fun i u row h1 h2 => (h.all i u row h1 h2).same hg⟩
theorem SumRd.rowsRd {w : World} {s : Summ} (h : SumRd w s) : RowsRd w s.vr s.vs s.rows := ⟨h.vs, h.len, h.rows⟩
/-- No row is empty, all numbers have 64 bits. -/
def RowsOk (rows : List (List Int)) : Prop := ∀ row ∈ rows, (0 < row.length ∧ row.length ≤ 4096) ∧ ∀ x ∈ row, W64 x

def cellF (t : List Int) (s : Int) (k : ByteArray) (i : Nat) (row : List Int) : Int := row.getD (slotF (hashF t (seedF s i) k) row.length).toNat 0
def estI (t : List Int) (s : Int) (k : ByteArray) (rows : List (List Int)) : Nat → Int
  | 0 => 18446744073709551615
  | n + 1 => min (estI t s k rows n) (cellF t s k n (rows.getD n []))
def estF (t : List Int) (s : Int) (k : ByteArray) (rows : List (List Int)) : Int := estI t s k rows rows.length
theorem w64_getD {l : List Int} (h : ∀ x ∈ l, W64 x) (i : Nat) : W64 (l.getD i 0) := by
  rw [List.getD_eq_getElem?_getD]
  cases hi : l[i]? with
  | none => exact w64_0
  | some x => exact h x (List.mem_of_getElem? hi)
theorem w64_most : W64 18446744073709551615 := ⟨by omega, by omega⟩
theorem w64_min {a b : Int} (h : W64 a) (h' : W64 b) : W64 (min a b) := by unfold W64 at *; omega
theorem w64_est {t : List Int} {s : Int} {k : ByteArray} {rows : List (List Int)} (h : RowsOk rows) (n : Nat) : W64 (estI t s k rows n) := by
  induction n with
  | zero => exact w64_most
  | succ n ih =>
    refine w64_min ih ?_
    unfold cellF
    refine w64_getD (fun x hx => ?_) _
    rw [List.getD_eq_getElem?_getD] at hx
    cases hi : rows[n]? with
    | none => rw [hi] at hx; simp at hx
    | some row => rw [hi] at hx; exact (h row (List.mem_of_getElem? hi)).2 x hx

set_option maxHeartbeats 1000000 in
set_option maxRecDepth 100000 in
theorem cmOf_c (v : Value) (vs : List Value) (rows : List (List Int)) (tv : Value) (t : List Int) (s : Int) (k : ByteArray) (w : World) (h : RowsRd w v vs rows) (ho : RowsOk rows) (hn : 0 < rows.length) (hn2 : rows.length ≤ 1000)
    (ht : RdL wordF 1 w tv t) (htl : t.length = 16) (hs : W64 s) (hk : k.size ≤ 9223372036854775807) :
    Calls Try.prog 106 #[v, tv, .int .u64 s, .string k] w (RetWord (estF t s k rows) w) := by
  obtain ⟨a, c, rfl⟩ := h.rd.shape
  obtain ⟨ta, tc, rfl⟩ := ht.shape
  rw [htl] at ht ⊢
  have H := Lib.hid h
  have HT := Lib.hid ht
  have hlen := h.len
  have Hlen := Lib.hid hlen
  have Hf := Lib.hid (p := estF t s k rows = estI t s k rows rows.length) rfl
  have hnv : 0 < vs.length := by omega
  have hnv2 : vs.length ≤ 1000 := by omega
  have hz : ((vs.length : Int) == 0) = false := beq_eq_false_iff_ne.2 (by omega)
  clear h ht hlen
  go_enter Try.func106, Try.ntmps106
  go_wp2_with (go_at_call 103; refine (hcheck_c ta tc _).mono ?_; rintro e w' ⟨rfl, rfl⟩)
  go_loopw [9, 23] (fun s9 s23 wr => ∃ i : Nat, i ≤ vs.length ∧ s23 = .int .i64 i ∧ s9 = .int .u64 (estI t s k rows i) ∧ w.grownBy wr none) (fun _ s23 _ => vs.length - (intOf s23).toNat)
  case atStart => exact ⟨0, Nat.zero_le _, rfl, rfl, grownBy_refl _ _⟩
  case round =>
    obtain ⟨i, hi, rfl, rfl, hg⟩ := hrel
    by_cases hiv : i < vs.length
    · have hlt : i < rows.length := by have := Hlen.out; omega
      obtain ⟨g, off, cap, hv, hgl, c1⟩ := (H.out.same hg).rd.one val_one hiv
      have hrow := ho _ (List.getElem_mem hlt)
      have hR := (H.out.same hg).all i vs[i] rows[i] (List.getElem?_eq_getElem hiv) (List.getElem?_eq_getElem hlt)
      have HE := Lib.hid (p := estI t s k rows (i + 1) = min (estI t s k rows i) (cellF t s k i rows[i])) (by simp [estI, List.getD_eq_getElem?_getD, List.getElem?_eq_getElem hlt])
      generalize vs[i] = u at *
      generalize rows[i] = row at *
      obtain ⟨ra, rc, rfl⟩ := hR.shape
      obtain ⟨⟨hr0, hr1⟩, _⟩ := hrow
      obtain ⟨hb0, hb1⟩ := slotF_bd (hashF t (seedF s i) k) row.length (by omega)
      have hb2 : (slotF (hashF t (seedF s i) k) row.length).toNat < row.length := by omega
      obtain ⟨rg, roff, rcap, rv, hrg, c2⟩ := hR.one word_one hb2
      have HC := Lib.hid (p := cellF t s k i row = row[(slotF (hashF t (seedF s i) k) row.length).toNat]) (by simp [cellF, List.getD_eq_getElem?_getD, List.getElem?_eq_getElem hb2])
      cases rv
      have hw1 := w64_hash t (seedF s i) k
      cases hv
      generalize row[(slotF (hashF t (seedF s i) k) row.length).toNat] = y at *
      generalize hhe : hashF t (seedF s i) k = hh at *
      have Hhe := Lib.hid hhe
      clear hhe
      generalize hqe : slotF hh row.length = q at *
      have Hqe := Lib.hid hqe
      clear hqe
      go_upto_region 9 with fail
      go_wp2_with (first | (go_at_call 122; refine (hrow_c _ t s i k _ (HT.out.same hg) htl hs (by omega) (by omega) hk).mono ?_; rw [Hhe.out]; rintro e w2 ⟨rfl, G2⟩; have c3 := ((grownBy_cells G2).1 rg (roff + q.toNat) hrg (by simp)).trans c2) | (go_at_call 104; refine (slot_c hh row.length _ hw1 (by omega) (by omega)).mono ?_; rw [Hqe.out]; rintro e w' ⟨rfl, rfl⟩))
      exact ⟨⟨i + 1, by omega, by go_num, by rw [HE.out, HC.out], grownBy_trans hg G2⟩, by simp [intOf]; omega⟩
    · have he : estI t s k rows i = estF t s k rows := by rw [Hf.out]; congr 1; have := Hlen.out; omega
      rw [he]
      clear he
      go_wp2_with fail
      go_ret
      exact retWord rfl hg
set_option maxHeartbeats 1000000 in
set_option maxRecDepth 100000 in
theorem rEst_c (v : Value) (vs : List Value) (rows : List (List Int)) (tv : Value) (t : List Int) (s : Int) (k : ByteArray) (w : World) (h : RowsRd w v vs rows) (ho : RowsOk rows) (hn : 0 < rows.length) (hn2 : rows.length ≤ 1000)
    (ht : RdL wordF 1 w tv t) (htl : t.length = 16) (hs : W64 s) (hk : k.size ≤ 9223372036854775807) :
    Calls Try.prog 138 #[v, tv, .int .u64 s, .string k] w (RetWord (estF t s k rows) w) := by
  obtain ⟨a, c, rfl⟩ := h.rd.shape
  obtain ⟨ta, tc, rfl⟩ := ht.shape
  rw [htl] at ht ⊢
  have H := Lib.hid h
  have HT := Lib.hid ht
  have hlen := h.len
  have Hlen := Lib.hid hlen
  have Hf := Lib.hid (p := estF t s k rows = estI t s k rows rows.length) rfl
  have hnv : 0 < vs.length := by omega
  have hnv2 : vs.length ≤ 1000 := by omega
  have hz : ((vs.length : Int) == 0) = false := beq_eq_false_iff_ne.2 (by omega)
  clear h ht hlen
  go_enter Try.func138, Try.ntmps138
  go_wp2_with (go_at_call 110; refine (rtable_c ta tc _).mono ?_; rintro e w' ⟨rfl, rfl⟩)
  go_loopw [9, 22] (fun s9 s22 wr => ∃ i : Nat, i ≤ vs.length ∧ s22 = .int .i64 i ∧ s9 = .int .u64 (estI t s k rows i) ∧ w.grownBy wr none) (fun _ s22 _ => vs.length - (intOf s22).toNat)
  case atStart => exact ⟨0, Nat.zero_le _, rfl, rfl, grownBy_refl _ _⟩
  case round =>
    obtain ⟨i, hi, rfl, rfl, hg⟩ := hrel
    by_cases hiv : i < vs.length
    · have hlt : i < rows.length := by have := Hlen.out; omega
      obtain ⟨g, off, cap, hv, hgl, c1⟩ := (H.out.same hg).rd.one val_one hiv
      have hrow := ho _ (List.getElem_mem hlt)
      have hR := (H.out.same hg).all i vs[i] rows[i] (List.getElem?_eq_getElem hiv) (List.getElem?_eq_getElem hlt)
      have HE := Lib.hid (p := estI t s k rows (i + 1) = min (estI t s k rows i) (cellF t s k i rows[i])) (by simp [estI, List.getD_eq_getElem?_getD, List.getElem?_eq_getElem hlt])
      generalize vs[i] = u at *
      generalize rows[i] = row at *
      obtain ⟨ra, rc, rfl⟩ := hR.shape
      obtain ⟨⟨hr0, hr1⟩, _⟩ := hrow
      have hrz : ((row.length : Int) == 0) = false := beq_eq_false_iff_ne.2 (by omega)
      obtain ⟨hb0, hb1⟩ := slotF_bd (hashF t (seedF s i) k) row.length (by omega)
      have hb2 : (slotF (hashF t (seedF s i) k) row.length).toNat < row.length := by omega
      obtain ⟨rg, roff, rcap, rv, hrg, c2⟩ := hR.one word_one hb2
      have HC := Lib.hid (p := cellF t s k i row = row[(slotF (hashF t (seedF s i) k) row.length).toNat]) (by simp [cellF, List.getD_eq_getElem?_getD, List.getElem?_eq_getElem hb2])
      cases rv
      have hw1 := w64_hash t (seedF s i) k
      cases hv
      generalize row[(slotF (hashF t (seedF s i) k) row.length).toNat] = y at *
      generalize hhe : hashF t (seedF s i) k = hh at *
      have Hhe := Lib.hid hhe
      clear hhe
      generalize hqe : slotF hh row.length = q at *
      have Hqe := Lib.hid hqe
      clear hqe
      go_upto_region 9 with fail
      go_wp2_with (first | (go_at_call 147; refine (rrow_c _ t s i k _ (HT.out.same hg) htl hs (by omega) (by omega) hk).mono ?_; rw [Hhe.out]; rintro e w2 ⟨rfl, G2⟩; have c3 := ((grownBy_cells G2).1 rg (roff + q.toNat) hrg (by simp)).trans c2) | (go_at_call 136; refine (rslot_c hh row.length _ hw1 (by omega) (by omega)).mono ?_; rw [Hqe.out]; rintro e w' ⟨rfl, rfl⟩))
      exact ⟨⟨i + 1, by omega, by go_num, by rw [HE.out, HC.out], grownBy_trans hg G2⟩, by simp [intOf]; omega⟩
    · have he : estI t s k rows i = estF t s k rows := by rw [Hf.out]; congr 1; have := Hlen.out; omega
      rw [he]
      clear he
      go_wp2_with fail
      go_ret
      exact retWord rfl hg

def sEstF (c : Cfg) (t : List Int) (s : Summ) (k : ByteArray) : Int := if s.rows.length = 0 then s.total else estF t c.Seed k s.rows
theorem w64_sEst {c : Cfg} {t : List Int} {s : Summ} (h : W64 s.total) (ho : RowsOk s.rows) (k : ByteArray) : W64 (sEstF c t s k) := by
  unfold sEstF; split
  · exact h
  · exact w64_est ho _

set_option maxHeartbeats 400000 in
set_option maxRecDepth 100000 in
theorem sest_c (c : Cfg) (t : List Int) (s : Summ) (k : ByteArray) (w : World) (h : RCfg w c t) (hR : SumRd w s) (ho : RowsOk s.rows) (hn : s.rows.length ≤ 1000) (hk : k.size ≤ 9223372036854775807) :
    Calls Try.prog 77 #[c.val, sumV s.total s.ve s.untr s.vr, .string k] w (RetWord (sEstF c t s k) w) := by
  obtain ⟨tot, ve, un, vr, es, vs, rows⟩ := s
  obtain ⟨a1, k1, e1⟩ := hR.es.shape
  obtain ⟨a2, k2, e2⟩ := hR.vs.shape
  have hlen := hR.len
  simp only at hlen e1 e2 hn ho ⊢
  subst e1
  subst e2
  have H := Lib.hid h
  have HR := Lib.hid hR.rowsRd
  have hs := h.seed
  have htl := h.tlen
  obtain ⟨ta, tk, hta⟩ := h.shape
  have Hta := Lib.hid hta
  by_cases h0 : rows.length = 0
  · have hx : sEstF c t ⟨tot, .slice a1 es.length k1, un, .slice a2 vs.length k2, es, vs, rows⟩ k = tot := by unfold sEstF; rw [if_pos h0]
    have hz : ((vs.length : Int) == 0) = true := by rw [beq_iff_eq]; omega
    have Hx := Lib.hid hx
    clear hx h0 hlen hR h htl hta
    go_enter Try.func77, Try.ntmps77
    go_wp2_with (refine box_cfg rfl _ rfl c rfl ?_; intro w1 B1 G1 z1)
    go_ret
    exact retWord Hx.out (grownBy_new_block G1 _)
  · have hx : sEstF c t ⟨tot, .slice a1 es.length k1, un, .slice a2 vs.length k2, es, vs, rows⟩ k = estF t c.Seed k rows := by unfold sEstF; rw [if_neg h0]
    have hz : ((vs.length : Int) == 0) = false := beq_eq_false_iff_ne.2 (by omega)
    have Hx := Lib.hid hx
    have Hlen := Lib.hid hlen
    have Htl := Lib.hid htl
    clear hx hlen hR h htl hta
    go_enter Try.func77, Try.ntmps77
    go_wp2_with (first | (refine box_cfg rfl _ rfl c rfl ?_; intro w1 B1 G1 z1; have b2 := fun o => (B1.same (World.grownBy_alloc w1 o none)).cell) | (go_at_call 106; refine (cmOf_c _ vs rows c.Table t c.Seed k _ (HR.out.same (grownBy_new_block G1 _)) ho (by omega) hn (H.out.same (grownBy_new_block G1 _)).table Htl.out hs hk).mono ?_; rintro e w3 ⟨rfl, G3⟩))
    go_ret
    exact retWord Hx.out (grownBy_trans (grownBy_new_block G1 _) G3)

set_option maxHeartbeats 400000 in
set_option maxRecDepth 100000 in
theorem rsest_c (c : Cfg) (t : List Int) (s : Summ) (k : ByteArray) (w : World) (h : RCfg w c t) (hR : SumRd w s) (ho : RowsOk s.rows) (hn : s.rows.length ≤ 1000) (hk : k.size ≤ 9223372036854775807) :
    Calls Try.prog 117 #[c.val, sumV s.total s.ve s.untr s.vr, .string k] w (RetWord (sEstF c t s k) w) := by
  obtain ⟨tot, ve, un, vr, es, vs, rows⟩ := s
  obtain ⟨a1, k1, e1⟩ := hR.es.shape
  obtain ⟨a2, k2, e2⟩ := hR.vs.shape
  have hlen := hR.len
  simp only at hlen e1 e2 hn ho ⊢
  subst e1
  subst e2
  have H := Lib.hid h
  have HR := Lib.hid hR.rowsRd
  have hs := h.seed
  have htl := h.tlen
  obtain ⟨ta, tk, hta⟩ := h.shape
  have Hta := Lib.hid hta
  by_cases h0 : rows.length = 0
  · have hx : sEstF c t ⟨tot, .slice a1 es.length k1, un, .slice a2 vs.length k2, es, vs, rows⟩ k = tot := by unfold sEstF; rw [if_pos h0]
    have hz : ((vs.length : Int) == 0) = true := by rw [beq_iff_eq]; omega
    have Hx := Lib.hid hx
    clear hx h0 hlen hR h htl hta
    go_enter Try.func117, Try.ntmps117
    go_wp2_with (refine box_cfg rfl _ rfl c rfl ?_; intro w1 B1 G1 z1)
    go_ret
    exact retWord Hx.out (grownBy_new_block G1 _)
  · have hx : sEstF c t ⟨tot, .slice a1 es.length k1, un, .slice a2 vs.length k2, es, vs, rows⟩ k = estF t c.Seed k rows := by unfold sEstF; rw [if_neg h0]
    have hz : ((vs.length : Int) == 0) = false := beq_eq_false_iff_ne.2 (by omega)
    have Hx := Lib.hid hx
    have Hlen := Lib.hid hlen
    have Htl := Lib.hid htl
    clear hx hlen hR h htl hta
    go_enter Try.func117, Try.ntmps117
    go_wp2_with (first | (refine box_cfg rfl _ rfl c rfl ?_; intro w1 B1 G1 z1; have b2 := fun o => (B1.same (World.grownBy_alloc w1 o none)).cell) | (go_at_call 138; refine (rEst_c _ vs rows c.Table t c.Seed k _ (HR.out.same (grownBy_new_block G1 _)) ho (by omega) hn (H.out.same (grownBy_new_block G1 _)).table Htl.out hs hk).mono ?_; rintro e w3 ⟨rfl, G3⟩))
    go_ret
    exact retWord Hx.out (grownBy_trans (grownBy_new_block G1 _) G3)
end Go.Proofs.Ytiagjiaahnkefaa

/- Bounds of a key in a summary. -/
namespace Go.Proofs.Ytiagjiaahnkefaa
open Go.RowKit
attribute [local go_sem ↓] exec_load_cfg
attribute [local go_sem] run_loadCfgS

def keyEq (k : ByteArray) (e : Ent) : Bool := e.key.toList == k.toList
theorem fn1_c (e : Ent) (k : ByteArray) (b : Nat) (w : World) (hb : w.cell? ⟨b, 0, none⟩ = some (.string k)) (hlt : b < w.heap.size) : Calls Try.prog 74 #[entV e.key e.own e.slack, .pointer (some ⟨b, 0, none⟩)] w (RetBool (keyEq k e) w) := by
  go_enter Try.func74, Try.ntmps74
  go_wp2
  go_ret
  exact retBool rfl (grownBy_new_block (grownBy_refl _ _) _)

/-- i is the place of a key among entries, or -1. -/
def IdxP (es : List Ent) (k : ByteArray) (i : Int) : Prop := (i = -1 ∧ es.find? (keyEq k) = none) ∨ ∃ n : Nat, i = n ∧ ∃ h : n < es.length, es.find? (keyEq k) = some es[n]
theorem idx_none {es : List Ent} {k : ByteArray} (h : ∀ j, (hj : j < es.length) → keyEq k es[j] = false) : es.find? (keyEq k) = none := by
  rw [List.find?_eq_none]
  intro x hx
  obtain ⟨j, hj, rfl⟩ := List.mem_iff_getElem.1 hx
  simp [h j hj]
theorem idx_some {es : List Ent} {k : ByteArray} {n : Nat} (hn : n < es.length) (h : ∀ j, (hj : j < n) → keyEq k (es[j]'(by omega)) = false) (hk : keyEq k es[n] = true) : es.find? (keyEq k) = some es[n] := by
  rw [List.find?_eq_some_iff_getElem]
  exact ⟨hk, n, hn, rfl, fun j hj => by simp [h j hj]⟩
theorem RdL.ent {w : World} {v : Value} {l : List Ent} (h : RdL entF 3 w v l) {k : Nat} (hk : k < l.length) : ∃ g off cap, v = .slice (some ⟨g, off, none⟩) l.length cap ∧ g < w.heap.size ∧
    w.cell? ⟨g, off + k * 3, none⟩ = some (.string l[k].key) ∧ w.cell? ⟨g, off + k * 3 + 1, none⟩ = some (.int .u64 l[k].own) ∧ w.cell? ⟨g, off + k * 3 + 2, none⟩ = some (.int .u64 l[k].slack) := by
  obtain ⟨g, off, cap, hv, hg, hc⟩ := h.at_ entF_len hk
  exact ⟨g, off, cap, hv, hg, hc 0 _ rfl, hc 1 _ rfl, hc 2 _ rfl⟩
def IdxPost (es : List Ent) (k : ByteArray) (w : World) (e : Ending) (w' : World) : Prop := ∃ i : Int, e = .returned (.int .i64 i) ∧ IdxP es k i ∧ w.grownBy w' none
set_option maxHeartbeats 400000 in
theorem idxFn_c (a : Option Addr) (cp : Nat) (es : List Ent) (k : ByteArray) (kb : Nat) (w : World) (h : RdL entF 3 w (.slice a es.length cp) es) (hb : w.cell? ⟨kb, 0, none⟩ = some (.string k)) (hlt : kb < w.heap.size) :
    Calls Try.prog 73 #[.slice a es.length cp, .func (Fn.func 74) #[] #[.pointer (some ⟨kb, 0, none⟩)]] w (IdxPost es k w) := by
  have H := Lib.hid h
  have hm := h.2.1
  have Hb := Lib.hid hb
  clear h hb
  go_enter Try.func73, Try.ntmps73
  go_wp2_with fail
  go_loopw [8] (fun s8 wr => ∃ j : Nat, j ≤ es.length ∧ s8 = .int .i64 j ∧ (∀ i, (hi : i < es.length) → i < j → keyEq k es[i] = false) ∧ w.grownBy wr none) (fun s8 _ => es.length - (intOf s8).toNat)
  case atStart => exact ⟨0, Nat.zero_le _, rfl, by intro i _ h; omega, grownBy_refl _ _⟩
  case round =>
    obtain ⟨j, hj, rfl, hall, hg⟩ := hrel
    have Hall := Lib.hid hall
    clear hall
    by_cases hjl : j < es.length
    · obtain ⟨g, off, cap, hv, hgl, c0, c1, c2⟩ := (H.out.same hg).ent hjl
      cases hv
      have hkb : wr.cell? ⟨kb, 0, none⟩ = some (.string k) := ((grownBy_cells hg).1 kb 0 hlt (by simp)).trans Hb.out
      have hkl := Nat.lt_of_lt_of_le hlt hg.size
      cases hq : keyEq k es[j]
      · have Hq := Lib.hid hq
        have hf := fn1_c es[j] k kb wr hkb hkl
        rw [hq] at hf
        clear hq hkb
        generalize hee : es[j] = en at hf c0 c1 c2
        clear hee
        go_wp2_with (go_at_call 74; refine hf.mono ?_; rintro e w2 ⟨rfl, G2⟩)
        refine ⟨⟨j + 1, by omega, by go_num, ?_, grownBy_trans hg G2⟩, by simp [intOf]; omega⟩
        intro i hi hij
        by_cases e : i = j
        · subst e; exact Hq.out
        · exact Hall.out i hi (by omega)
      · have Hq := Lib.hid (idx_some hjl (fun i hi => Hall.out i (by omega) hi) hq)
        have hf := fn1_c es[j] k kb wr hkb hkl
        rw [hq] at hf
        clear hq hkb
        generalize hee : es[j] = en at hf c0 c1 c2
        clear hee
        go_wp2_with (go_at_call 74; refine hf.mono ?_; rintro e w2 ⟨rfl, G2⟩)
        go_ret
        exact ⟨_, rfl, .inr ⟨j, rfl, hjl, Hq.out⟩, grownBy_trans hg G2⟩
    · have Hq := Lib.hid (idx_none (k := k) fun i hi => Hall.out i hi (by omega))
      go_wp2_with fail
      go_ret
      exact ⟨_, rfl, .inl ⟨rfl, Hq.out⟩, hg⟩

def bndE (es : List Ent) (un : Int) (k : ByteArray) : Int × Int := match es.find? (keyEq k) with
  | some e => (e.own, satA e.own e.slack)
  | none => (0, un)
def bndHas (es : List Ent) (k : ByteArray) : Bool := (es.find? (keyEq k)).isSome
def boundsV (c : Cfg) (t : List Int) (s : Summ) (k : ByteArray) : Value :=
  .tuple #[bndV (min (bndE s.es s.untr k).1 (sEstF c t s k)) (min (bndE s.es s.untr k).2 (sEstF c t s k)), .bool (bndHas s.es k)]
set_option maxHeartbeats 1000000 in
set_option maxRecDepth 100000 in
theorem bounds_c (c : Cfg) (t : List Int) (s : Summ) (k : ByteArray) (w : World) (h : RCfg w c t) (hR : SumRd w s) (hW : SumW s) (ho : RowsOk s.rows) (hn : s.rows.length ≤ 1000) (hk : k.size ≤ 9223372036854775807) :
    Calls Try.prog 32 #[c.val, sumV s.total s.ve s.untr s.vr, .string k] w (RetVal (boundsV c t s k) w) := by
  have Hest := Lib.hid fun w' hg => sest_c c t s k w' (h.same hg) (hR.same hg) ho hn hk
  have hwe := w64_sEst (c := c) (t := t) hW.total ho k
  unfold boundsV
  generalize sEstF c t s k = est at *
  obtain ⟨tot, ve, un, vr, es, vs, rows⟩ := s
  obtain ⟨a1, k1, e1⟩ := hR.es.shape
  obtain ⟨a2, k2, e2⟩ := hR.vs.shape
  simp only at e1 e2 hn ho Hest ⊢
  subst e1
  subst e2
  have HE := Lib.hid hR.es
  have HW := Lib.hid hW.es
  have hwu := hW.untr
  clear hR hW ho hn h
  go_enter Try.func32, Try.ntmps32
  go_upto_region 2 with (refine box_cfg rfl _ rfl c rfl ?_; intro w1 B1 G1 z1)
  go_wp2_with fail
  refine (idxFn_c a1 k1 es k (w1.heap.size + 1) _ (HE.out.same ?_) ?_ ?_).mono ?_
  · (repeat (first | exact grownBy_refl _ _ | assumption | refine grownBy_new_block ?_ _ | refine grownBy_drew ?_ | refine grownBy_drewN ?_ _ | refine grownBy_setNew ?_ (by first | (simp; done) | omega | (simp; omega)) _))
  · exact Blk.cell (cs := #[.string k]) (by repeat (first | exact Blk.new' _ _ _ (by simp) | refine Blk.same ?_ (World.grownBy_alloc _ _ _) | refine Blk.drew ?_ _ | refine Blk.drew1 ?_ | refine Blk.set_ (by assumption) _ _ rfl | refine Blk.off ?_ (by first | omega | (simp; done) | (simp; omega)) _ _ | assumption)) 0
  · simp
  rintro e w2 ⟨i, rfl, hi, G2⟩
  have BS : Blk w2 w1.heap.size #[.int .u64 tot, .slice a1 es.length k1, .int .u64 un, .slice a2 vs.length k2] := Blk.same (by repeat (first | exact Blk.new' _ _ _ (by simp) | refine Blk.same ?_ (World.grownBy_alloc _ _ _) | refine Blk.drew ?_ _ | refine Blk.drew1 ?_ | refine Blk.set_ (by assumption) _ _ rfl | refine Blk.off ?_ (by first | omega | (simp; done) | (simp; omega)) _ _ | assumption)) G2
  have BK : Blk w2 (w1.heap.size + 1) #[.string k] := Blk.same (by repeat (first | exact Blk.new' _ _ _ (by simp) | refine Blk.same ?_ (World.grownBy_alloc _ _ _) | refine Blk.drew ?_ _ | refine Blk.drew1 ?_ | refine Blk.set_ (by assumption) _ _ rfl | refine Blk.off ?_ (by first | omega | (simp; done) | (simp; omega)) _ _ | assumption)) G2
  have BR : Blk w2 (w1.heap.size + 1 + 1) #[.int .u64 0, .int .u64 0] := Blk.same (by repeat (first | exact Blk.new' _ _ _ (by simp) | refine Blk.same ?_ (World.grownBy_alloc _ _ _) | refine Blk.drew ?_ _ | refine Blk.drew1 ?_ | refine Blk.set_ (by assumption) _ _ rfl | refine Blk.off ?_ (by first | omega | (simp; done) | (simp; omega)) _ _ | assumption)) G2
  have BB : Blk w2 (w1.heap.size + 1 + 1 + 1) #[.int .u64 0, .int .u64 un] := Blk.same (by repeat (first | exact Blk.new' _ _ _ (by simp) | refine Blk.same ?_ (World.grownBy_alloc _ _ _) | refine Blk.drew ?_ _ | refine Blk.drew1 ?_ | refine Blk.set_ (by assumption) _ _ rfl | refine Blk.off ?_ (by first | omega | (simp; done) | (simp; omega)) _ _ | assumption)) G2
  have K2 : w.grownBy w2 none := grownBy_trans (by (repeat (first | exact grownBy_refl _ _ | assumption | refine grownBy_new_block ?_ _ | refine grownBy_drew ?_ | refine grownBy_drewN ?_ _ | refine grownBy_setNew ?_ (by first | (simp; done) | omega | (simp; omega)) _))) G2
  have B2 : BoxAt w2 w.heap.size c := B1.same (grownBy_trans (by (repeat (first | exact grownBy_refl _ _ | assumption | refine grownBy_new_block ?_ _ | refine grownBy_drew ?_ | refine grownBy_drewN ?_ _ | refine grownBy_setNew ?_ (by first | (simp; done) | omega | (simp; omega)) _))) G2)
  have z2 : w1.heap.size < w2.heap.size := BS.lt
  clear G1 G2 B1
  generalize w1.heap.size = b at *
  have bs := BS.cell
  go_upto_if 18 with fail
  go_cut [8] (fun s8 wx => s8 = .pointer (some ⟨b + 1 + 1 + 1, 0, none⟩) ∧ Blk wx (b + 1 + 1 + 1) #[.int .u64 (bndE es un k).1, .int .u64 (bndE es un k).2] ∧ Blk wx b #[.int .u64 tot, .slice a1 es.length k1, .int .u64 un, .slice a2 vs.length k2] ∧ Blk wx (b + 1) #[.string k] ∧ Blk wx (b + 1 + 1) #[.int .u64 0, .int .u64 0] ∧ BoxAt wx w.heap.size c ∧ w.grownBy wx none)
  case first =>
    rcases hi with ⟨rfl, hf⟩ | ⟨n, rfl, hn, hf⟩
    · have he : bndE es un k = (0, un) := by unfold bndE; rw [hf]
      have He := Lib.hid he
      clear he
      go_wp2_with fail
      go_meet
      exact ⟨rfl, by rw [He.out]; exact BB, BS, BK, BR, B2, K2⟩
    · have he : bndE es un k = (es[n].own, satA es[n].own es[n].slack) := by unfold bndE; rw [hf]
      have He := Lib.hid he
      obtain ⟨g, off, cap, hv, hgl, c0, c1, c2⟩ := (HE.out.same K2).ent hn
      cases hv
      obtain ⟨hw1, hw2⟩ := HW.out _ (List.getElem_mem hn)
      clear he hf
      generalize es[n] = en at *
      have hn0 : (0 : Int) ≤ (n : Int) := by omega
      have hn1 : (n : Int) < (es.length : Int) := by omega
      go_wp2_with (go_at_call 75; refine (bOf_c en.key en.own en.slack _ hw1 hw2).mono ?_; rintro e w3 ⟨rfl, G3⟩; have B3 := BB.same G3; have b3 := B3.cell; have f3 := B3.free)
      go_meet
      have KS : w.grownBy ((w3.setCell ⟨b + 1 + 1 + 1, 0, none⟩ (.int .u64 en.own)).setCell ⟨b + 1 + 1 + 1, 1, none⟩ (.int .u64 (satA en.own en.slack))) none := grownBy_setNew (grownBy_setNew (grownBy_trans K2 G3) (by simp; omega) _) (by simp; omega) _
      have NS : ∀ g' cs, g' ≠ b + 1 + 1 + 1 → Blk w2 g' cs → Blk ((w3.setCell ⟨b + 1 + 1 + 1, 0, none⟩ (.int .u64 en.own)).setCell ⟨b + 1 + 1 + 1, 1, none⟩ (.int .u64 (satA en.own en.slack))) g' cs := fun g' cs hne hB => ((hB.same G3).off (by omega) _ _).off (by omega) _ _
      refine ⟨rfl, ?_, NS _ _ (by omega) BS, NS _ _ (by omega) BK, NS _ _ (by omega) BR, ?_, KS⟩
      · rw [He.out]; exact (B3.set_ 0 _ rfl).set_ 1 _ rfl
      · exact ((B2.same G3).kept (grownBy_set (grownBy_refl _ _) 0 _) (by simp; omega)).kept (grownBy_set (grownBy_refl _ _) 1 _) (by simp; omega)
  case rest =>
    obtain ⟨rfl, BB, BS, BK, BR, B2, K2⟩ := hcut
    have hx0 : W64 (bndE es un k).1 ∧ W64 (bndE es un k).2 := by
      unfold bndE
      split
      · rename_i e he
        obtain ⟨h1, h2⟩ := HW.out e (List.mem_of_find?_eq_some he)
        exact ⟨h1, satA_w h1 h2⟩
      · exact ⟨w64_0, hwu⟩
    have hdec : decide (0 ≤ i) = bndHas es k := by
      unfold bndHas
      rcases hi with ⟨rfl, hf⟩ | ⟨n, rfl, hn, hf⟩
      · rw [hf]; rfl
      · rw [hf]; simp
    have Hdec := Lib.hid hdec
    generalize bndE es un k = x at *
    generalize bndHas es k = tr at *
    obtain ⟨r1, r2, r3⟩ := B2.re
    have q1 := BB.re
    have q2 := BS.re
    have q3 := BK.re
    have r4 := call_re (w := wc) fun w' hg => Hest.out w' (grownBy_trans K2 hg)
    have r5 := call_re (w := wc) fun w' hg => bCap_c x.1 x.2 est w'
    clear hi bs hdec
    go_upto_region 5 with fail
    refine wp_region_any (by kernel_rfl) ?_
    (refine Tail.take_put 6 31 (.int .i64 i) rfl rfl (by kernel_rfl) (by kernel_rfl) (by kernel_rfl) (fun _ _ _ h => h) (Or.inl ⟨by rfl, fun w => ?_⟩) ?_; · go_simp); simp only [List.setIfInBounds_toArray, List.set_cons_zero, List.set_cons_succ]
    (refine Tail.take_put 7 32 (.bool (decide (0 ≤ i))) rfl rfl (by kernel_rfl) (by kernel_rfl) (by kernel_rfl) (fun _ _ _ h => h) (Or.inl ⟨by rfl, fun w => ?_⟩) ?_; · go_simp); simp only [List.setIfInBounds_toArray, List.set_cons_zero, List.set_cons_succ]
    (refine Tail.wpAny_tail_grown 8 [true, true, true, true, true, true, false, false] (by kernel_rfl) ?_; simp only [Tail.pickL, List.take, List.drop]; (repeat (go_big_quiet_step (first | (with_reducible exact r4 _ _) | (with_reducible exact r5 _ _)))); refine wpQuiet_nil ?_; rintro _ ⟨⟨d5, os5⟩, rfl⟩)
    have BR5 := BR.same (grown_re wc d5 os5)
    have K5 := grownBy_trans K2 (grown_re wc d5 os5)
    have br := BR5.cell
    have fr := BR5.free
    clear r1 r2 r3 r4 r5 q1 q2 q3
    generalize Go.Sort.grow (redrawn wc d5) os5 = w5 at *
    go_wp2_with fail
    have BZ := (BR5.set_ 0 (.int .u64 (min x.1 est)) rfl).set_ 1 (.int .u64 (min x.2 est)) rfl
    have bz := BZ.cell
    refine bodyPost_ret (v := .tuple #[bndV (min x.1 est) (min x.2 est), .bool (decide (0 ≤ i))]) (by simp [results, Try.results32, go_sem, bz]) rfl ?_
    refine ⟨by rw [Hdec.out], ?_⟩
    exact grownBy_setNew (grownBy_setNew K5 (by simp; omega) _) (by simp; omega) _

theorem bnd_hit {es : List Ent} {k : ByteArray} {e : Ent} (un : Int) (h : es.find? (keyEq k) = some e) : bndE es un k = (e.own, satA e.own e.slack) ∧ bndHas es k = true := by
  unfold bndE bndHas; rw [h]; exact ⟨rfl, rfl⟩
theorem bnd_miss {es : List Ent} {k : ByteArray} (un : Int) (h : es.find? (keyEq k) = none) : bndE es un k = (0, un) ∧ bndHas es k = false := by
  unfold bndE bndHas; rw [h]; exact ⟨rfl, rfl⟩
set_option maxHeartbeats 1000000 in
set_option maxRecDepth 100000 in
theorem rbounds_c (c : Cfg) (t : List Int) (s : Summ) (k : ByteArray) (w : World) (h : RCfg w c t) (hR : SumRd w s) (hW : SumW s) (ho : RowsOk s.rows) (hn : s.rows.length ≤ 1000) (hk : k.size ≤ 9223372036854775807) :
    Calls Try.prog 89 #[c.val, sumV s.total s.ve s.untr s.vr, .string k] w (RetVal (boundsV c t s k) w) := by
  have Hest := Lib.hid fun w' hg => rsest_c c t s k w' (h.same hg) (hR.same hg) ho hn hk
  have hwe := w64_sEst (c := c) (t := t) hW.total ho k
  unfold boundsV
  generalize sEstF c t s k = est at *
  obtain ⟨tot, ve, un, vr, es, vs, rows⟩ := s
  obtain ⟨a1, k1, e1⟩ := hR.es.shape
  obtain ⟨a2, k2, e2⟩ := hR.vs.shape
  simp only at e1 e2 hn ho Hest ⊢
  subst e1
  subst e2
  have HE := Lib.hid hR.es
  have HW := Lib.hid hW.es
  have hwu := hW.untr
  have hm := hR.es.2.1
  clear hR hW ho hn h
  go_enter Try.func89, Try.ntmps89
  go_upto_region 2 with (refine box_cfg rfl _ rfl c rfl ?_; intro w1 B1 G1 z1)
  have BS : Blk (((w1.alloc (.cells #[.int .u64 tot, .slice a1 es.length k1, .int .u64 un, .slice a2 vs.length k2] 68)).alloc (.cells #[.int .u64 0, .int .u64 0] 62))) w1.heap.size #[.int .u64 tot, .slice a1 es.length k1, .int .u64 un, .slice a2 vs.length k2] := (by repeat (first | exact Blk.new' _ _ _ (by simp) | refine Blk.same ?_ (World.grownBy_alloc _ _ _) | refine Blk.drew ?_ _ | refine Blk.drew1 ?_ | refine Blk.set_ (by assumption) _ _ rfl | refine Blk.off ?_ (by first | omega | (simp; done) | (simp; omega)) _ _ | assumption))
  have BR : Blk (((w1.alloc (.cells #[.int .u64 tot, .slice a1 es.length k1, .int .u64 un, .slice a2 vs.length k2] 68)).alloc (.cells #[.int .u64 0, .int .u64 0] 62))) (w1.heap.size + 1) #[.int .u64 0, .int .u64 0] := (by repeat (first | exact Blk.new' _ _ _ (by simp) | refine Blk.same ?_ (World.grownBy_alloc _ _ _) | refine Blk.drew ?_ _ | refine Blk.drew1 ?_ | refine Blk.set_ (by assumption) _ _ rfl | refine Blk.off ?_ (by first | omega | (simp; done) | (simp; omega)) _ _ | assumption))
  have K2 : w.grownBy (((w1.alloc (.cells #[.int .u64 tot, .slice a1 es.length k1, .int .u64 un, .slice a2 vs.length k2] 68)).alloc (.cells #[.int .u64 0, .int .u64 0] 62))) none := (by (repeat (first | exact grownBy_refl _ _ | assumption | refine grownBy_new_block ?_ _ | refine grownBy_drew ?_ | refine grownBy_drewN ?_ _ | refine grownBy_setNew ?_ (by first | (simp; done) | omega | (simp; omega)) _)))
  have B2 : BoxAt (((w1.alloc (.cells #[.int .u64 tot, .slice a1 es.length k1, .int .u64 un, .slice a2 vs.length k2] 68)).alloc (.cells #[.int .u64 0, .int .u64 0] 62))) w.heap.size c := (B1.same (World.grownBy_alloc _ _ _)).same (World.grownBy_alloc _ _ _)
  clear B1 G1
  generalize (w1.alloc (.cells #[.int .u64 tot, .slice a1 es.length k1, .int .u64 un, .slice a2 vs.length k2] 68)).alloc (.cells #[.int .u64 0, .int .u64 0] 62) = w2 at *
  generalize w1.heap.size = b at *
  go_loopw [13] (fun s13 wr => ∃ j : Nat, j ≤ es.length ∧ s13 = .int .i64 j ∧ (∀ i, (hi : i < es.length) → i < j → keyEq k es[i] = false) ∧ Blk wr b #[.int .u64 tot, .slice a1 es.length k1, .int .u64 un, .slice a2 vs.length k2] ∧ Blk wr (b + 1) #[.int .u64 0, .int .u64 0] ∧ BoxAt wr w.heap.size c ∧ w.grownBy wr none) (fun s13 _ => es.length - (intOf s13).toNat)
  case atStart => exact ⟨0, Nat.zero_le _, rfl, by intro i _ h; omega, BS, BR, B2, K2⟩
  case round =>
    clear BS BR B2 K2
    obtain ⟨j, hj, rfl, hall, BS, BR, B2, K2⟩ := hrel
    have Hall := Lib.hid hall
    clear hall
    by_cases hjl : j < es.length
    · obtain ⟨g, off, cap, hv, hgl, c0, c1, c2⟩ := (HE.out.same K2).ent hjl
      cases hv
      obtain ⟨hw1, hw2⟩ := HW.out _ (List.getElem_mem hjl)
      cases hq : keyEq k es[j]
      · have Hq := Lib.hid hq
        have hq2 : (es[j].key.toList == k.toList) = false := hq
        clear hq
        generalize hee : es[j] = en at hq2 c0 c1 c2
        clear hee
        go_wp2_with fail
        refine ⟨⟨j + 1, by omega, by go_num, ?_, BS.same (World.grownBy_alloc _ _ _), BR.same (World.grownBy_alloc _ _ _), B2.same (World.grownBy_alloc _ _ _), grownBy_new_block K2 _⟩, by simp [intOf]; omega⟩
        intro i hi hij
        by_cases e : i = j
        · subst e; exact Hq.out
        · exact Hall.out i hi (by omega)
      · have Hq := Lib.hid (bnd_hit un (idx_some hjl (fun i hi => Hall.out i (by omega) hi) hq))
        have hq2 : (es[j].key.toList == k.toList) = true := hq
        clear hq
        generalize hee : es[j] = en at *
        clear hee
        go_upto_region 5 with fail
        have BE : Blk (wr.alloc (.cells #[.string en.key, .int .u64 en.own, .int .u64 en.slack] 77)) wr.heap.size #[.string en.key, .int .u64 en.own, .int .u64 en.slack] := (by repeat (first | exact Blk.new' _ _ _ (by simp) | refine Blk.same ?_ (World.grownBy_alloc _ _ _) | refine Blk.drew ?_ _ | refine Blk.drew1 ?_ | refine Blk.set_ (by assumption) _ _ rfl | refine Blk.off ?_ (by first | omega | (simp; done) | (simp; omega)) _ _ | assumption))
        replace BS := BS.same (World.grownBy_alloc wr (.cells #[.string en.key, .int .u64 en.own, .int .u64 en.slack] 77) none)
        replace BR := BR.same (World.grownBy_alloc wr (.cells #[.string en.key, .int .u64 en.own, .int .u64 en.slack] 77) none)
        replace B2 := B2.same (World.grownBy_alloc wr (.cells #[.string en.key, .int .u64 en.own, .int .u64 en.slack] 77) none)
        replace K2 := grownBy_new_block K2 (.cells #[.string en.key, .int .u64 en.own, .int .u64 en.slack] 77)
        clear c0 c1 c2 hgl
        generalize wr.alloc (.cells #[.string en.key, .int .u64 en.own, .int .u64 en.slack] 77) = wc at *
        generalize wr.heap.size = be at *
        obtain ⟨r1, r2, r3⟩ := B2.re
        have q1 := BE.re
        have q2 := BS.re
        have r4 := call_re (w := wc) fun w' hg => Hest.out w' (grownBy_trans K2 hg)
        have r5 := call_re (w := wc) fun w' hg => rCap_c en.own (satA en.own en.slack) est w'
        have r6 := call_re (w := wc) fun w' hg => rOf_c en.key en.own en.slack w' hw1 hw2
        (refine Tail.wp_region_tail_grown 7 (by kernel_rfl) (by kernel_rfl) ?_; simp only [List.take, List.drop]; (repeat (go_big_quiet_step (first | (with_reducible exact r4 _ _) | (with_reducible exact r5 _ _) | (with_reducible exact r6 _ _)))); refine wpQuiet_nil ?_; rintro _ ⟨⟨d5, os5⟩, rfl⟩)
        have BR5 := BR.same (grown_re wc d5 os5)
        have K5 := grownBy_trans K2 (grown_re wc d5 os5)
        have br := BR5.cell
        have fr := BR5.free
        clear r1 r2 r3 r4 r5 r6 q1 q2
        generalize Go.Sort.grow (redrawn wc d5) os5 = w5 at *
        go_wp2_with fail
        have BZ := (BR5.set_ 0 (.int .u64 (min en.own est)) rfl).set_ 1 (.int .u64 (min (satA en.own en.slack) est)) rfl
        have bz := BZ.cell
        refine bodyPost_ret (v := .tuple #[bndV (min en.own est) (min (satA en.own en.slack) est), .bool true]) (by simp [results, Try.results89, go_sem, bz]) rfl ?_
        refine ⟨by rw [Hq.out.1, Hq.out.2], ?_⟩
        exact grownBy_setNew (grownBy_setNew K5 (by simp; omega) _) (by simp; omega) _
    · have Hq := Lib.hid (bnd_miss un (idx_none (k := k) fun i hi => Hall.out i hi (by omega)))
      go_upto_region 7 with fail
      obtain ⟨r1, r2, r3⟩ := B2.re
      have q2 := BS.re
      have r4 := call_re (w := wr) fun w' hg => Hest.out w' (grownBy_trans K2 hg)
      have r5 := call_re (w := wr) fun w' hg => rCap_c 0 un est w'
      (refine Tail.wp_region_tail_grown 8 (by kernel_rfl) (by kernel_rfl) ?_; simp only [List.take, List.drop]; (repeat (go_big_quiet_step (first | (with_reducible exact r4 _ _) | (with_reducible exact r5 _ _)))); refine wpQuiet_nil ?_; rintro _ ⟨⟨d5, os5⟩, rfl⟩)
      have BR5 := BR.same (grown_re wr d5 os5)
      have K5 := grownBy_trans K2 (grown_re wr d5 os5)
      have br := BR5.cell
      have fr := BR5.free
      clear r1 r2 r3 r4 r5 q2
      generalize Go.Sort.grow (redrawn wr d5) os5 = w5 at *
      go_wp2_with fail
      have BZ := (BR5.set_ 0 (.int .u64 (min 0 est)) rfl).set_ 1 (.int .u64 (min un est)) rfl
      have bz := BZ.cell
      refine bodyPost_ret (v := .tuple #[bndV (min 0 est) (min un est), .bool false]) (by simp [results, Try.results89, go_sem, bz]) rfl ?_
      refine ⟨by rw [Hq.out.1, Hq.out.2], ?_⟩
      exact grownBy_setNew (grownBy_setNew K5 (by simp; omega) _) (by simp; omega) _
end Go.Proofs.Ytiagjiaahnkefaa
