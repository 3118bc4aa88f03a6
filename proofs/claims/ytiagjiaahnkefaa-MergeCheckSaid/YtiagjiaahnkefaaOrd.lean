/- The order of merging: merge.Order, its reference, slices.Delete, SameInts. -/
import Derived.Test.YtiagjiaahnkefaaSl
import Derived.Test.YtiagjiaahnkefaaCls
import Derived.Test.YtiagjiaahnkefaaOrdP
import Derived.Test.YtiagjiaahnkefaaShelf
import Derived.Lib.MinMax
import Derived.Sort.OwnSortedInts
namespace Go.Proofs.Ytiagjiaahnkefaa
open Go.RowKit Go.Sort

theorem elt_int : Elt 27 3 (.int .i64 0) 1 8 := ⟨Try.underlying27, by kernel_rfl, rfl, by decide⟩
theorem one_int : OneF intF := by intro x u hu; simp [intF] at hu; subst hu; rfl
theorem cells_intF (l : List Int) : cellsOf intF l = l.map (fun x => Value.int .i64 x) := cells_int l
def sliceLen : Value → Nat
  | .slice _ n _ => n
  | _ => 0

/-- What a function leaves that makes a slice of its own, and nothing else. -/
def RetOwn {α : Type} (f : α → List Value) (s : Nat) (e : TypeId) (l : List α) (w : World) (en : Ending) (w' : World) : Prop :=
  ∃ v, en = .returned v ∧ Own f s e w.heap.size w' v l ∧ w.grownBy w' none

theorem delete_c (B : Nat) (a : Option Addr) (c : Nat) (L : List Int) (p : Nat) (ip ij : Int) (w : World) (h : Own intF 1 3 B w (.slice a L.length c) L) (hp : p < L.length) (hi : ip = p) (hj : ij = p + 1) :
    Calls Try.prog 66 #[.slice a L.length c, .int .i64 ip, .int .i64 ij] w fun e w' =>
      e = .returned (.slice a (L.eraseIdx p).length c) ∧ Own intF 1 3 B w' (.slice a (L.eraseIdx p).length c) (L.eraseIdx p) ∧ w.grownBy w' (Value.ownBlock (.slice a L.length c)) := by
  subst hi
  obtain rfl : ij = ((p + 1 : Nat) : Int) := by omega
  rcases h.2 with ⟨hn, h0⟩ | ⟨g, cap, cur, hv, hb, hg, h1, h2, h3, h4⟩
  · omega
  cases hv
  have hl : (L.eraseIdx p).length = L.length - 1 := by rw [List.length_eraseIdx, if_pos hp]
  have hH : Holds (Value.int .i64) w g 0 L.toArray := holds_of_blockI hg (by rw [← cells_intF, ← h4]; simp)
  refine (Try.slices_Delete_int g 0 c p (p + 1) L w hH h1 (by unfold maxLen at h2; exact h2) (by omega) (by omega)).mono ?_
  rintro e w' ⟨rfl, q, rfl⟩
  have e1 : L.take p ++ L.drop (p + 1) = L.eraseIdx p := (List.eraseIdx_eq_take_drop_succ L p).symm
  have hts : (L.take p ++ L.drop (p + 1) ++ List.replicate (p + 1 - p) 0).length = L.length := by rw [e1]; simp [hl]; omega
  have hown := ownsRow_sortedI (w := w) (n := q) (os := #[]) (e := 3) (ss := L) (ts := L.take p ++ L.drop (p + 1) ++ List.replicate (p + 1 - p) 0) hts hb hg h1 h2 h3
  rw [grow_empty] at hown
  refine ⟨by rw [hl, show L.length - (p + 1 - p) = L.length - 1 by omega], ?_, ?_⟩
  · rcases hown.2 with ⟨hn, _⟩ | ⟨g', cap', cur', hv', hb', hg', q1, q2, q3, q4⟩
    · cases hn
    cases hv'
    refine ⟨by rw [length_cellsOf _ 1 intF_len], .inr ⟨g, c, cur', rfl, hb, hg', by omega, q2, q3, ?_⟩⟩
    have e2 : cur'.toList.take ((L.eraseIdx p).length * 1) = (cur'.toList.take (L.length * 1)).take ((L.eraseIdx p).length * 1) := by rw [List.take_take, Nat.min_eq_left (by omega)]
    rw [e2, q4, e1, cells_intF, List.map_append, Nat.mul_one, List.take_left' (by simp)]
  · have := grownBy_sortedI (w := w) (g := g) (n := q) (os := #[]) (L.take p ++ L.drop (p + 1) ++ List.replicate (p + 1 - p) 0).toArray
    rw [grow_empty] at this
    exact this

set_option maxHeartbeats 1000000 in
set_option maxRecDepth 100000 in
theorem order_c (v : Value) (P : List Int) (n : Int) (w : World) (h : RdL intF 1 w v P) (hn : n ≤ 1000) :
    Calls Try.prog 24 #[v, .int .i64 n] w (RetOwn intF 1 3 (order P n.toNat) w) := by
  obtain ⟨aP, cP, rfl⟩ := h.shape
  have hm := h.2.1
  have H := Lib.hid h
  obtain ⟨N, hN0⟩ : ∃ N, n.toNat = N := ⟨_, rfl⟩
  rw [hN0]
  have hmax : max n 0 = (N : Int) := by omega
  have hN : N ≤ 1000 := by omega
  clear h hN0
  go_enter Try.func24, Try.ntmps24
  go_upto_region 3 with fail
  clear hmax
  go_loopw [5, 12] (fun s5 s12 wr => ∃ k : Nat, k ≤ N ∧ s12 = .int .i64 k ∧ Own intF 1 3 w.heap.size wr s5 (rangeI k) ∧ w.grownBy wr none) (fun _ s12 _ => N - (intOf s12).toNat)
  case atStart => exact ⟨0, Nat.zero_le _, rfl, Own.nil _ _ _ _ _, grownBy_refl _ _⟩
  case round =>
    obtain ⟨k, hk, rfl, hL, hg⟩ := hrel
    have hsz := hg.size
    have hrl := rangeI_len k
    by_cases hlt : k < N
    · have hb1 : ((rangeI k).length + 1) * 8 ≤ 140737488355328 := by omega
      have hb2 : (rangeI k).length + 1 ≤ 9223372036854775807 := by omega
      have Hrl := Lib.hid hrl
      clear hrl
      go_wp2_with (at_builtin; refine app_one elt_int one_int intF_len hL (k : Int) hb1 hb2 hsz (by rfl) rfl (.tmp 15) (.tmp 17) rfl rfl rfl ?_; intro v1 w1 o1 g1 l1)
      refine ⟨⟨k + 1, by omega, by go_num, by rw [rangeI_succ]; exact o1, grown_own hg hL (Nat.le_refl _) g1⟩, by simp [intOf]; omega⟩
    · obtain rfl : k = N := by omega
      clear hlt hk
      obtain ⟨aL, cL, hv⟩ := hL.shape
      rw [rangeI_len] at hv
      subst hv
      go_wp2_with fail
      go_loopw [5, 6, 8, 9] (fun s5 s6 s8 s9 wr => ∃ (i : Nat) (a : Option Addr) (c : Nat) (L O : List Int), s5 = .slice a L.length c ∧ s8 = .int .i64 i ∧ Own intF 1 3 w.heap.size wr (.slice a L.length c) L ∧ Own intF 1 3 w.heap.size wr s6 O ∧ Apart (.slice a L.length c) s6 ∧ O ++ ordGo P L.length i L = order P k ∧ i + L.length ≤ 1000 ∧ O.length = i ∧ w.grownBy wr none) (fun s5 _ _ _ _ => sliceLen s5)
      case atStart =>
        refine ⟨0, aL, cL, rangeI k, [], by rw [rangeI_len], rfl, ?_, Own.nil _ _ _ _ _, (apart_nil _).symm, ?_, by rw [rangeI_len]; omega, rfl, hg⟩
        · rw [rangeI_len]; exact hL
        · rw [rangeI_len]; rfl
      case round =>
        clear hL hg hsz hrl
        obtain ⟨i, a, c, L, O, rfl, rfl, hL, hO, hap, hord, hb, hOi, hg⟩ := hrel
        have hsz := hg.size
        have hb1 : (O.length + 1) * 8 ≤ 140737488355328 := by omega
        have hb2 : O.length + 1 ≤ 9223372036854775807 := by omega
        have HOi := Lib.hid hOi
        have Hord := Lib.hid hord
        clear hOi hord
        by_cases h0 : 0 < L.length
        · have hz : ((L.length : Int) == 0) = false := beq_eq_false_iff_ne.2 (by omega)
          have hp := pickAt_lt P i L.length h0
          have HS := Lib.hid (ordGo_step P i L h0 O)
          obtain ⟨gL, offL, cL', hvL, hgL, h1L⟩ := hL.rd.one int_one hp
          have heL : L.getD (pickAt P i L.length) 0 = L[pickAt P i L.length] := by simp [List.getD_eq_getElem?_getD, List.getElem?_eq_getElem hp]
          rw [← heL] at h1L
          have HvL := Lib.hid hvL
          cases hvL
          clear heL HvL
          have hpi := Lib.hid (pickAt_in P i L.length (h0 := h0))
          have hpo := Lib.hid (pickAt_out P i L.length)
          generalize hpe : pickAt P i L.length = p at *
          clear hpe
          generalize L.getD p 0 = y at *
          go_upto_if 28 with fail
          go_cut [9] (fun s9 wx => s9 = .int .i64 (p : Int) ∧ wx = wr)
          case first =>
            by_cases hi : i < P.length
            · obtain ⟨gP, offP, cP', hvP, hgP, h1P⟩ := (H.out.same hg).one int_one hi
              have heP : P.getD i 0 = P[i] := by simp [List.getD_eq_getElem?_getD, List.getElem?_eq_getElem hi]
              have hq := hpi.out hi
              rw [heP] at hq
              cases hvP
              clear heP
              have HW := Lib.hid (within_num P[i] L.length (by omega))
              obtain ⟨hwa, hwb⟩ := within_tmod P[i] L.length (by omega)
              have Hq := Lib.hid hq
              generalize P[i] = x at *
              clear hq
              go_wp2_with fail
              go_meet
              exact ⟨by rw [HW.out, Hq.out], rfl⟩
            · have hq := hpo.out hi
              have Hq := Lib.hid hq
              clear hq
              go_wp2_with fail
              go_meet
              exact ⟨by rw [Hq.out]; rfl, rfl⟩
          case rest =>
            obtain ⟨rfl, rfl⟩ := hcut
            have hp0 : (0 : Int) ≤ (p : Int) := by omega
            have hp1 : (p : Int) < (L.length : Int) := by omega
            go_upto_region 14 with (at_builtin; refine app_one elt_int one_int intF_len hO y hb1 hb2 hsz (by rfl) rfl (.tmp 42) (.tmp 47) rfl rfl rfl ?_; intro v1 w1 o1 g1 l1)
            have hap1 := Apart.app hap.symm (fun k hk => (hL.lt k hk).2) l1
            have hL1 := hL.kept g1 (fun k hk e => hap k hk e)
            have hg1 := grown_own hg hO (Nat.le_refl _) g1
            clear h1L hap hL g1 l1 hg hgL hO
            go_wp2_with (go_at_call 66; refine (delete_c _ _ _ L p _ _ _ hL1 hp rfl rfl).mono ?_; rintro e w2 ⟨rfl, o2, g2⟩)
            have hap2 : Apart (.slice (some ⟨gL, offL, none⟩) (L.eraseIdx p).length c) v1 := fun g hg e => hap1 g e hg
            have hO2 := o1.kept g2 (fun k hk e => hap1 k hk e)
            have hg2 := grown_own hg1 hL1 (Nat.le_refl _) g2
            have hel : (L.eraseIdx p).length = L.length - 1 := by rw [List.length_eraseIdx, if_pos hp]
            refine ⟨⟨i + 1, _, _, L.eraseIdx p, O ++ [y], rfl, by go_num, o2, hO2, hap2, by rw [← HS.out, Hord.out], by omega, by simp [HOi.out], hg2⟩, ?_⟩
            show (L.eraseIdx p).length < L.length
            omega
        · obtain rfl : L = [] := List.length_eq_zero_iff.1 (by omega)
          have he : O = order P k := by rw [← Hord.out]; simp [ordGo]
          have He := Lib.hid he
          clear he Hord hap h0
          simp only [List.length_nil] at hL ⊢
          go_wp2_with fail
          go_ret
          exact ⟨_, rfl, by rw [← He.out]; exact hO, hg⟩

theorem tmod_neg (x n : Int) (h : 0 < n) : (x.tmod n < 0 → x.tmod n + n = x % n) ∧ (0 ≤ x.tmod n → x.tmod n = x % n) := by
  have h1 : x.tmod n = if 0 ≤ x ∨ n ∣ x then x % n else x % n - n := by
    rw [Int.tmod_eq_emod]; split
    · simp
    · have : (n.natAbs : Int) = n := by omega
      rw [this]
  have a := Int.emod_nonneg x (show n ≠ 0 by omega)
  have b := Int.emod_lt_of_pos x h
  rw [h1]; split <;> constructor <;> intro h2 <;> omega

set_option maxHeartbeats 2000000 in
set_option maxRecDepth 100000 in
theorem rorder_c (v : Value) (P : List Int) (n : Int) (w : World) (h : RdL intF 1 w v P) (hn : n ≤ 1000) :
    Calls Try.prog 26 #[v, .int .i64 n] w (RetOwn intF 1 3 (order P n.toNat) w) := by
  obtain ⟨aP, cP, rfl⟩ := h.shape
  have hm := h.2.1
  have H := Lib.hid h
  obtain ⟨N, hN0⟩ : ∃ N, n.toNat = N := ⟨_, rfl⟩
  rw [hN0]
  have hN1 : n ≤ N := by omega
  have hN2 : ∀ k : Nat, k ≤ N → n ≤ (k : Int) → k = N := by omega
  have HN2 := Lib.hid hN2
  have hN : N ≤ 1000 := by omega
  clear h hN0 hN2
  go_enter Try.func26, Try.ntmps26
  go_upto_region 3 with fail
  go_loopw [5, 7] (fun s5 s7 wr => ∃ k : Nat, k ≤ N ∧ s7 = .int .i64 k ∧ Own intF 1 3 w.heap.size wr s5 (rangeI k) ∧ w.grownBy wr none) (fun _ s7 _ => N - (intOf s7).toNat)
  case atStart => exact ⟨0, Nat.zero_le _, rfl, Own.nil _ _ _ _ _, grownBy_refl _ _⟩
  case round =>
    obtain ⟨k, hk, rfl, hL, hg⟩ := hrel
    have hsz := hg.size
    have hrl := rangeI_len k
    by_cases hlt : (k : Int) < n
    · have hb1 : ((rangeI k).length + 1) * 8 ≤ 140737488355328 := by omega
      have hb2 : (rangeI k).length + 1 ≤ 9223372036854775807 := by omega
      have Hrl := Lib.hid hrl
      clear hrl
      go_wp2_with (at_builtin; refine app_one elt_int one_int intF_len hL (k : Int) hb1 hb2 hsz (by rfl) rfl (.tmp 15) (.tmp 17) rfl rfl rfl ?_; intro v1 w1 o1 g1 l1)
      refine ⟨⟨k + 1, by omega, by go_num, by rw [rangeI_succ]; exact o1, grown_own hg hL (Nat.le_refl _) g1⟩, by simp [intOf]; omega⟩
    · obtain rfl : k = N := HN2.out k hk (by omega)
      clear hk HN2 hN1
      obtain ⟨aL, cL, hv⟩ := hL.shape
      rw [rangeI_len] at hv
      subst hv
      go_wp2_with fail
      go_loopw [5, 6, 8, 9] (fun s5 s6 s8 s9 wr => ∃ (i : Nat) (a : Option Addr) (c : Nat) (L O : List Int), s5 = .slice a L.length c ∧ s8 = .int .i64 i ∧ Own intF 1 3 w.heap.size wr (.slice a L.length c) L ∧ Own intF 1 3 w.heap.size wr s6 O ∧ Apart (.slice a L.length c) s6 ∧ O ++ ordGo P L.length i L = order P k ∧ i + L.length ≤ 1000 ∧ O.length = i ∧ w.grownBy wr none) (fun s5 _ _ _ _ => sliceLen s5)
      case atStart =>
        refine ⟨0, aL, cL, rangeI k, [], by rw [rangeI_len], rfl, ?_, Own.nil _ _ _ _ _, (apart_nil _).symm, ?_, by rw [rangeI_len]; omega, rfl, hg⟩
        · rw [rangeI_len]; exact hL
        · rw [rangeI_len]; rfl
      case round =>
        clear hL hg hsz hrl hlt
        obtain ⟨i, a, c, L, O, rfl, rfl, hL, hO, hap, hord, hb, hOi, hg⟩ := hrel
        have hsz := hg.size
        have hb1 : (O.length + 1) * 8 ≤ 140737488355328 := by omega
        have hb2 : O.length + 1 ≤ 9223372036854775807 := by omega
        have HOi := Lib.hid hOi
        have Hord := Lib.hid hord
        clear hOi hord
        by_cases h0 : 0 < L.length
        · have hz : ((L.length : Int) == 0) = false := beq_eq_false_iff_ne.2 (by omega)
          have hp := pickAt_lt P i L.length h0
          have HS := Lib.hid (ordGo_step P i L h0 O)
          obtain ⟨gL, offL, cL', hvL, hgL, h1L⟩ := hL.rd.one int_one hp
          have heL : L.getD (pickAt P i L.length) 0 = L[pickAt P i L.length] := by simp [List.getD_eq_getElem?_getD, List.getElem?_eq_getElem hp]
          rw [← heL] at h1L
          have HvL := Lib.hid hvL
          cases hvL
          clear heL HvL
          have hpi := Lib.hid (pickAt_in P i L.length (h0 := h0))
          have hpo := Lib.hid (pickAt_out P i L.length)
          generalize hpe : pickAt P i L.length = p at *
          clear hpe
          generalize L.getD p 0 = y at *
          go_upto_if 27 with fail
          go_cut [9] (fun s9 wx => s9 = .int .i64 (p : Int) ∧ wx = wr)
          case first =>
            by_cases hi : i < P.length
            · obtain ⟨gP, offP, cP', hvP, hgP, h1P⟩ := (H.out.same hg).one int_one hi
              have heP : P.getD i 0 = P[i] := by simp [List.getD_eq_getElem?_getD, List.getElem?_eq_getElem hi]
              have hq := hpi.out hi
              rw [heP] at hq
              cases hvP
              clear heP
              have HW := Lib.hid (tmod_neg P[i] L.length (by omega))
              obtain ⟨hwa, hwb⟩ := within_tmod P[i] L.length (by omega)
              have Hq := Lib.hid hq
              generalize P[i] = x at *
              clear hq
              go_wp2_with fail
              · go_meet
                exact ⟨by rw [HW.out.1 (by assumption), Hq.out], rfl⟩
              · go_meet
                exact ⟨by rw [HW.out.2 (by omega), Hq.out], rfl⟩
            · have hq := hpo.out hi
              have Hq := Lib.hid hq
              clear hq
              go_wp2_with fail
              go_meet
              exact ⟨by rw [Hq.out]; rfl, rfl⟩
          case rest =>
            obtain ⟨rfl, rfl⟩ := hcut
            have hp0 : (0 : Int) ≤ (p : Int) := by omega
            have hp1 : (p : Int) < (L.length : Int) := by omega
            go_upto_region 15 with (at_builtin; refine app_one elt_int one_int intF_len hO y hb1 hb2 hsz (by rfl) rfl (.tmp 41) (.tmp 46) rfl rfl rfl ?_; intro v1 w1 o1 g1 l1)
            have hap1 := Apart.app hap.symm (fun k hk => (hL.lt k hk).2) l1
            have hL1 := hL.kept g1 (fun k hk e => hap k hk e)
            have hg1 := grown_own hg hO (Nat.le_refl _) g1
            clear h1L hap hL g1 l1 hg hgL hO
            have hcap := hL1.cap
            have hc1 : (p : Int) ≤ (c : Int) := by omega
            have hc2 : (p : Int) + 1 ≤ (L.length : Int) := by omega
            have hc3 : (L.length : Int) ≤ (c : Int) := by omega
            have hs1 := hg1.size
            have hlt1 : (L.take p).length = p := by simp; omega
            have hlt2 : (L.drop (p + 1)).length = L.length - (p + 1) := by simp
            have hb3 : (([] : List Int).length + (L.take p).length) * 8 ≤ 140737488355328 := by rw [hlt1]; simp; omega
            have hb4 : ([] : List Int).length + (L.take p).length ≤ 9223372036854775807 := by rw [hlt1]; simp; omega
            have hb5 : (([] ++ L.take p : List Int).length + (L.drop (p + 1)).length) * 8 ≤ 140737488355328 := by rw [List.nil_append, hlt1, hlt2]; omega
            have hb6 : ([] ++ L.take p : List Int).length + (L.drop (p + 1)).length ≤ 9223372036854775807 := by rw [List.nil_append, hlt1, hlt2]; omega
            have hR1 : RdL intF 1 (w1.alloc (.cells #[] 3)).drew (.slice (some ⟨gL, offL, none⟩) p c) (L.take p) := (hL1.rd.take intF_len (by omega) c).same (grownBy_drew (World.grownBy_alloc w1 _ none))
            have hO0 : Own intF 1 3 w.heap.size (w1.alloc (.cells #[] 3)).drew (.slice (some ⟨w1.heap.size, 0, none⟩) 0 0) [] := own_lit0 intF 1 hs1
            have hs2 : w.heap.size ≤ (w1.alloc (.cells #[] 3)).drew.heap.size := by simp [World.drew]; omega
            have Hlt1 := Lib.hid hlt1.symm
            have Hlt2 := Lib.hid hlt2.symm
            have tok := Lib.hid hp
            clear hlt1 hlt2
            have hw1 : IntKind.i64.wrap ((p : Int) + 1) = (p : Int) + 1 := IntWalk.i64_in _ (by omega)
            have hw2 : ((p : Int) + 1).toNat = p + 1 := by omega
            have hw3 : (0 : Int) ≤ (p : Int) + 1 := by omega
            have hpl : p + 1 ≤ L.length := by omega
            go_region_law ((first | (have _t := tok; refine step_app elt_int one_int hO0 hR1 Hlt1.out hb3 hb4 hs2 (by rfl) _ _ (by rfl) (by rfl) (by rfl) ?_; intro v2 w2 o2 g2 l2; clear tok; have hg2 := grown_own (grownBy_drew (grownBy_new_block hg1 _)) hO0 (Nat.le_refl _) g2; have hL2 := hL1.kept (grownBy_trans (grownBy_drew (World.grownBy_alloc w1 _ _)) g2) (off_new (fun k hk => (hL1.lt k hk).2)); have hO2 := o1.kept (grownBy_trans (grownBy_drew (World.grownBy_alloc w1 _ _)) g2) (off_new (fun k hk => (o1.lt k hk).2)); have hv2 := Lies.ge l2 (ge_new _ _ _) (Nat.le_of_lt (by simp [World.drew])); have hR2 := hL2.rd.drop1 intF_len hpl hcap (c - (p + 1)); have hs3 := hg2.size) | (refine step_app elt_int one_int o2 hR2 Hlt2.out hb5 hb6 hs3 (by rfl) _ _ (by rfl) (by rfl) (by rfl) ?_; intro v3 w3 o3 g3 l3)))
            have hg3 := grown_own hg2 o2 (Nat.le_refl _) g3
            have hv1 : ∀ k, v1.ownBlock = some k → k < w1.heap.size := fun k hk => (o1.lt k hk).2
            have hO3 := hO2.kept g3 (fun k hk e => by have h1 := hv1 k hk; have h2 := hv2 k e; omega)
            have hw12 : w1.heap.size ≤ w2.heap.size := by have := g2.size; simp [World.drew] at this; omega
            have hap3 : Apart v3 v1 := apart_ge (Lies.ge l3 hv2 hw12) hv1
            have he3 : [] ++ L.take p ++ L.drop (p + 1) = L.eraseIdx p := by rw [List.nil_append]; exact (List.eraseIdx_eq_take_drop_succ L p).symm
            rw [he3] at o3
            have hel : (L.eraseIdx p).length = L.length - 1 := by rw [List.length_eraseIdx, if_pos hp]
            obtain ⟨a3, c3, hv3⟩ := o3.shape
            subst hv3
            have Hel := Lib.hid hel
            clear hw1 hw2 he3 hel hO0 hR1 hR2 hL1 hL2 g2 g3 l2 l3 hg1 hg2 hO2 o1 o2 hv1 hv2 hb3 hb4 hb5 hb6
            go_wp2_with fail
            refine ⟨⟨i + 1, _, _, L.eraseIdx p, O ++ [y], rfl, by go_num, o3, hO3, hap3, by rw [← HS.out, Hord.out], by have := Hel.out; omega, by simp [HOi.out], hg3⟩, ?_⟩
            show (L.eraseIdx p).length < L.length
            have := Hel.out
            omega
        · obtain rfl : L = [] := List.length_eq_zero_iff.1 (by omega)
          have he : O = order P k := by rw [← Hord.out]; simp [ordGo]
          have He := Lib.hid he
          clear he Hord hap h0
          simp only [List.length_nil] at hL ⊢
          go_wp2_with fail
          go_ret
          exact ⟨_, rfl, by rw [← He.out]; exact hO, hg⟩
end Go.Proofs.Ytiagjiaahnkefaa
