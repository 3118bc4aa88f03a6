/- Several texts in one file; each begins with a comment that says what is proved in it. -/
import Derived.Test.YtiagjiaahnkefaaBunAI
import Derived.Test.YtiagjiaahnkefaaBunAA
import Derived.Laws.Bits128

/- Which reports are accepted: the program's Check. -/
namespace Go.Proofs.Ytiagjiaahnkefaa
open Go.RowKit Go.Sort Go.Maps Go.WideMaps

theorem keyLaw : Keyed Try.prog 9 := string_keyed Try.underlying9
theorem lnErrAt_0 {tot : Int} {ls : List Ln} (h : 0 < ls.length) : lnErrAt tot ls 0 = lnErr tot none ls[0] := by
  unfold lnErrAt; rw [List.getElem?_eq_getElem h]; rfl
theorem lnErrAt_s {tot : Int} {ls : List Ln} {m : Nat} (h : m + 1 < ls.length) : lnErrAt tot ls (m + 1) = lnErr tot (some ls[m]) ls[m + 1] := by
  unfold lnErrAt; rw [List.getElem?_eq_getElem h]; simp only [prevL]; rw [List.getElem?_eq_getElem (show m < ls.length by omega)]
theorem line_c_at (r : Rep) (i : Nat) (w : World) (hR : RepRd w r) (hi : i < r.lines.length) : Calls Try.prog 50 #[repV r.win r.tot r.vl r.over r.trk r.rest r.vr, .int .i64 i] w (RetInt (lnErrAt r.tot r.lines i) w) := by
  cases i with
  | zero => rw [lnErrAt_0 hi]; exact line0_c r w hR hi
  | succ m => rw [lnErrAt_s hi]; exact lineS_c r m w hR hi
theorem keysN_snoc {ls : List Ln} {k : Nat} (h : k < ls.length) : keysN (ls.take (k + 1)) = keysN (ls.take k) ++ [ls[k].key.data.toList] := by
  unfold keysN; rw [List.take_succ_eq_append_getElem h, List.map_append]; rfl

theorem rep_1 {r : Rep} (h : r.win < 0 ∨ 1099511627776 < r.win ∨ 9223372036854775808 < r.tot ∨ r.tot < r.rest) : repErr r = 1 := by unfold repErr; rw [if_pos h]
theorem rep_7 {r : Rep} (h1 : ¬ (r.win < 0 ∨ 1099511627776 < r.win ∨ 9223372036854775808 < r.tot ∨ r.tot < r.rest)) (h : 64 < r.lines.length ∨ r.trk < r.lines.length ∨ 768 < r.trk) : repErr r = 7 := by unfold repErr; rw [if_neg h1, if_pos h]
/-- The third part of the check and what follows. -/
def repErr3 (r : Rep) : Int :=
  if linesErr r.tot r.lines ≠ 0 then linesErr r.tot r.lines
  else if ¬ (keysN r.lines).Nodup then 10
  else if 18446744073709551615 < r.over + loSum r.lines ∨ r.over + loSum r.lines ≠ r.tot then 13
  else if r.rej.length ≠ 7 ∨ r.rej[0]? ≠ some 0 then 3
  else 0
theorem rep_3 {r : Rep} (h1 : ¬ (r.win < 0 ∨ 1099511627776 < r.win ∨ 9223372036854775808 < r.tot ∨ r.tot < r.rest)) (h2 : ¬ (64 < r.lines.length ∨ r.trk < r.lines.length ∨ 768 < r.trk)) : repErr r = repErr3 r := by unfold repErr; rw [if_neg h1, if_neg h2]; rfl
theorem rep3_lines {r : Rep} {j : Nat} (hj : j < r.lines.length) (h : ∀ i, i < j → lnErrAt r.tot r.lines i = 0) (h2 : lnErrAt r.tot r.lines j ≠ 0) : repErr3 r = lnErrAt r.tot r.lines j := by
  have e := lines_at hj h h2
  unfold repErr3; rw [e, if_pos h2]
/-- The rest behind the lines. -/
def repErr4 (r : Rep) : Int :=
  if 18446744073709551615 < r.over + loSum r.lines ∨ r.over + loSum r.lines ≠ r.tot then 13
  else if r.rej.length ≠ 7 ∨ r.rej[0]? ≠ some 0 then 3
  else 0
theorem rep3_10 {r : Rep} (h : ∀ i, i < r.lines.length → lnErrAt r.tot r.lines i = 0) (h2 : ¬ (keysN r.lines).Nodup) : repErr3 r = 10 := by
  unfold repErr3; rw [lines_no h, if_neg (by simp), if_pos h2]
theorem rep3_4 {r : Rep} (h : ∀ i, i < r.lines.length → lnErrAt r.tot r.lines i = 0) (h2 : (keysN r.lines).Nodup) : repErr3 r = repErr4 r := by
  unfold repErr3; rw [lines_no h, if_neg (by simp), if_neg (by simpa using h2)]; rfl
theorem rep4_13 {r : Rep} (h : 18446744073709551615 < r.over + loSum r.lines ∨ r.over + loSum r.lines ≠ r.tot) : repErr4 r = 13 := by unfold repErr4; rw [if_pos h]
theorem rep4_3 {r : Rep} (h : ¬ (18446744073709551615 < r.over + loSum r.lines ∨ r.over + loSum r.lines ≠ r.tot)) (h2 : r.rej.length ≠ 7 ∨ r.rej[0]? ≠ some 0) : repErr4 r = 3 := by unfold repErr4; rw [if_neg h, if_pos h2]
theorem rep4_0 {r : Rep} (h : ¬ (18446744073709551615 < r.over + loSum r.lines ∨ r.over + loSum r.lines ≠ r.tot)) (h2 : ¬ (r.rej.length ≠ 7 ∨ r.rej[0]? ≠ some 0)) : repErr4 r = 0 := by unfold repErr4; rw [if_neg h, if_neg h2]

set_option maxHeartbeats 2000000 in
set_option maxRecDepth 100000 in
theorem repcheck_c (r : Rep) (w : World) (hR : RepRd w r) (hW : RepW r) : Calls Try.prog 16 #[repV r.win r.tot r.vl r.over r.trk r.rest r.vr] w (RetInt (repErr r) w) := by
  have HR := Lib.hid hR
  have HW := Lib.hid hW
  obtain ⟨la, lc, e1⟩ := hR.lines.shape
  obtain ⟨ra, rc, e2⟩ := hR.rej.shape
  have hlm := hR.lines.2.1
  have hrm := hR.rej.2.1
  clear hR hW
  rw [e1, e2]
  have E1 := Lib.hid e1
  have E2 := Lib.hid e2
  clear e1 e2
  have hmm := @run_makeMap Try.prog
  by_cases p1 : r.win < 0 ∨ 1099511627776 < r.win ∨ 9223372036854775808 < r.tot ∨ r.tot < r.rest
  · have HE := Lib.hid (rep_1 p1)
    have hg := Lib.hid (grownBy_new_block (grownBy_refl w none) (.cells #[.int .i64 r.win, .int .u64 r.tot, .slice la r.lines.length lc, .int .u64 r.over, .int .i64 r.trk, .int .u64 r.rest, .slice ra r.rej.length rc] 26))
    generalize repErr r = q at *
    rcases p1 with h | h | h | h
    all_goals
      go_enter Try.func16, Try.ntmps16
      go_wp2_with fail
      all_goals
        go_ret
        exact retInt HE.out hg.out
  by_cases p2 : 64 < r.lines.length ∨ r.trk < r.lines.length ∨ 768 < r.trk
  · have HE := Lib.hid (rep_7 p1 p2)
    have hg := Lib.hid (grownBy_new_block (grownBy_refl w none) (.cells #[.int .i64 r.win, .int .u64 r.tot, .slice la r.lines.length lc, .int .u64 r.over, .int .i64 r.trk, .int .u64 r.rest, .slice ra r.rej.length rc] 26))
    generalize repErr r = q at *
    have q1 : 0 ≤ r.win := by omega
    have q2 : r.win ≤ 1099511627776 := by omega
    have q3 : r.tot ≤ 9223372036854775808 := by omega
    have q4 : r.rest ≤ r.tot := by omega
    clear p1
    rcases p2 with h | h | h
    · have h' : (64 : Int) < (r.lines.length : Int) := by omega
      go_enter Try.func16, Try.ntmps16
      go_wp2_with fail
      all_goals
        go_ret
        exact retInt HE.out hg.out
    all_goals
      go_enter Try.func16, Try.ntmps16
      go_wp2_with fail
      all_goals
        go_ret
        exact retInt HE.out hg.out
  have HE := Lib.hid (rep_3 p1 p2)
  have q1 : 0 ≤ r.win := by omega
  have q2 : r.win ≤ 1099511627776 := by omega
  have q3 : r.tot ≤ 9223372036854775808 := by omega
  have q4 : r.rest ≤ r.tot := by omega
  have q5 : (r.lines.length : Int) ≤ 64 := by omega
  have q6 : (r.lines.length : Int) ≤ r.trk := by omega
  have q7 : r.trk ≤ 768 := by omega
  clear p1 p2
  go_enter Try.func16, Try.ntmps16
  go_upto_region 5 with fail
  have B1 := Blk.new w #[.int .i64 r.win, .int .u64 r.tot, .slice la r.lines.length lc, .int .u64 r.over, .int .i64 r.trk, .int .u64 r.rest, .slice ra r.rej.length rc] 26
  have G1 := grownBy_new_block (grownBy_refl w none) (.cells #[.int .i64 r.win, .int .u64 r.tot, .slice la r.lines.length lc, .int .u64 r.over, .int .i64 r.trk, .int .u64 r.rest, .slice ra r.rej.length rc] 26)
  generalize w.alloc (.cells #[.int .i64 r.win, .int .u64 r.tot, .slice la r.lines.length lc, .int .u64 r.over, .int .i64 r.trk, .int .u64 r.rest, .slice ra r.rej.length rc] 26) = w1 at *
  generalize w.heap.size = b at *
  have hn64 : r.lines.length ≤ 64 := by omega
  clear q1 q2 q3 q4 q5 q6 q7
  go_upto_region 6 with fail
  have M2 := World.ownsMap_made w1 Try.prog 9 (plainElem (H := Unit) Try.prog 4)
  have B2 := B1.same (World.grownBy_alloc w1 (.map #[] 0) none)
  have G2 := grownBy_new_block G1 (.map #[] 0)
  have hmb : w1.heap.size < (w1.alloc (.map #[] 0)).heap.size := by simp
  have hmw : w.heap.size ≤ w1.heap.size := G1.size
  generalize w1.alloc (.map #[] 0) = w2 at *
  have hbm := B1.lt
  generalize w1.heap.size = mb at *
  clear B1 G1 hmm
  have b2 := B2.cell
  go_wp2_with fail
  clear b2
  go_loopw [52] (fun s52 wk => ∃ k : Nat, k ≤ r.lines.length ∧ s52 = .int .i64 k ∧ (∀ i, i < k → lnErrAt r.tot r.lines i = 0) ∧ wk.ownsMap Try.prog 9 (plainElem Try.prog 4) mb k (setS (keysN (r.lines.take k))) ∧ w2.grownBy wk (some mb)) (fun s52 _ => r.lines.length - (intOf s52).toNat)
  case atStart => exact ⟨0, Nat.zero_le _, rfl, by intro i h; omega, M2, grownBy_refl _ _⟩
  case round =>
    clear M2
    obtain ⟨k, hk, rfl, hall, hM, hg⟩ := hrel
    have Hall := Lib.hid hall
    clear hall
    have hgw := grownBy_new G2 hg hmw
    have B3 := B2.kept hg (by simp; omega)
    have RR := HR.out.same hgw
    by_cases hlt : k < r.lines.length
    · obtain ⟨g, off, cap, hv, hgl, hc⟩ := RR.lines.at_ lnF_len hlt
      rw [E1.out] at hv
      cases hv
      have c0 := hc 0 _ rfl
      have c1 := hc 1 _ rfl
      have c2 := hc 2 _ rfl
      rw [Nat.add_zero] at c0
      have hsz := (HW.out.lines _ (List.getElem_mem hlt)).key
      have hcl := fun w' (h : World.grownBy wr w' none) => line_c_at r k w' (RR.same h) hlt
      rw [E1.out, E2.out] at hcl
      have Hcl := Lib.hid hcl
      have HS := Lib.hid (keysN_snoc hlt)
      clear RR hc hcl
      have hq := Lib.hid fun h => rep3_lines hlt Hall.out h
      generalize r.lines[k] = x at *
      obtain ⟨q, hqe⟩ : ∃ q, lnErrAt r.tot r.lines k = q := ⟨_, rfl⟩
      have Hqe := Lib.hid hqe
      rw [hqe] at Hcl hq
      clear hqe
      go_upto_region 9 with fail
      have M3 := hM.alloc (.cells #[.string x.key, .int .u64 x.lo, .int .u64 x.hi] 71)
      have B4 := B3.same (World.grownBy_alloc wr (.cells #[.string x.key, .int .u64 x.lo, .int .u64 x.hi] 71) none)
      have A3 := Blk.new wr #[.string x.key, .int .u64 x.lo, .int .u64 x.hi] 71
      have g3 : wr.grownBy (wr.alloc (.cells #[.string x.key, .int .u64 x.lo, .int .u64 x.hi] 71)) none := World.grownBy_alloc wr _ none
      generalize wr.alloc (.cells #[.string x.key, .int .u64 x.lo, .int .u64 x.hi] 71) = w3 at *
      generalize wr.heap.size = lb at *
      clear c0 c1 c2 hM B3 B2
      have b4 := B4.cell
      go_upto_region 10 with (go_at_call 50; refine (Hcl.out _ g3).mono ?_; rintro e w4 ⟨rfl, g4⟩)
      clear b4 B4
      have M4 := M3.kept g4 (by simp)
      have A4 := (A3.same g4).cell
      have K4 := grownBy_trans hg (grownBy_some (grownBy_trans g3 g4) (some mb))
      have KW := grownBy_trans hgw (grownBy_trans g3 g4)
      by_cases hq0 : q = 0
      · subst hq0
        have hkey := keyOf_string_mk Try.underlying9 (s := x.key) (by unfold maxLen; omega)
        have hkm : k < maxLen := by unfold maxLen; omega
        go_wp2_with (at_mapUpdate; refine wpList_mapUpdate_own _ rfl _ _ _ 94 rfl 9 4 keyLaw Try.underlying94 (plainElem (H := Unit) Try.prog 4) mb k _ rfl M4 hkm _ _ _ rfl rfl hkey _ [] (plainElem_bool Try.underlying4 true) ?_; intro w5 M5 g5)
        exact ⟨⟨k + 1, by omega, by go_num, fun i hi => by
          rcases Nat.lt_or_ge i k with h | h
          · exact Hall.out i h
          · obtain rfl : i = k := by omega
            exact Hqe.out, by rw [HS.out, setS_snoc]; exact M5, grownBy_trans K4 g5⟩, by simp [intOf]; omega⟩
      · have hqb : (q != 0) = true := by simp [hq0]
        have HQ := Lib.hid (HE.out.trans (hq.out hq0))
        go_wp2_with fail
        go_ret
        exact retInt HQ.out KW
    · have hke : r.lines.take k = r.lines := List.take_of_length_le (by omega)
      rw [hke] at hM
      obtain rfl : k = r.lines.length := by omega
      clear hke hk
      obtain ⟨hs1, hs2⟩ := setS_size (keysN r.lines)
      have hkl : (keysN r.lines).length = r.lines.length := by simp [keysN]
      rw [hkl] at hs1 hs2
      have H10 := Lib.hid fun h => HE.out.trans (rep3_10 Hall.out h)
      have H4 := Lib.hid fun h => HE.out.trans (rep3_4 Hall.out h)
      have HM := Lib.hid hM
      generalize setS (keysN r.lines) = D at *
      generalize hsz : Maps.size D = sz at *
      have b3 := B3.cell
      by_cases hnd : (keysN r.lines).Nodup
      · have hse := hs2.2 hnd
        have HX := Lib.hid (H4.out hnd)
        clear H10 H4 hnd hs1 hs2
        have hne : ((sz : Int) != (r.lines.length : Int)) = false := by rw [hse]; simp
        have Hsz := Lib.hid hsz
        clear hsz hse
        have hcl := fun w' (h : World.grownBy wr w' none) => lows_c _ r.lines w' (RdL.same RR.lines h) HW.out.lines
        rw [E1.out] at hcl
        have hT0 : 0 ≤ loSum r.lines := loSum_pos fun y hy => (HW.out.lines y hy).lo.1
        obtain ⟨ho0, ho1⟩ := HW.out.over
        obtain ⟨T, hT⟩ : ∃ T, loSum r.lines = T := ⟨_, rfl⟩
        rw [hT] at hcl hT0
        have H13 := Lib.hid fun h => HX.out.trans (rep4_13 (r := r) (by rw [hT]; exact h))
        have H3 := Lib.hid fun h h2 => HX.out.trans (rep4_3 (r := r) (by rw [hT]; exact h) h2)
        have H0 := Lib.hid fun h h2 => HX.out.trans (rep4_0 (r := r) (by rw [hT]; exact h) h2)
        clear hT HX
        by_cases hf : r.over + T ≤ 18446744073709551615
        · have f1 : fitL T = true := by unfold fitL; exact decide_eq_true (by omega)
          have f2 : satL T = T := by unfold satL; rw [if_pos (by omega)]
          have f3 : fitA T r.over = true := by unfold fitA; exact decide_eq_true (by omega)
          have f4 : satA T r.over = T + r.over := by unfold satA; rw [if_pos (by omega)]
          have hcl2 : ∀ w', World.grownBy wr w' none → Calls Try.prog 51 #[.slice la r.lines.length lc] w' fun e w'' => e = .returned (.tuple #[.int .u64 T, .bool true]) ∧ w'.grownBy w'' none := fun w' h => (hcl w' h).mono fun e w'' ⟨he, hg⟩ => ⟨by rw [he, f1, f2], hg⟩
          have had : ∀ w', Calls Try.prog 52 #[.int .u64 T, .int .u64 r.over] w' fun e w'' => e = .returned (.tuple #[.int .u64 (T + r.over), .bool true]) ∧ w' = w'' := fun w' => (satAdd_c T r.over w' ⟨hT0, by omega⟩ ⟨ho0, ho1⟩).mono fun e w'' ⟨he, hg⟩ => ⟨by rw [he, f3, f4], hg⟩
          have Hcl := Lib.hid hcl2
          have Had := Lib.hid had
          clear hcl hcl2 had f1 f2 f3 f4 HM
          by_cases ht : T + r.over = r.tot
          · have htb : ((T + r.over : Int) != r.tot) = false := by rw [ht]; simp
            have H3' := Lib.hid (H3.out (by omega))
            have H0' := Lib.hid (H0.out (by omega))
            clear H3 H0 H13 ht hf
            by_cases h7 : r.rej.length = 7
            · obtain ⟨g7, o7, c7, hv7, hg7, hc7⟩ := RdL.one word_one RR.rej (k := 0) (by omega)
              rw [E2.out] at hv7
              cases hv7
              have h7b : ((r.rej.length : Int) != 7) = false := by rw [h7]; rfl
              have h7c : (0 : Int) < (r.rej.length : Int) := by omega
              rw [Nat.add_zero] at hc7
              have H7 := Lib.hid h7
              obtain ⟨r0, hr0, hr1⟩ : ∃ r0, r.rej[0]? = some r0 ∧ wr.cell? ⟨g7, o7, none⟩ = some (.int .u64 r0) := ⟨r.rej[0], List.getElem?_eq_getElem (by omega), hc7⟩
              clear hc7
              have hc7 := hr1
              have Hr0 := Lib.hid hr0
              clear hr0 hr1 h7
              have HC7 := Lib.hid fun w' (h : World.grownBy wr w' none) => ((grownBy_cells h).1 g7 o7 hg7 (by simp)).trans hc7
              have HB3 := Lib.hid B3
              clear hc7 B3
              by_cases hz : r0 = 0
              · have HZ := Lib.hid (H0'.out (by rw [Hr0.out, hz]; have := H7.out; simp; omega))
                rw [hz] at HC7
                clear H3' H0' Hr0 hz H7
                go_upto_region 17 with (first
                  | (at_len; refine wpList_len_own _ rfl _ 94 rfl 9 4 Try.underlying94 _ mb r.lines.length D rfl hM ?_; rw [Hsz.out])
                  | (go_at_call 51; refine (Hcl.out _ (grownBy_refl _ _)).mono ?_; rintro e w6 ⟨rfl, g6⟩; have b6 := (HB3.out.same g6).cell; have c6 := HC7.out _ g6; have K6 := grownBy_trans hgw g6))
                go_wp2_with (go_at_call 52; refine (Had.out _).mono ?_; rintro e w7 ⟨rfl, rfl⟩)
                go_ret
                exact retInt HZ.out K6
              · have hzb : ((r0 : Int) != 0) = true := by simp [hz]
                have HZ := Lib.hid (H3'.out (.inr (by rw [Hr0.out]; simp [hz])))
                clear H3' H0' Hr0 hz H7
                go_upto_region 17 with (first
                  | (at_len; refine wpList_len_own _ rfl _ 94 rfl 9 4 Try.underlying94 _ mb r.lines.length D rfl hM ?_; rw [Hsz.out])
                  | (go_at_call 51; refine (Hcl.out _ (grownBy_refl _ _)).mono ?_; rintro e w6 ⟨rfl, g6⟩; have b6 := (HB3.out.same g6).cell; have c6 := HC7.out _ g6; have K6 := grownBy_trans hgw g6))
                go_wp2_with (go_at_call 52; refine (Had.out _).mono ?_; rintro e w7 ⟨rfl, rfl⟩)
                go_ret
                exact retInt HZ.out K6
            · have h7b : ((r.rej.length : Int) != 7) = true := by simp; omega
              have HZ := Lib.hid (H3'.out (.inl h7))
              clear H3' H0' h7
              have HB3 := Lib.hid B3
              go_upto_region 17 with (first
                | (at_len; refine wpList_len_own _ rfl _ 94 rfl 9 4 Try.underlying94 _ mb r.lines.length D rfl hM ?_; rw [Hsz.out])
                | (go_at_call 51; refine (Hcl.out _ (grownBy_refl _ _)).mono ?_; rintro e w6 ⟨rfl, g6⟩; have b6 := (HB3.out.same g6).cell; have K6 := grownBy_trans hgw g6))
              go_wp2_with (go_at_call 52; refine (Had.out _).mono ?_; rintro e w7 ⟨rfl, rfl⟩)
              go_ret
              exact retInt HZ.out K6
          · have htb : ((T + r.over : Int) != r.tot) = true := by simp [ht]
            have HZ := Lib.hid (H13.out (.inr (by omega)))
            clear H3 H0 H13 ht hf
            have HB3 := Lib.hid B3
            go_upto_region 17 with (first
              | (at_len; refine wpList_len_own _ rfl _ 94 rfl 9 4 Try.underlying94 _ mb r.lines.length D rfl hM ?_; rw [Hsz.out])
              | (go_at_call 51; refine (Hcl.out _ (grownBy_refl _ _)).mono ?_; rintro e w6 ⟨rfl, g6⟩; have b6 := (HB3.out.same g6).cell; have K6 := grownBy_trans hgw g6))
            go_wp2_with (go_at_call 52; refine (Had.out _).mono ?_; rintro e w7 ⟨rfl, rfl⟩)
            go_ret
            exact retInt HZ.out K6
        · have HZ := Lib.hid (H13.out (.inl (by omega)))
          have hW1 := satL_w hT0
          have hfa := fitL_add (n := T) (x := r.over) ho0
          have hfn : fitL (T + r.over) = false := by unfold fitL; exact decide_eq_false (by omega)
          rw [hfn] at hfa
          clear H3 H0 H13 HM hfn
          have HB3 := Lib.hid B3
          have hcl2 : ∀ w', World.grownBy wr w' none → Calls Try.prog 51 #[.slice la r.lines.length lc] w' fun e w'' => e = .returned (.tuple #[.int .u64 (satL T), .bool (fitL T)]) ∧ w'.grownBy w'' none := hcl
          have Hcl := Lib.hid hcl2
          clear hcl hcl2 hf
          generalize fitL T = f1 at *
          generalize satL T = s1 at *
          have Had := Lib.hid fun w' => satAdd_c s1 r.over w' hW1 ⟨ho0, ho1⟩
          generalize fitA s1 r.over = f2 at *
          generalize satA s1 r.over = s2 at *
          have hfe : f1 = false ∨ f2 = false := by cases f1 <;> simp_all
          clear hfa
          rcases hfe with rfl | rfl
          · go_upto_region 17 with (first
              | (at_len; refine wpList_len_own _ rfl _ 94 rfl 9 4 Try.underlying94 _ mb r.lines.length D rfl hM ?_; rw [Hsz.out])
              | (go_at_call 51; refine (Hcl.out _ (grownBy_refl _ _)).mono ?_; rintro e w6 ⟨rfl, g6⟩; have b6 := (HB3.out.same g6).cell; have K6 := grownBy_trans hgw g6))
            go_wp2_with (go_at_call 52; refine (Had.out _).mono ?_; rintro e w7 ⟨rfl, rfl⟩)
            go_ret
            exact retInt HZ.out K6
          · cases f1
            all_goals
              go_upto_region 17 with (first
                | (at_len; refine wpList_len_own _ rfl _ 94 rfl 9 4 Try.underlying94 _ mb r.lines.length D rfl hM ?_; rw [Hsz.out])
                | (go_at_call 51; refine (Hcl.out _ (grownBy_refl _ _)).mono ?_; rintro e w6 ⟨rfl, g6⟩; have b6 := (HB3.out.same g6).cell; have K6 := grownBy_trans hgw g6))
              go_wp2_with (go_at_call 52; refine (Had.out _).mono ?_; rintro e w7 ⟨rfl, rfl⟩)
              go_ret
              exact retInt HZ.out K6
      · have hne : ((sz : Int) != (r.lines.length : Int)) = true := by
          have : sz ≠ r.lines.length := fun e => hnd (hs2.1 e)
          simp; omega
        have HX := Lib.hid (H10.out hnd)
        clear H10 H4 hnd hs1 hs2
        have Hsz := Lib.hid hsz
        clear hsz
        go_wp2_with (at_len; refine wpList_len_own _ rfl _ 94 rfl 9 4 Try.underlying94 _ mb r.lines.length D rfl hM ?_; rw [Hsz.out])
        go_ret
        exact retInt HX.out hgw
end Go.Proofs.Ytiagjiaahnkefaa

/- Which reports are accepted: the reference. -/
namespace Go.Proofs.Ytiagjiaahnkefaa
open Go.RowKit Go.Sort

theorem satL_id {n : Int} (h : n ≤ 18446744073709551615) : satL n = n := by unfold satL; rw [if_pos h]
theorem fitL_id {n : Int} (h : n ≤ 18446744073709551615) : fitL n = true := by unfold fitL; exact decide_eq_true h

set_option maxHeartbeats 2000000 in
set_option maxRecDepth 100000 in
theorem rrep1_c (r : Rep) (w : World) (hR : RepRd w r) (hW : RepW r) (p : (r.win < 0 ∨ 1099511627776 < r.win ∨ 9223372036854775808 < r.tot ∨ r.tot < r.rest) ∨ 64 < r.lines.length ∨ r.trk < r.lines.length ∨ 768 < r.trk) : Calls Try.prog 17 #[repV r.win r.tot r.vl r.over r.trk r.rest r.vr] w (RetInt (repErr r) w) := by
  have HR := Lib.hid hR
  have HW := Lib.hid hW
  obtain ⟨la, lc, e1⟩ := hR.lines.shape
  obtain ⟨ra, rc, e2⟩ := hR.rej.shape
  have hlm := hR.lines.2.1
  have hrm := hR.rej.2.1
  clear hR hW
  rw [e1, e2]
  have E1 := Lib.hid e1
  have E2 := Lib.hid e2
  clear e1 e2
  by_cases p1 : r.win < 0 ∨ 1099511627776 < r.win ∨ 9223372036854775808 < r.tot ∨ r.tot < r.rest
  · have HE := Lib.hid (rep_1 p1)
    have hg := Lib.hid (grownBy_new_block (grownBy_refl w none) (.cells #[.int .i64 r.win, .int .u64 r.tot, .slice la r.lines.length lc, .int .u64 r.over, .int .i64 r.trk, .int .u64 r.rest, .slice ra r.rej.length rc] 26))
    generalize repErr r = q at *
    rcases p1 with h | h | h | h
    all_goals
      go_enter Try.func17, Try.ntmps17
      go_wp2_with fail
      all_goals
        go_ret
        exact retInt HE.out hg.out
  by_cases p2 : 64 < r.lines.length ∨ r.trk < r.lines.length ∨ 768 < r.trk
  · have HE := Lib.hid (rep_7 p1 p2)
    have hg := Lib.hid (grownBy_new_block (grownBy_refl w none) (.cells #[.int .i64 r.win, .int .u64 r.tot, .slice la r.lines.length lc, .int .u64 r.over, .int .i64 r.trk, .int .u64 r.rest, .slice ra r.rej.length rc] 26))
    generalize repErr r = q at *
    have q1 : 0 ≤ r.win := by omega
    have q2 : r.win ≤ 1099511627776 := by omega
    have q3 : r.tot ≤ 9223372036854775808 := by omega
    have q4 : r.rest ≤ r.tot := by omega
    clear p1
    rcases p2 with h | h | h
    · have h' : (64 : Int) < (r.lines.length : Int) := by omega
      go_enter Try.func17, Try.ntmps17
      go_wp2_with fail
      all_goals
        go_ret
        exact retInt HE.out hg.out
    all_goals
      go_enter Try.func17, Try.ntmps17
      go_wp2_with fail
      all_goals
        go_ret
        exact retInt HE.out hg.out
  exact absurd p (by simp only [not_or] at *; omega)
end Go.Proofs.Ytiagjiaahnkefaa

/- Which reports are accepted: the reference, behind its first tests. -/
namespace Go.Proofs.Ytiagjiaahnkefaa
open Go.RowKit Go.Sort

theorem keys_dup {ls : List Ln} {j k : Nat} (hjk : j < k) (hk : k < ls.length) (h : ls[j].key.data.toList = ls[k].key.data.toList) : ¬ (keysN ls).Nodup := by
  intro hn
  have h1 := List.pairwise_iff_getElem.1 hn j k (by simp [keysN]; omega) (by simp [keysN]; omega) hjk
  apply h1
  simp only [keysN, List.getElem_map]
  exact h
theorem keys_more {ls : List Ln} {k : Nat} {b : List UInt8} (hn : (keysN (ls.take k)).Nodup) (h : ∀ i (hi : i < ls.length), i < k → ls[i].key.data.toList ≠ b) : (keysN (ls.take k) ++ [b]).Nodup := by
  rw [List.nodup_append]
  refine ⟨hn, by simp, fun a ha c hc e => ?_⟩
  rw [List.mem_singleton] at hc
  subst hc
  subst e
  obtain ⟨x, hx, rfl⟩ := List.mem_map.1 ha
  obtain ⟨i, hi, rfl⟩ := List.getElem_of_mem hx
  rw [List.length_take] at hi
  rw [List.getElem_take] at h
  exact h i (by omega) (by omega) rfl
set_option maxHeartbeats 2000000 in
set_option maxRecDepth 100000 in
theorem rrep2_c (r : Rep) (w : World) (hR : RepRd w r) (hW : RepW r) (p1 : ¬ (r.win < 0 ∨ 1099511627776 < r.win ∨ 9223372036854775808 < r.tot ∨ r.tot < r.rest)) (p2 : ¬ (64 < r.lines.length ∨ r.trk < r.lines.length ∨ 768 < r.trk)) : Calls Try.prog 17 #[repV r.win r.tot r.vl r.over r.trk r.rest r.vr] w (RetInt (repErr r) w) := by
  have HR := Lib.hid hR
  have HW := Lib.hid hW
  obtain ⟨la, lc, e1⟩ := hR.lines.shape
  obtain ⟨ra, rc, e2⟩ := hR.rej.shape
  have hlm := hR.lines.2.1
  have hrm := hR.rej.2.1
  clear hR hW
  rw [e1, e2]
  have E1 := Lib.hid e1
  have E2 := Lib.hid e2
  clear e1 e2
  have HE := Lib.hid (rep_3 p1 p2)
  have q1 : 0 ≤ r.win := by omega
  have q2 : r.win ≤ 1099511627776 := by omega
  have q3 : r.tot ≤ 9223372036854775808 := by omega
  have q4 : r.rest ≤ r.tot := by omega
  have q5 : (r.lines.length : Int) ≤ 64 := by omega
  have q6 : (r.lines.length : Int) ≤ r.trk := by omega
  have q7 : r.trk ≤ 768 := by omega
  clear p1 p2
  go_enter Try.func17, Try.ntmps17
  go_upto_region 5 with fail
  have B1 := Blk.new w #[.int .i64 r.win, .int .u64 r.tot, .slice la r.lines.length lc, .int .u64 r.over, .int .i64 r.trk, .int .u64 r.rest, .slice ra r.rej.length rc] 26
  have G1 := grownBy_new_block (grownBy_refl w none) (.cells #[.int .i64 r.win, .int .u64 r.tot, .slice la r.lines.length lc, .int .u64 r.over, .int .i64 r.trk, .int .u64 r.rest, .slice ra r.rej.length rc] 26)
  generalize w.alloc (.cells #[.int .i64 r.win, .int .u64 r.tot, .slice la r.lines.length lc, .int .u64 r.over, .int .i64 r.trk, .int .u64 r.rest, .slice ra r.rej.length rc] 26) = w1 at *
  generalize w.heap.size = b at *
  clear q1 q2 q3 q4 q5 q6 q7
  have b1 := B1.cell
  go_wp2_with fail
  clear b1
  obtain ⟨ho0, ho1⟩ := HW.out.over
  have hs0 : satL (r.over + loSum (r.lines.take 0)) = r.over := by rw [show loSum (r.lines.take 0) = 0 from rfl, Int.add_zero]; exact satL_id ho1
  have hf0 : fitL (r.over + loSum (r.lines.take 0)) = true := by rw [show loSum (r.lines.take 0) = 0 from rfl, Int.add_zero]; exact fitL_id ho1
  go_loopw [3, 4, 54] (fun s3 s4 s54 wk => ∃ k : Nat, k ≤ r.lines.length ∧ s54 = .int .i64 k ∧ (∀ i, i < k → lnErrAt r.tot r.lines i = 0) ∧ s3 = .int .u64 (satL (r.over + loSum (r.lines.take k))) ∧ s4 = .bool (fitL (r.over + loSum (r.lines.take k))) ∧ w1.grownBy wk none) (fun _ _ s54 _ => r.lines.length - (intOf s54).toNat)
  case atStart => exact ⟨0, Nat.zero_le _, rfl, by intro i h; omega, by rw [hs0], by rw [hf0], grownBy_refl _ _⟩
  case round =>
    clear hs0 hf0
    obtain ⟨k, hk, rfl, hall, rfl, rfl, hg⟩ := hrel
    have Hall := Lib.hid hall
    clear hall
    have hgw := grownBy_trans G1 hg
    have B3 := B1.same hg
    have RR := HR.out.same hgw
    by_cases hlt : k < r.lines.length
    · obtain ⟨g, off, cap, hv, hgl, hc⟩ := RR.lines.at_ lnF_len hlt
      rw [E1.out] at hv
      cases hv
      have c0 := hc 0 _ rfl
      have c1 := hc 1 _ rfl
      have c2 := hc 2 _ rfl
      rw [Nat.add_zero] at c0
      clear hc
      have hxw := HW.out.lines _ (List.getElem_mem hlt)
      have hps : 0 ≤ loSum (r.lines.take k) := loSum_pos fun x hx => (HW.out.lines x (List.mem_of_mem_take hx)).lo.1
      have HS1 := Lib.hid (show satL (r.over + loSum (r.lines.take (k + 1))) = satA (satL (r.over + loSum (r.lines.take k))) r.lines[k].lo by rw [List.take_succ_eq_append_getElem hlt, loSum_snoc, satL_add (by omega) hxw.lo.1, Int.add_assoc])
      have HS2 := Lib.hid (show fitL (r.over + loSum (r.lines.take (k + 1))) = (fitL (r.over + loSum (r.lines.take k)) && fitA (satL (r.over + loSum (r.lines.take k))) r.lines[k].lo) by rw [List.take_succ_eq_append_getElem hlt, loSum_snoc, fitL_add hxw.lo.1, Int.add_assoc])
      have hw1 : W64 (satL (r.over + loSum (r.lines.take k))) := satL_w (by omega)
      have hw2 : W64 r.lines[k].lo := hxw.lo
      have hkey := hxw.key
      have hq := Lib.hid fun h => rep3_lines hlt Hall.out h
      have Hnext := Lib.hid (p := lnErrAt r.tot r.lines k = 0 → ∀ i, i < k + 1 → lnErrAt r.tot r.lines i = 0) (fun h i hi => by
        rcases Nat.lt_or_ge i k with h2 | h2
        · exact Hall.out i h2
        · obtain rfl : i = k := by omega
          exact h)
      have HQ := Lib.hid (p := lnErrAt r.tot r.lines k = lnErr r.tot (prevL r.lines k) r.lines[k]) (by unfold lnErrAt; rw [List.getElem?_eq_getElem hlt])
      have HV := Lib.hid (p := lnErrAt r.tot r.lines k ≠ 0 → repErr r = lnErrAt r.tot r.lines k) (fun h => HE.out.trans (hq.out h))
      have HV2 := Lib.hid (p := ∀ v : Int, v ≠ 0 → lnErr r.tot (prevL r.lines k) r.lines[k] = v → repErr r = v) (fun v h1 h2 => by have h3 := HQ.out.trans h2; rw [HV.out (by omega), h3])
      have Hn2 := Lib.hid (p := lnErr r.tot (prevL r.lines k) r.lines[k] = 0 → ∀ i, i < k + 1 → lnErrAt r.tot r.lines i = 0) (fun h => Hnext.out (HQ.out.trans h))
      clear hq hxw hps HQ HV Hnext
      generalize satL (r.over + loSum (r.lines.take k)) = T at *
      generalize fitL (r.over + loSum (r.lines.take k)) = F at *
      generalize r.lines[k] = x at *
      go_upto_region 9 with fail
      have B4 := B3.same (World.grownBy_alloc wr (.cells #[.string x.key, .int .u64 x.lo, .int .u64 x.hi] 71) none)
      have A3 := Blk.new wr #[.string x.key, .int .u64 x.lo, .int .u64 x.hi] 71
      have g3 : wr.grownBy (wr.alloc (.cells #[.string x.key, .int .u64 x.lo, .int .u64 x.hi] 71)) none := World.grownBy_alloc wr _ none
      generalize wr.alloc (.cells #[.string x.key, .int .u64 x.lo, .int .u64 x.hi] 71) = w3 at *
      generalize wr.heap.size = lb at *
      clear c0 c1 c2 B3 hgl
      have b4 := B4.cell
      have a4 := A3.cell
      have R3 := RR.same g3
      have hg3 := grownBy_trans hg g3
      have hgw3 := grownBy_trans hgw g3
      clear RR hg hgw g3
      have hk0 : (0 : Int) ≤ (k : Int) := by omega
      have hk1 : (k : Int) < (r.lines.length : Int) := by omega
      go_upto_region 15 with fail
      · go_ret
        exact retInt (HV2.out 3 (by decide) (ln_empty (by assumption))) hgw3
      · go_ret
        exact retInt (HV2.out 4 (by decide) (ln_long (by assumption) (by assumption))) hgw3
      · go_ret
        exact retInt (HV2.out 1 (by decide) (ln_range (by assumption) (by assumption) (by assumption))) hgw3
      rotate_left
      · go_ret
        exact retInt (HV2.out 1 (by decide) (ln_range (by assumption) (by assumption) (Or.inl (by assumption)))) hgw3
      have he : x.key.toList.isEmpty = false := by assumption
      have hl : (x.key.size : Int) ≤ 255 := by assumption
      have h3 : x.lo ≤ x.hi := by assumption
      have h4 : x.hi ≤ r.tot := And.right (show x.lo ≤ x.hi ∧ x.hi ≤ r.tot by assumption)
      have HL := Lib.hid (fun p => ln_rest (p := p) he hl h3 h4)
      clear he hl h3 h4
      have hR := fun w' => radd_c T x.lo w' hw1 hw2
      have Hadd := Lib.hid hR
      clear hR
      cases k with
      | zero =>
        have HN := Lib.hid (Hn2.out (HL.out _))
        go_quiet (fail)
        cases F
        · go_wp2_with (go_at_call 54; refine (Hadd.out _).mono ?_; rintro e w' ⟨rfl, rfl⟩)
          exact ⟨⟨0 + 1, by omega, by go_num, HN.out, by rw [HS1.out], by rw [HS2.out, Bool.false_and], grownBy_drewN hg3 _⟩, by simp [intOf]; omega⟩
        · go_wp2_with (go_at_call 54; refine (Hadd.out _).mono ?_; rintro e w' ⟨rfl, rfl⟩)
          exact ⟨⟨0 + 1, by omega, by go_num, HN.out, by rw [HS1.out], by rw [HS2.out, Bool.true_and], grownBy_drewN hg3 _⟩, by simp [intOf]; omega⟩
      | succ m =>
        obtain ⟨g', off', cap', hv', hgl', hd⟩ := R3.lines.at_ lnF_len (show m < r.lines.length by omega)
        rw [E1.out] at hv'
        cases hv'
        have d0 := cell_regrown (hd 0 _ rfl)
        have d1 := cell_regrown (hd 1 _ rfl)
        have d2 := cell_regrown (hd 2 _ rfl)
        simp only [Nat.add_zero] at d0
        clear hd
        have hpl : prevL r.lines (m + 1) = some r.lines[m] := by simp [prevL, List.getElem?_eq_getElem (show m < r.lines.length by omega)]
        rw [hpl] at HV2 Hn2
        clear hpl
        generalize r.lines[m] = y at *
        have HL2 := Lib.hid (show lnErr r.tot (some y) x = if !(befB y x) then 6 else 0 from HL.out (some y))
        have hs1 : IntKind.i64.wrap (((m + 1 : Nat) : Int) - 1) = (m : Int) := by rw [IntWalk.i64_in _ (by omega)]; omega
        have hs2 : ((m + 1 : Nat) : Int) - 1 = (m : Int) := by omega
        have hgt : decide ((0 : Int) < ((m + 1 : Nat) : Int)) = true := decide_eq_true (by omega)
        have hl2 : (0 : Int) ≤ (m : Int) := by omega
        have hl3 : (m : Int) < (r.lines.length : Int) := by omega
        have e1 := B4.re
        have e2 := A3.re
        have r4 := call_re (w := w3) fun w' hg => rbefore_c y x w'
        clear b4 a4
        generalize befB y x = bb at *
        (refine Tail.wp_region_tail_grown 14 (by kernel_rfl) (by kernel_rfl) ?_; simp only [List.take, List.drop]; (repeat (go_big_quiet_step (with_reducible exact r4 _ _))); refine wpQuiet_nil ?_; rintro _ ⟨⟨d5, os5⟩, rfl⟩)
        have K3 := grown_re w3 d5 os5
        have A5 := (A3.same K3).cell
        generalize grow (redrawn w3 d5) os5 = w5 at *
        clear d0 d1 d2 e1 e2 r4
        cases bb
        · go_wp2_with fail
          go_ret
          exact retInt (HV2.out 6 (by decide) HL2.out) (grownBy_trans hgw3 K3)
        · have HN := Lib.hid (Hn2.out HL2.out)
          cases F
          · go_wp2_with (go_at_call 54; refine (Hadd.out _).mono ?_; rintro e w' ⟨rfl, rfl⟩)
            exact ⟨⟨m + 1 + 1, by omega, by go_num, HN.out, by rw [HS1.out], by rw [HS2.out, Bool.false_and], grownBy_trans hg3 K3⟩, by simp [intOf]; omega⟩
          · go_wp2_with (go_at_call 54; refine (Hadd.out _).mono ?_; rintro e w' ⟨rfl, rfl⟩)
            exact ⟨⟨m + 1 + 1, by omega, by go_num, HN.out, by rw [HS1.out], by rw [HS2.out, Bool.true_and], grownBy_trans hg3 K3⟩, by simp [intOf]; omega⟩
    · have hke : r.lines.take k = r.lines := List.take_of_length_le (by omega)
      rw [hke]
      obtain rfl : k = r.lines.length := by omega
      clear hke hk
      have H10 := Lib.hid fun h => HE.out.trans (rep3_10 Hall.out h)
      have H4 := Lib.hid fun h => HE.out.trans (rep3_4 Hall.out h)
      obtain ⟨S, hS⟩ : ∃ S, r.over + loSum r.lines = S := ⟨_, rfl⟩
      have HSd := Lib.hid hS
      rw [hS]
      clear hS HE Hall
      have b3 := B3.cell
      go_upto_region 22 with fail
      clear b3
      go_loopw [110] (fun s110 wk => ∃ k : Nat, k ≤ r.lines.length ∧ s110 = .int .i64 k ∧ (keysN (r.lines.take k)).Nodup ∧ wr.grownBy wk none) (fun s110 _ => r.lines.length - (intOf s110).toNat)
      case atStart => exact ⟨0, Nat.zero_le _, rfl, by simp [keysN], grownBy_refl _ _⟩
      case round =>
        obtain ⟨k, hk, rfl, hnd, hg2⟩ := hrel
        have Hnd := Lib.hid hnd
        clear hnd
        have R2 := RR.same hg2
        have B2 := B3.same hg2
        have hgw2 := grownBy_trans hgw hg2
        have b2 := B2.cell
        by_cases hlt2 : k < r.lines.length
        · obtain ⟨g, off, cap, hv, hgl, hc⟩ := R2.lines.at_ lnF_len hlt2
          rw [E1.out] at hv
          cases hv
          have c0 := hc 0 _ rfl
          have c1 := hc 1 _ rfl
          have c2 := hc 2 _ rfl
          rw [Nat.add_zero] at c0
          clear hc
          have hcap := (HR.out.lcap _ _ _ E1.out)
          have Hk := Lib.hid (keysN_snoc hlt2)
          have hk0 : (0 : Int) ≤ (k : Int) := by omega
          have hk1 : (k : Int) < (r.lines.length : Int) := by omega
          have hk2 : (k : Int) ≤ (lc : Int) := by omega
          obtain ⟨x, hx⟩ : ∃ x, r.lines[k] = x := ⟨_, rfl⟩
          have Hx := Lib.hid hx
          rw [hx] at c0 c1 c2 Hk
          clear hx
          go_upto_region 24 with fail
          have B4 := B2.same (World.grownBy_alloc wr (.cells #[.string x.key, .int .u64 x.lo, .int .u64 x.hi] 71) none)
          have R4 := R2.same (World.grownBy_alloc wr (.cells #[.string x.key, .int .u64 x.lo, .int .u64 x.hi] 71) none)
          have A4 := Blk.new wr #[.string x.key, .int .u64 x.lo, .int .u64 x.hi] 71
          have K4 := grownBy_new_block hg2 (.cells #[.string x.key, .int .u64 x.lo, .int .u64 x.hi] 71)
          generalize wr.alloc (.cells #[.string x.key, .int .u64 x.lo, .int .u64 x.hi] 71) = w4 at *
          generalize wr.heap.size = lb at *
          clear c0 c1 c2 b2 B2 R2 hgw2 hg2 hgl
          have b4 := B4.cell
          go_upto_region 25 with fail
          clear b4
          go_loopw [120] (fun s120 wk => ∃ j : Nat, j ≤ k ∧ s120 = .int .i64 j ∧ (∀ i (hi : i < r.lines.length), i < j → r.lines[i].key.data.toList ≠ x.key.data.toList) ∧ w4.grownBy wk none) (fun s120 _ => k - (intOf s120).toNat)
          case atStart => exact ⟨0, Nat.zero_le _, rfl, by intro i _ h; omega, grownBy_refl _ _⟩
          case round =>
            obtain ⟨j, hj, rfl, hne, hg5⟩ := hrel
            have Hne := Lib.hid hne
            clear hne
            by_cases hjl : j < k
            · obtain ⟨g', off', cap', hv', hgl', hd⟩ := (R4.same hg5).lines.at_ lnF_len (show j < r.lines.length by omega)
              rw [E1.out] at hv'
              cases hv'
              have d0 := hd 0 _ rfl
              have d1 := hd 1 _ rfl
              have d2 := hd 2 _ rfl
              rw [Nat.add_zero] at d0
              clear hd
              obtain ⟨y, hy⟩ : ∃ y, r.lines[j] = y := ⟨_, rfl⟩
              have Hy := Lib.hid hy
              rw [hy] at d0 d1 d2
              clear hy
              have a5 := (A4.same (grownBy_new_block hg5 (.cells #[.string y.key, .int .u64 y.lo, .int .u64 y.hi] 71))).cell
              have hj0 : (0 : Int) ≤ (j : Int) := by omega
              have hj1 : (j : Int) < (k : Int) := by omega
              have G5 := grownBy_new_block hg5 (.cells #[.string y.key, .int .u64 y.lo, .int .u64 y.hi] 71)
              obtain ⟨eb, heb⟩ : ∃ eb, (x.key.toList == y.key.toList) = eb := ⟨_, rfl⟩
              have Heb := Lib.hid heb
              have KW := grownBy_trans hgw (grownBy_trans K4 G5)
              clear heb
              rw [ByteArray.toList_eq, ByteArray.toList_eq] at Heb
              cases eb
              · have hb : (x.key.toList == y.key.toList) = false := by rw [ByteArray.toList_eq, ByteArray.toList_eq]; exact Heb.out
                go_wp2_with fail
                exact ⟨⟨j + 1, by omega, by go_num, fun i hi hij => by
                  rcases Nat.lt_or_ge i j with h | h
                  · exact Hne.out i hi h
                  · obtain rfl : i = j := by omega
                    rw [Hy.out]
                    exact fun e => by have := Heb.out; rw [e] at this; simp at this, G5⟩, by simp [intOf]; omega⟩
              · have hb : (x.key.toList == y.key.toList) = true := by rw [ByteArray.toList_eq, ByteArray.toList_eq]; exact Heb.out
                have HZ := Lib.hid (H10.out (keys_dup hjl hlt2 (by rw [Hx.out, Hy.out]; exact (eq_of_beq Heb.out).symm)))
                go_wp2_with fail
                go_ret
                exact retInt HZ.out KW
            · obtain rfl : j = k := by omega
              have HN := Lib.hid (keys_more Hnd.out Hne.out)
              go_wp2_with fail
              exact ⟨⟨j + 1, by omega, by go_num, by rw [Hk.out]; exact HN.out, grownBy_trans K4 hg5⟩, by simp [intOf]; omega⟩
        · obtain rfl : k = r.lines.length := by omega
          rw [List.take_length] at Hnd
          have HX := Lib.hid (H4.out Hnd.out)
          have H13 := Lib.hid fun h => HX.out.trans (rep4_13 (r := r) h)
          have H3 := Lib.hid fun h h2 => HX.out.trans (rep4_3 (r := r) h h2)
          have H0 := Lib.hid fun h h2 => HX.out.trans (rep4_0 (r := r) h h2)
          rw [HSd.out] at H13 H3 H0
          clear HX H10 H4 Hnd
          by_cases hf : S ≤ 18446744073709551615
          · rw [satL_id hf, fitL_id hf]
            by_cases ht : S = r.tot
            · have htb : ((S : Int) != r.tot) = false := by rw [ht]; simp
              have H3' := Lib.hid (H3.out (by omega))
              have H0' := Lib.hid (H0.out (by omega))
              clear H3 H0 H13 ht hf
              by_cases h7 : r.rej.length = 7
              · obtain ⟨g7, o7, c7, hv7, hg7, hc7⟩ := RdL.one word_one R2.rej (k := 0) (by omega)
                rw [E2.out] at hv7
                cases hv7
                have h7b : ((r.rej.length : Int) != 7) = false := by rw [h7]; rfl
                have h7c : (0 : Int) < (r.rej.length : Int) := by omega
                rw [Nat.add_zero] at hc7
                have H7 := Lib.hid h7
                obtain ⟨r0, hr0, hr1⟩ : ∃ r0, r.rej[0]? = some r0 ∧ wr.cell? ⟨g7, o7, none⟩ = some (.int .u64 r0) := ⟨r.rej[0], List.getElem?_eq_getElem (by omega), hc7⟩
                clear hc7
                have Hr0 := Lib.hid hr0
                clear hr0 h7
                by_cases hz : r0 = 0
                · have HZ := Lib.hid (H0'.out (by rw [Hr0.out, hz]; have := H7.out; simp; omega))
                  subst hz
                  clear H3' H0' Hr0 H7
                  go_wp2_with fail
                  go_ret
                  exact retInt HZ.out hgw2
                · have hzb : ((r0 : Int) != 0) = true := by simp [hz]
                  have HZ := Lib.hid (H3'.out (.inr (by rw [Hr0.out]; simp [hz])))
                  clear H3' H0' Hr0 hz H7
                  go_wp2_with fail
                  go_ret
                  exact retInt HZ.out hgw2
              · have h7b : ((r.rej.length : Int) != 7) = true := by simp; omega
                have HZ := Lib.hid (H3'.out (.inl h7))
                clear H3' H0' h7
                go_wp2_with fail
                go_ret
                exact retInt HZ.out hgw2
            · have htb : ((S : Int) != r.tot) = true := by simp [ht]
              have HZ := Lib.hid (H13.out (.inr (by omega)))
              clear H3 H0 H13 ht hf
              go_wp2_with fail
              go_ret
              exact retInt HZ.out hgw2
          · have f1 : fitL S = false := by unfold fitL; exact decide_eq_false hf
            rw [f1]
            have HZ := Lib.hid (H13.out (.inl (by omega)))
            clear H3 H0 H13 hf f1
            go_wp2_with fail
            go_ret
            exact retInt HZ.out hgw2
theorem rrepcheck_c (r : Rep) (w : World) (hR : RepRd w r) (hW : RepW r) : Calls Try.prog 17 #[repV r.win r.tot r.vl r.over r.trk r.rest r.vr] w (RetInt (repErr r) w) := by
  by_cases p1 : r.win < 0 ∨ 1099511627776 < r.win ∨ 9223372036854775808 < r.tot ∨ r.tot < r.rest
  · exact rrep1_c r w hR hW (.inl p1)
  by_cases p2 : 64 < r.lines.length ∨ r.trk < r.lines.length ∨ 768 < r.trk
  · exact rrep1_c r w hR hW (.inr p2)
  exact rrep2_c r w hR hW p1 p2
end Go.Proofs.Ytiagjiaahnkefaa

/- Which reports are short enough for the laws of chapter 24. -/
namespace Go.Proofs.Ytiagjiaahnkefaa
open Go.RowKit Go.Sort

def keysSmall (ls : List Ln) : Bool := ls.all fun x => decide (x.key.size ≤ 300)
def plainB (r : Rep) : Bool := decide (r.lines.length ≤ 90) && decide (r.rej.length ≤ 20) && keysSmall r.lines

set_option maxHeartbeats 1000000 in
set_option maxRecDepth 100000 in
theorem plain_c (r : Rep) (w : World) (hR : RepRd w r) : Calls Try.prog 12 #[repV r.win r.tot r.vl r.over r.trk r.rest r.vr] w (RetBool (plainB r) w) := by
  have HR := Lib.hid hR
  obtain ⟨la, lc, e1⟩ := hR.lines.shape
  obtain ⟨ra, rc, e2⟩ := hR.rej.shape
  have hlm := hR.lines.2.1
  have hrm := hR.rej.2.1
  clear hR
  rw [e1, e2]
  have E1 := Lib.hid e1
  have E2 := Lib.hid e2
  clear e1 e2
  have HB := Lib.hid (show plainB r = (decide (r.lines.length ≤ 90) && decide (r.rej.length ≤ 20) && keysSmall r.lines) from rfl)
  generalize plainB r = pb at *
  have hg := Lib.hid (grownBy_new_block (grownBy_refl w none) (.cells #[.int .i64 r.win, .int .u64 r.tot, .slice la r.lines.length lc, .int .u64 r.over, .int .i64 r.trk, .int .u64 r.rest, .slice ra r.rej.length rc] 26))
  by_cases p1 : 90 < r.lines.length
  · have h' : (90 : Int) < (r.lines.length : Int) := by omega
    have HZ := Lib.hid (show pb = false by rw [HB.out, decide_eq_false (show ¬ r.lines.length ≤ 90 by omega)]; rfl)
    clear HB p1
    go_enter Try.func12, Try.ntmps12
    go_wp2_with fail
    all_goals
      go_ret
      exact retBool HZ.out hg.out
  have p1' : (r.lines.length : Int) ≤ 90 := by omega
  by_cases p2 : 20 < r.rej.length
  · have h' : (20 : Int) < (r.rej.length : Int) := by omega
    have HZ := Lib.hid (show pb = false by rw [HB.out, decide_eq_false (show ¬ r.rej.length ≤ 20 by omega), Bool.and_false]; rfl)
    clear HB p1 p2
    go_enter Try.func12, Try.ntmps12
    go_wp2_with fail
    all_goals
      go_ret
      exact retBool HZ.out hg.out
  have p2' : (r.rej.length : Int) ≤ 20 := by omega
  have HZ := Lib.hid (show pb = keysSmall r.lines by rw [HB.out, decide_eq_true (show r.lines.length ≤ 90 by omega), decide_eq_true (show r.rej.length ≤ 20 by omega)]; rfl)
  clear HB p1 p2 hg
  go_enter Try.func12, Try.ntmps12
  go_upto_region 3 with fail
  have B1 := Blk.new w #[.int .i64 r.win, .int .u64 r.tot, .slice la r.lines.length lc, .int .u64 r.over, .int .i64 r.trk, .int .u64 r.rest, .slice ra r.rej.length rc] 26
  have G1 := grownBy_new_block (grownBy_refl w none) (.cells #[.int .i64 r.win, .int .u64 r.tot, .slice la r.lines.length lc, .int .u64 r.over, .int .i64 r.trk, .int .u64 r.rest, .slice ra r.rej.length rc] 26)
  generalize w.alloc (.cells #[.int .i64 r.win, .int .u64 r.tot, .slice la r.lines.length lc, .int .u64 r.over, .int .i64 r.trk, .int .u64 r.rest, .slice ra r.rej.length rc] 26) = w1 at *
  generalize w.heap.size = b at *
  have b1 := B1.cell
  go_wp2_with fail
  clear b1
  go_loopw [18] (fun s18 wk => ∃ k : Nat, k ≤ r.lines.length ∧ s18 = .int .i64 k ∧ keysSmall (r.lines.take k) = true ∧ w1.grownBy wk none) (fun s18 _ => r.lines.length - (intOf s18).toNat)
  case atStart => exact ⟨0, Nat.zero_le _, rfl, rfl, grownBy_refl _ _⟩
  case round =>
    obtain ⟨k, hk, rfl, hsm, hg⟩ := hrel
    have Hsm := Lib.hid hsm
    clear hsm
    have KW := grownBy_trans G1 hg
    by_cases hlt : k < r.lines.length
    · obtain ⟨g, off, cap, hv, hgl, hc⟩ := (HR.out.same KW).lines.at_ lnF_len hlt
      rw [E1.out] at hv
      cases hv
      have c0 := hc 0 _ rfl
      have c1 := hc 1 _ rfl
      have c2 := hc 2 _ rfl
      rw [Nat.add_zero] at c0
      clear hc
      have HS := Lib.hid (show keysSmall (r.lines.take (k + 1)) = (keysSmall (r.lines.take k) && decide (r.lines[k].key.size ≤ 300)) by unfold keysSmall; rw [List.take_succ_eq_append_getElem hlt, List.all_append]; simp)
      have HF := Lib.hid (p := ¬ r.lines[k].key.size ≤ 300 → keysSmall r.lines = false) (fun h => by
        unfold keysSmall
        rw [List.all_eq_false]
        exact ⟨r.lines[k], List.getElem_mem hlt, by simpa using h⟩)
      generalize r.lines[k] = x at *
      have G2 := grownBy_new_block hg (.cells #[.string x.key, .int .u64 x.lo, .int .u64 x.hi] 71)
      have A2 := (Blk.new wr #[.string x.key, .int .u64 x.lo, .int .u64 x.hi] 71).cell
      have KW2 := grownBy_trans G1 G2
      by_cases hs : x.key.size ≤ 300
      · have hs' : (x.key.size : Int) ≤ 300 := by omega
        go_wp2_with fail
        exact ⟨⟨k + 1, by omega, by go_num, by rw [HS.out, Hsm.out, decide_eq_true hs]; rfl, G2⟩, by simp [intOf]; omega⟩
      · have hs' : (300 : Int) < (x.key.size : Int) := by omega
        have HQ := Lib.hid (HZ.out.trans (HF.out hs))
        go_wp2_with fail
        go_ret
        exact retBool HQ.out KW2
    · have hl : r.lines.take k = r.lines := List.take_of_length_le (by omega)
      rw [hl] at Hsm
      have HQ := Lib.hid (HZ.out.trans Hsm.out)
      go_wp2_with fail
      go_ret
      exact retBool HQ.out KW
end Go.Proofs.Ytiagjiaahnkefaa

/- The low bits of a number. -/
namespace Go.Proofs.Ytiagjiaahnkefaa
open Go.RowKit

theorem and_low (n : Int) (k : Nat) (hk : k ≤ 62) : bits .and .i64 n (2 ^ k - 1) = n % 2 ^ k := by
  have h2 : (BitVec.ofInt 64 (2 ^ k - 1)).toNat = 2 ^ k - 1 := by
    have hp : (2 : Nat) ^ k ≤ 2 ^ 62 := Nat.pow_le_pow_right (by omega) hk
    have h0 : 0 < (2 : Nat) ^ k := Nat.two_pow_pos k
    rw [BitVec.toNat_ofInt]
    have e : ((2 : Int) ^ k - 1) = ((2 ^ k - 1 : Nat) : Int) := by rw [Int.natCast_sub h0]; simp
    rw [e, show ((2 ^ 64 : Nat) : Int) = 18446744073709551616 by decide]
    omega
  have key : (BitVec.ofInt 64 n &&& BitVec.ofInt 64 (2 ^ k - 1)).toNat = (n % ((2 ^ 64 : Nat) : Int)).toNat % 2 ^ k := by
    rw [BitVec.toNat_and, BitVec.toNat_ofInt, h2, Nat.and_two_pow_sub_one_eq_mod]
  show IntKind.i64.wrap ((BitVec.ofInt 64 n &&& BitVec.ofInt 64 (2 ^ k - 1)).toNat : Nat) = n % 2 ^ k
  rw [key, IntKind.wrap_i64]
  have hp : (2 : Nat) ^ k ≤ 2 ^ 62 := Nat.pow_le_pow_right (by omega) hk
  have h0 : 0 < (2 : Nat) ^ k := Nat.two_pow_pos k
  have hdv : ((2 : Int) ^ k) ∣ ((2 ^ 64 : Nat) : Int) := by
    refine ⟨2 ^ (64 - k), ?_⟩
    rw [← Int.pow_add, show k + (64 - k) = 64 by omega]; rfl
  have hmm : n % ((2 ^ 64 : Nat) : Int) % 2 ^ k = n % 2 ^ k := Int.emod_emod_of_dvd n hdv
  have hn : 0 ≤ n % ((2 ^ 64 : Nat) : Int) := Int.emod_nonneg _ (by decide)
  have e2 : (((n % ((2 ^ 64 : Nat) : Int)).toNat % 2 ^ k : Nat) : Int) = n % 2 ^ k := by
    rw [Int.natCast_emod, Int.toNat_of_nonneg hn]
    rw [← hmm]; simp
  rw [e2]
  have b1 := Int.emod_nonneg n (show (2 : Int) ^ k ≠ 0 by have : (0 : Int) < 2 ^ k := Int.pow_pos (by omega); omega)
  have b2 := Int.emod_lt_of_pos n (show (0 : Int) < 2 ^ k from Int.pow_pos (by omega))
  have b3 : (2 : Int) ^ k ≤ 4611686018427387904 := by
    have : (((2 : Nat) ^ k : Nat) : Int) ≤ ((2 ^ 62 : Nat) : Int) := Int.ofNat_le.2 hp
    simpa using this
  omega

end Go.Proofs.Ytiagjiaahnkefaa
