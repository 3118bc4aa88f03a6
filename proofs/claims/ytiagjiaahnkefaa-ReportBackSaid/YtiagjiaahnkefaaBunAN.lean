/- Several texts in one file; each begins with a comment that says what is proved in it. -/
import Derived.Test.YtiagjiaahnkefaaBunAM
import Derived.Test.YtiagjiaahnkefaaBunAH
import Derived.Test.YtiagjiaahnkefaaBunAA
import Derived.Test.YtiagjiaahnkefaaBunAB
import Derived.Laws.StructEq
import Derived.Test.YtiagjiaahnkefaaBunAI
import Derived.Test.YtiagjiaahnkefaaBunAG
import Derived.Test.YtiagjiaahnkefaaBunAL

/- Reports as bytes: Encode. -/
namespace Go.Proofs.Ytiagjiaahnkefaa
open Go.RowKit Go.Sort

theorem Blk.many {α : Type} {f : α → List Value} {size : Nat} {w : World} {g : Nat} {cs : Array Value} (h : Blk w g cs) (hf : ∀ x, (f x).length = size) (l : List α) (hcs : cs.toList = cellsOf f l) (hl : l.length ≤ 9223372036854775807) : RdL f size w (.slice (some ⟨g, 0, none⟩) l.length l.length) l := by
  refine ⟨length_cellsOf f size hf l, hl, .inr ⟨g, 0, l.length, rfl, h.lt, fun j u hu => ?_⟩⟩
  rw [Nat.zero_add, h.cell j]
  rw [← hcs] at hu
  simpa using hu
theorem rd_nat {w : World} {v : Value} {l : List Int} (h : RdL wordF 1 w v l) (h0 : ∀ x ∈ l, 0 ≤ x) : RdL natF 1 w v (l.map Int.toNat) := by
  have e : ∀ l : List Int, (∀ x ∈ l, 0 ≤ x) → cellsOf natF (l.map Int.toNat) = cellsOf wordF l := by
    intro l
    induction l with
    | nil => intro _; rfl
    | cons x l ih =>
      intro h
      have h1 := ih fun y hy => h y (List.mem_cons_of_mem _ hy)
      have h2 := h x (by simp)
      simp only [cellsOf, List.map_cons, List.flatMap_cons] at *
      rw [h1]
      simp only [natF, wordF]
      rw [Int.toNat_of_nonneg h2]
  unfold RdL
  rw [e l h0, List.length_map]
  exact h
/-- The bytes of a line. -/
def lnB (x : Ln) : List UInt8 := vb x.key.size ++ x.key.data.toList ++ vbs [x.lo.toNat, (x.hi - x.lo).toNat]
def linesB (ls : List Ln) : List UInt8 := ls.flatMap lnB
theorem linesB_snoc (ls : List Ln) (x : Ln) : linesB (ls ++ [x]) = linesB ls ++ lnB x := by simp [linesB]
def headB (r : Rep) : List UInt8 := vbs [r.win.toNat, r.tot.toNat, r.over.toNat, r.trk.toNat, r.rest.toNat] ++ vbs ((r.rej.drop 1).map Int.toNat) ++ vb r.lines.length
def encF (r : Rep) : List UInt8 := headB r ++ linesB r.lines
def encR (r : Rep) : List UInt8 := if repErr r = 0 then encF r else []
def EncPost (r : Rep) (w : World) (e : Ending) (w' : World) : Prop := ∃ v, e = .returned (.tuple #[v, .int .i64 (repErr r)]) ∧ Own byF 1 5 w.heap.size w' v (encR r) ∧ w.grownBy w' none

set_option maxHeartbeats 2000000 in
set_option maxRecDepth 100000 in
theorem encode_c (r : Rep) (w : World) (hR : RepRd w r) (hW : RepW r) : Calls Try.prog 18 #[repV r.win r.tot r.vl r.over r.trk r.rest r.vr] w (EncPost r w) := by
  have HR := Lib.hid hR
  have HW := Lib.hid hW
  obtain ⟨la, lc, e1⟩ := hR.lines.shape
  obtain ⟨ra, rc, e2⟩ := hR.rej.shape
  have hlm := hR.lines.2.1
  have hrm := hR.rej.2.1
  have hcc := fun w' (h : World.grownBy w w' none) => repcheck_c r w' (hR.same h) hW
  clear hR hW
  rw [e1, e2] at hcc
  rw [e1, e2]
  have E1 := Lib.hid e1
  have E2 := Lib.hid e2
  have Hcc := Lib.hid hcc
  have HER := Lib.hid (show encR r = if repErr r = 0 then encF r else [] from rfl)
  clear e1 e2 hcc
  go_enter Try.func18, Try.ntmps18
  go_upto_region 1 with fail
  have B1 := Blk.new w #[.int .i64 r.win, .int .u64 r.tot, .slice la r.lines.length lc, .int .u64 r.over, .int .i64 r.trk, .int .u64 r.rest, .slice ra r.rej.length rc] 26
  have G1 := grownBy_new_block (grownBy_refl w none) (.cells #[.int .i64 r.win, .int .u64 r.tot, .slice la r.lines.length lc, .int .u64 r.over, .int .i64 r.trk, .int .u64 r.rest, .slice ra r.rej.length rc] 26)
  generalize w.alloc (.cells #[.int .i64 r.win, .int .u64 r.tot, .slice la r.lines.length lc, .int .u64 r.over, .int .i64 r.trk, .int .u64 r.rest, .slice ra r.rej.length rc] 26) = w1 at *
  have hb1 := B1.lt
  obtain ⟨b, hb⟩ : ∃ b, w.heap.size = b := ⟨_, rfl⟩
  rw [hb] at B1 hb1 ⊢
  have Hb := Lib.hid hb
  clear hb
  have b1 := B1.cell
  go_upto_region 2 with (go_at_call 16; refine (Hcc.out _ G1).mono ?_; rintro e w2 ⟨rfl, g2⟩)
  clear b1
  have B2 := B1.same g2
  have G2 := grownBy_trans G1 g2
  obtain ⟨er, her⟩ : ∃ er, repErr r = er := ⟨_, rfl⟩
  have Her := Lib.hid her
  rw [her] at HER ⊢
  by_cases he : er = 0
  · subst he
    have HOK := Lib.hid (rep_ok her)
    clear her
    have h7 : r.rej.length = 7 := HOK.out.rej
    obtain ⟨gr, orr, cr, hvr, hgr, -⟩ := HR.out.rej.at_ (fun _ => rfl) (show 0 < r.rej.length by omega)
    obtain ⟨rfl, rfl⟩ : ra = some ⟨gr, orr, none⟩ ∧ rc = cr := by
      have := E2.out.symm.trans hvr
      simp only [Value.slice.injEq] at this
      exact ⟨this.1, this.2.2⟩
    have hrc : r.rej.length ≤ rc := HR.out.rcap _ _ _ E2.out
    have HE2 := Lib.hid (HER.out.trans (if_pos rfl))
    clear HER hvr
    go_upto_region 5 with fail
    have E3 := Blk.new w2 #[.slice none 0 0] 104
    have F3 : BufAt (w2.heap.size + 1) (w2.alloc (.cells #[.slice none 0 0] 104)) w2.heap.size [] := ⟨⟨_, E3, Own.nil _ _ _ _ _⟩, by omega⟩
    have B3 := B2.same (World.grownBy_alloc w2 (.cells #[.slice none 0 0] 104) none)
    have G3 := grownBy_new_block G2 (.cells #[.slice none 0 0] 104)
    have hwg : w.heap.size ≤ w2.heap.size := G2.size
    have hbg := B2.lt
    have hz3 : w2.heap.size + 1 ≤ (w2.alloc (.cells #[.slice none 0 0] 104)).heap.size := by simp
    generalize w2.alloc (.cells #[.slice none 0 0] 104) = w3 at *
    generalize w2.heap.size = g at *
    clear E3 B2 G2 Hcc g2 G1 hb1 B1
    obtain ⟨p1, p2⟩ := HOK.out.win
    obtain ⟨p3, p4⟩ := HOK.out.trk
    have hw1 : IntKind.u64.wrap r.win = r.win := IntWalk.u64_in _ (by omega)
    have hw2 : IntKind.u64.wrap r.trk = r.trk := IntWalk.u64_in _ (by omega)
    have rb := B3.re
    refine wp_region_any (by kernel_rfl) ?_
    (refine Tail.take_put 0 15 (.pointer (some ⟨g, 0, none⟩)) rfl rfl (by kernel_rfl) (by kernel_rfl) (by kernel_rfl) (fun _ _ _ h => h) (Or.inl ⟨by rfl, fun w => ?_⟩) ?_; · go_simp); simp only [List.setIfInBounds_toArray, List.set_cons_zero, List.set_cons_succ]
    (refine Tail.take_put 1 16 (.pointer (some ⟨g, 0, none⟩)) rfl rfl (by kernel_rfl) (by kernel_rfl) (by kernel_rfl) (fun _ _ _ h => h) (Or.inl ⟨by rfl, fun w => ?_⟩) ?_; · go_simp); simp only [List.setIfInBounds_toArray, List.set_cons_zero, List.set_cons_succ]
    (refine Tail.take_put 2 17 (.pointer (some ⟨g, 0, none⟩)) rfl rfl (by kernel_rfl) (by kernel_rfl) (by kernel_rfl) (fun _ _ _ h => h) (Or.inl ⟨by rfl, fun w => ?_⟩) ?_; · go_simp); simp only [List.setIfInBounds_toArray, List.set_cons_zero, List.set_cons_succ]
    (refine Tail.wpAny_tail_grown 15 [false, false, false, true, true, true, true, true, true, true, true, true, true, true, true] (by kernel_rfl) ?_; simp only [Tail.pickL, List.take, List.drop]; (repeat (go_big_quiet_step (fail))); refine wpQuiet_nil ?_; rintro _ ⟨⟨d5, os5⟩, rfl⟩)
    have F4 := F3.same (grown_re w3 d5 os5)
    have K4 := grown_re w3 d5 os5
    generalize grow (redrawn w3 d5) os5 = w4 at *
    clear rb hw1 hw2
    have hz4 : g + 1 ≤ w4.heap.size := Nat.le_trans hz3 K4.size
    have t1 := HW.out.tot
    have t2 := HW.out.over
    have t3 := HW.out.rest
    unfold W64 at t1 t2 t3
    have L5 := (Blk.new w4 #[.int .u64 r.win, .int .u64 r.tot, .int .u64 r.over, .int .u64 r.trk, .int .u64 r.rest] 22).many natF_len [r.win.toNat, r.tot.toNat, r.over.toNat, r.trk.toNat, r.rest.toNat] (by simp only [cellsOf, natF, List.flatMap_cons, List.flatMap_nil, List.singleton_append, List.append_nil]; rw [Int.toNat_of_nonneg (by omega), Int.toNat_of_nonneg (by omega), Int.toNat_of_nonneg (by omega), Int.toNat_of_nonneg (by omega), Int.toNat_of_nonneg (by omega)]) (by simp)
    have hc5 := number_c (g + 1) g [] _ _ _ (F4.same (World.grownBy_alloc w4 (.cells #[.int .u64 r.win, .int .u64 r.tot, .int .u64 r.over, .int .u64 r.trk, .int .u64 r.rest] 22) none)) L5 (fun a n c e => by cases e; show w4.heap.size ≠ g; omega) (by intro n hn; simp at hn; omega) (by simp) (by simp; omega)
    rw [baseK_s _ _ (by simp)] at hc5
    have Hc5 := Lib.hid hc5
    clear hc5 L5 t1 t2 t3
    have G4' : w4.grownBy (w4.alloc (.cells #[.int .u64 r.win, .int .u64 r.tot, .int .u64 r.over, .int .u64 r.trk, .int .u64 r.rest] 22)) none := World.grownBy_alloc w4 _ none
    go_upto_region 6 with (go_at_call 55; refine Hc5.out.mono ?_; rintro e w5 ⟨rfl, F5, g5⟩)
    have K5 : w3.grownBy w5 (some g) := grownBy_trans (grownBy_some (grownBy_trans K4 G4') (some g)) g5
    have B5 := B3.kept K5 (by simp; omega)
    have F5' := F5.base (B' := g + 1) (by simp; omega) (by omega)
    have hz5 : g + 1 ≤ w5.heap.size := Nat.le_trans hz3 K5.size
    clear F5 g5 Hc5 G4' F4 K4 hz4
    have hl5 : (vbs [r.win.toNat, r.tot.toNat, r.over.toNat, r.trk.toNat, r.rest.toNat]).length ≤ 50 := by
      have t1 := HW.out.tot
      have t2 := HW.out.over
      have t3 := HW.out.rest
      unfold W64 at t1 t2 t3
      exact vbs_len (by intro n hn; simp at hn; omega)
    have HHB := Lib.hid (show headB r = vbs [r.win.toNat, r.tot.toNat, r.over.toNat, r.trk.toNat, r.rest.toNat] ++ vbs ((r.rej.drop 1).map Int.toNat) ++ vb r.lines.length from rfl)
    rw [List.nil_append] at F5'
    generalize vbs [r.win.toNat, r.tot.toNat, r.over.toNat, r.trk.toNat, r.rest.toNat] = L5 at *
    have hrc7 : 7 ≤ rc := by omega
    have hrc1 : ¬ rc = 1 := by omega
    have hrc2 : (7 : Int) ≤ (rc : Int) := by omega
    have rb := B5.re
    (refine Tail.wp_region_tail_grown 6 (by kernel_rfl) (by kernel_rfl) ?_; simp only [List.take, List.drop]; (repeat (go_big_quiet_step (fail))); refine wpQuiet_nil ?_; rintro _ ⟨⟨d5, os5⟩, rfl⟩)
    have K6 := grownBy_trans K5 (grownBy_some (grown_re w5 d5 os5) (some g))
    have F6 := F5'.same (grown_re w5 d5 os5)
    have B6 := B5.same (grown_re w5 d5 os5)
    generalize grow (redrawn w5 d5) os5 = w6 at *
    clear rb
    have hz6 : g + 1 ≤ w6.heap.size := Nat.le_trans hz3 K6.size
    have RR6 := HR.out.same (grownBy_new G3 K6 hwg)
    have R6 : RdL wordF 1 w6 (.slice (some ⟨gr, orr + 1, none⟩) 6 (rc - 1)) (r.rej.drop 1) := by
      have h0 := RR6.rej
      rw [E2.out] at h0
      have h1 := RdL.drop1 (fun _ => rfl) h0 (k := 1) (by omega) hrc (rc - 1)
      rw [if_neg hrc1, h7] at h1
      exact h1
    have hrl : ((r.rej.drop 1).map Int.toNat).length = 6 := by rw [List.length_map, List.length_drop, h7]
    have hr64 : ∀ n ∈ (r.rej.drop 1).map Int.toNat, n < 18446744073709551616 := by
      intro n hn
      obtain ⟨x, hx, rfl⟩ := List.mem_map.1 hn
      have := HW.out.rej x (List.mem_of_mem_drop hx)
      unfold W64 at this
      omega
    have hvl6 := vbs_len hr64
    rw [hrl] at hvl6
    have hc6 := number_c (g + 1) g L5 _ _ w6 F6 (rd_nat R6 fun x hx => (HW.out.rej x (List.mem_of_mem_drop hx)).1) (fun a n c e => by cases e; show gr ≠ g; omega) hr64 (by rw [hrl]; omega) hz6
    rw [baseK_s _ _ (by omega)] at hc6
    have Hc6 := Lib.hid hc6
    clear hc6 R6 RR6 hr64 hrl F6 F5' B5
    generalize vbs ((r.rej.drop 1).map Int.toNat) = L6 at *
    go_upto_region 7 with (go_at_call 55; refine Hc6.out.mono ?_; rintro e w7 ⟨rfl, F7, g7⟩)
    have K7 := grownBy_trans K6 g7
    have F7' := F7.base (B' := g + 1) hz6 (by omega)
    have B7 := B6.kept g7 (by simp; omega)
    clear F7 g7 Hc6 K6 B6 hz6
    have hw3 : IntKind.u64.wrap (r.lines.length : Int) = (r.lines.length : Int) := IntWalk.u64_in _ (by omega)
    have rb := B7.re
    refine wp_region_any (by kernel_rfl) ?_
    (refine Tail.take_put 0 39 (.pointer (some ⟨g, 0, none⟩)) rfl rfl (by kernel_rfl) (by kernel_rfl) (by kernel_rfl) (fun _ _ _ h => h) (Or.inl ⟨by rfl, fun w => ?_⟩) ?_; · go_simp); simp only [List.setIfInBounds_toArray, List.set_cons_zero, List.set_cons_succ]
    (refine Tail.take_put 1 40 (.pointer (some ⟨g, 0, none⟩)) rfl rfl (by kernel_rfl) (by kernel_rfl) (by kernel_rfl) (fun _ _ _ h => h) (Or.inl ⟨by rfl, fun w => ?_⟩) ?_; · go_simp); simp only [List.setIfInBounds_toArray, List.set_cons_zero, List.set_cons_succ]
    (refine Tail.take_put 2 41 (.pointer (some ⟨g, 0, none⟩)) rfl rfl (by kernel_rfl) (by kernel_rfl) (by kernel_rfl) (fun _ _ _ h => h) (Or.inl ⟨by rfl, fun w => ?_⟩) ?_; · go_simp); simp only [List.setIfInBounds_toArray, List.set_cons_zero, List.set_cons_succ]
    (refine Tail.take_put 3 42 (.pointer (some ⟨b, 2, none⟩)) rfl rfl (by kernel_rfl) (by kernel_rfl) (by kernel_rfl) (fun _ _ _ h => h) (Or.inl ⟨by rfl, fun w => ?_⟩) ?_; · go_simp); simp only [List.setIfInBounds_toArray, List.set_cons_zero, List.set_cons_succ]
    (refine Tail.wpAny_tail_grown 7 [false, false, false, false, true, true, true] (by kernel_rfl) ?_; simp only [Tail.pickL, List.take, List.drop]; (repeat (go_big_quiet_step (fail))); refine wpQuiet_nil ?_; rintro _ ⟨⟨d5, os5⟩, rfl⟩)
    have K8 := grownBy_trans K7 (grownBy_some (grown_re w7 d5 os5) (some g))
    have F8 := F7'.same (grown_re w7 d5 os5)
    have B8 := B7.same (grown_re w7 d5 os5)
    generalize grow (redrawn w7 d5) os5 = w8 at *
    clear rb hw3 F7' B7
    have hz8 : g + 1 ≤ w8.heap.size := Nat.le_trans hz3 K8.size
    have L8 := Blk.one (Blk.new w8 #[.int .u64 r.lines.length] 22) natF_len r.lines.length rfl
    have hc8 := number_c (g + 1) g (L5 ++ L6) _ [r.lines.length] _ (F8.same (World.grownBy_alloc w8 (.cells #[.int .u64 r.lines.length] 22) none)) L8 (fun a n c e => by cases e; show w8.heap.size ≠ g; omega) (by have := HOK.out.few; intro n hn; simp at hn; omega) (by rw [List.length_append]; simp; omega) (by simp; omega)
    rw [baseK_s _ _ (by simp), show vbs [r.lines.length] = vb r.lines.length by simp [vbs], ← HHB.out] at hc8
    have Hc8 := Lib.hid hc8
    have g8' : w8.grownBy (w8.alloc (.cells #[.int .u64 r.lines.length] 22)) none := World.grownBy_alloc w8 _ none
    clear hc8 L8 F8
    have hhl : (headB r).length ≤ 120 := by rw [HHB.out, List.length_append, List.length_append]; have := vb_ten (show r.lines.length < 18446744073709551616 by have := HOK.out.few; omega); omega
    go_upto_region 8 with (go_at_call 55; refine Hc8.out.mono ?_; rintro e w9 ⟨rfl, F9, g9⟩)
    have K9 := grownBy_trans K8 (grownBy_trans (grownBy_some g8' (some g)) g9)
    have F9' := F9.base (B' := g + 1) (by simp; omega) (by omega)
    have B9 := (B3.kept K9 (by simp; omega)).cell
    clear F9 g9 Hc8 K8 B8 hz8 g8' K7 HHB hl5 hvl6 hrc1 hrc2 hrc7
    go_wp2_with fail
    clear B9
    go_loopw [51] (fun s51 wk => ∃ k : Nat, k ≤ r.lines.length ∧ s51 = .int .i64 k ∧ BufAt (g + 1) wk g (headB r ++ linesB (r.lines.take k)) ∧ w3.grownBy wk (some g)) (fun s51 _ => r.lines.length - (intOf s51).toNat)
    case atStart => exact ⟨0, Nat.zero_le _, rfl, by simpa [linesB] using F9', K9⟩
    case round =>
      clear F9' K9
      obtain ⟨k, hk, rfl, hF, hg⟩ := hrel
      by_cases hlt : k < r.lines.length
      · have KW := grownBy_new G3 hg hwg
        obtain ⟨gx, ox, cx, hv, hgx, hcx⟩ := (HR.out.same KW).lines.at_ lnF_len hlt
        rw [E1.out] at hv
        cases hv
        have c0 := hcx 0 _ rfl
        have c1 := hcx 1 _ rfl
        have c2 := hcx 2 _ rfl
        rw [Nat.add_zero] at c0
        obtain ⟨-, hk255, hlh, -⟩ := HOK.out.ln hlt
        have hlw := HW.out.lines _ (List.getElem_mem hlt)
        have hlo := hlw.lo
        have hhi := hlw.hi
        have HS := Lib.hid (show headB r ++ linesB (r.lines.take (k + 1)) = (headB r ++ linesB (r.lines.take k)) ++ lnB r.lines[k] by rw [List.take_succ_eq_append_getElem hlt, linesB_snoc, List.append_assoc])
        have hll : (linesB (r.lines.take k)).length ≤ 285 * k := by
          have : ∀ m, m ≤ r.lines.length → (linesB (r.lines.take m)).length ≤ 285 * m := by
            intro m
            induction m with
            | zero => intro _; simp [linesB]
            | succ m ih =>
              intro hm
              have h1 := ih (by omega)
              obtain ⟨-, q1, q2, -⟩ := HOK.out.ln (show m < r.lines.length by omega)
              have q3 := HW.out.lines _ (List.getElem_mem (show m < r.lines.length by omega))
              have q4 := q3.lo
              have q5 := q3.hi
              unfold W64 at q4 q5
              rw [List.take_succ_eq_append_getElem (by omega), linesB_snoc, List.length_append]
              have h2 : (lnB r.lines[m]).length ≤ 285 := by
                unfold lnB
                have e1 := vb_ten (show r.lines[m].key.size < 18446744073709551616 by omega)
                have e2 : (vbs [r.lines[m].lo.toNat, (r.lines[m].hi - r.lines[m].lo).toNat]).length ≤ 20 := vbs_len (by intro n hn; simp at hn; omega)
                have e3 : r.lines[m].key.data.toList.length = r.lines[m].key.size := Array.length_toList
                rw [List.length_append, List.length_append, e3]
                omega
              omega
          exact this k hk
        have hLl : (headB r ++ linesB (r.lines.take k)).length ≤ 100000 := by rw [List.length_append]; have := HOK.out.few; omega
        clear hll hcx hlw
        generalize headB r ++ linesB (r.lines.take k) = L at *
        have hlnB := Lib.hid (show lnB r.lines[k] = vb r.lines[k].key.size ++ r.lines[k].key.data.toList ++ vbs [r.lines[k].lo.toNat, (r.lines[k].hi - r.lines[k].lo).toNat] from rfl)
        generalize r.lines[k] = x at *
        go_upto_region 11 with fail
        have A10 := Blk.new wr #[.string x.key, .int .u64 x.lo, .int .u64 x.hi] 71
        have F10 := hF.same (World.grownBy_alloc wr (.cells #[.string x.key, .int .u64 x.lo, .int .u64 x.hi] 71) none)
        have K10 := grownBy_trans hg (grownBy_some (World.grownBy_alloc wr (.cells #[.string x.key, .int .u64 x.lo, .int .u64 x.hi] 71) none) (some g))
        have hgw : g < wr.heap.size := Nat.lt_of_lt_of_le (Nat.lt_of_lt_of_le (Nat.lt_succ_self g) hz3) hg.size
        generalize wr.alloc (.cells #[.string x.key, .int .u64 x.lo, .int .u64 x.hi] 71) = w10 at *
        generalize wr.heap.size = gl at *
        clear hF hg c0 c1 c2
        have ra := A10.re
        (refine Tail.wp_region_tail_grown 5 (by kernel_rfl) (by kernel_rfl) ?_; simp only [List.take, List.drop]; (repeat (go_big_quiet_step (fail))); refine wpQuiet_nil ?_; rintro _ ⟨⟨d5, os5⟩, rfl⟩)
        have F11 := F10.same (grown_re w10 d5 os5)
        have K11 := grownBy_trans K10 (grownBy_some (grown_re w10 d5 os5) (some g))
        have A11 := A10.same (grown_re w10 d5 os5)
        generalize grow (redrawn w10 d5) os5 = w11 at *
        clear ra F10 A10 K10
        have hz11 : g + 1 ≤ w11.heap.size := Nat.le_trans hz3 K11.size
        have Hc11 := Lib.hid (text_c (g + 1) g L x.key w11 F11 (by omega) (by omega) hz11)
        clear F11
        go_upto_region 12 with (go_at_call 56; refine Hc11.out.mono ?_; rintro e w12 ⟨rfl, F12, g12⟩)
        have K12 := grownBy_trans K11 g12
        have F12' := F12.base (B' := g + 1) hz11 (by omega)
        have A12 := A11.kept g12 (by simp; omega)
        clear F12 g12 Hc11 A11 K11
        have hv1 := vb_ten (show x.key.size < 18446744073709551616 by omega)
        have hv2 : x.key.data.toList.length = x.key.size := Array.length_toList
        have hLl2 : (L ++ vb x.key.size ++ x.key.data.toList).length ≤ 200000 := by rw [List.length_append, List.length_append, hv2]; omega
        have HS2 := Lib.hid (show (L ++ vb x.key.size ++ x.key.data.toList) ++ vbs [x.lo.toNat, (x.hi - x.lo).toNat] = L ++ lnB x by rw [hlnB.out]; simp only [List.append_assoc])
        clear hv1 hv2
        generalize L ++ vb x.key.size ++ x.key.data.toList = L2 at *
        unfold W64 at hlo hhi
        have hws : IntKind.u64.wrap (x.hi - x.lo) = x.hi - x.lo := IntWalk.u64_in _ (by omega)
        have ra := A12.re
        refine wp_region_any (by kernel_rfl) ?_
        (refine Tail.take_put 0 61 (.pointer (some ⟨g, 0, none⟩)) rfl rfl (by kernel_rfl) (by kernel_rfl) (by kernel_rfl) (fun _ _ _ h => h) (Or.inl ⟨by rfl, fun w => ?_⟩) ?_; · go_simp); simp only [List.setIfInBounds_toArray, List.set_cons_zero, List.set_cons_succ]
        (refine Tail.take_put 1 62 (.pointer (some ⟨g, 0, none⟩)) rfl rfl (by kernel_rfl) (by kernel_rfl) (by kernel_rfl) (fun _ _ _ h => h) (Or.inl ⟨by rfl, fun w => ?_⟩) ?_; · go_simp); simp only [List.setIfInBounds_toArray, List.set_cons_zero, List.set_cons_succ]
        (refine Tail.take_put 2 63 (.pointer (some ⟨g, 0, none⟩)) rfl rfl (by kernel_rfl) (by kernel_rfl) (by kernel_rfl) (fun _ _ _ h => h) (Or.inl ⟨by rfl, fun w => ?_⟩) ?_; · go_simp); simp only [List.setIfInBounds_toArray, List.set_cons_zero, List.set_cons_succ]
        (refine Tail.wpAny_tail_grown 10 [false, false, false, true, true, true, true, true, true, true] (by kernel_rfl) ?_; simp only [Tail.pickL, List.take, List.drop]; (repeat (go_big_quiet_step (fail))); refine wpQuiet_nil ?_; rintro _ ⟨⟨d5, os5⟩, rfl⟩)
        have F13 := F12'.same (grown_re w12 d5 os5)
        have K13 := grownBy_trans K12 (grownBy_some (grown_re w12 d5 os5) (some g))
        generalize grow (redrawn w12 d5) os5 = w13 at *
        clear ra hws F12' K12 A12
        have hz13 : g + 1 ≤ w13.heap.size := Nat.le_trans hz3 K13.size
        have L13 := (Blk.new w13 #[.int .u64 x.lo, .int .u64 (x.hi - x.lo)] 22).many natF_len [x.lo.toNat, (x.hi - x.lo).toNat] (by simp only [cellsOf, natF, List.flatMap_cons, List.flatMap_nil, List.singleton_append, List.append_nil]; rw [Int.toNat_of_nonneg (by omega), Int.toNat_of_nonneg (by omega)]) (by simp)
        have hc13 := number_c (g + 1) g L2 _ _ _ (F13.same (World.grownBy_alloc w13 (.cells #[.int .u64 x.lo, .int .u64 (x.hi - x.lo)] 22) none)) L13 (fun a n c e => by cases e; show w13.heap.size ≠ g; omega) (by intro n hn; simp at hn; omega) (by simp; omega) (by simp; omega)
        rw [baseK_s _ _ (by simp), HS2.out] at hc13
        have Hc13 := Lib.hid hc13
        have g13 : w13.grownBy (w13.alloc (.cells #[.int .u64 x.lo, .int .u64 (x.hi - x.lo)] 22)) none := World.grownBy_alloc w13 _ none
        clear hc13 L13 F13
        go_wp2_with (go_at_call 55; refine Hc13.out.mono ?_; rintro e w14 ⟨rfl, F14, g14⟩; have F14' := F14.base (B' := g + 1) (by simp; omega) (by omega); have K14 := grownBy_trans K13 (grownBy_trans (grownBy_some g13 (some g)) g14))
        exact ⟨⟨k + 1, by omega, by go_num, by rw [HS.out]; exact F14', K14⟩, by simp [intOf]; omega⟩
      · have hke : r.lines.take k = r.lines := List.take_of_length_le (by omega)
        rw [hke, show headB r ++ linesB r.lines = encF r from rfl, ← HE2.out] at hF
        obtain ⟨v, h1, h2⟩ := hF.ex
        obtain ⟨va, vc, rfl⟩ := h2.shape
        have c1 := h1.cell
        have KW := grownBy_new G3 hg hwg
        have h3 := Lib.hid h2
        obtain ⟨EE, hEE⟩ : ∃ EE, encR r = EE := ⟨_, rfl⟩
        have HEE := Lib.hid hEE
        rw [hEE] at h3 h2 h1 c1
        clear hEE
        go_wp2_with fail
        refine bodyPost_ret (v := .tuple #[.slice va EE.length vc, .int .i64 0]) (by simp [results, Try.results18, go_sem]) rfl ?_
        exact ⟨.slice va EE.length vc, by rw [Her.out], by rw [HEE.out]; exact h3.out.base fun q hq => by have := (h3.out.lt q hq).1; omega, KW⟩
  · have heb : (er != 0) = true := by simp [he]
    have HE2 := Lib.hid (HER.out.trans (if_neg he))
    clear he her
    go_wp2_with fail
    refine bodyPost_ret (v := .tuple #[.slice none 0 0, .int .i64 er]) (by simp [results, Try.results18, go_sem]) rfl ?_
    exact ⟨.slice none 0 0, by rw [Her.out], by rw [HE2.out]; exact Own.nil _ _ _ _ _, G2⟩
end Go.Proofs.Ytiagjiaahnkefaa

/- Bytes compared; the example of chapter 24. -/
namespace Go.Proofs.Ytiagjiaahnkefaa
open Go.RowKit Go.Sort

set_option maxHeartbeats 400000 in
theorem sameBy_c (v v' : Value) (L : List UInt8) (w : World) (h : RdL byF 1 w v L) (h' : RdL byF 1 w v' L) : Calls Try.prog 20 #[v, v'] w (RetBool true w) := by
  obtain ⟨a, c, rfl⟩ := h.shape
  obtain ⟨a', c', rfl⟩ := h'.shape
  have hm := h.2.1
  have hne : ((L.length : Int) != (L.length : Int)) = false := by simp
  have H := Lib.hid h
  have H' := Lib.hid h'
  clear h h'
  go_enter Try.func20, Try.ntmps20
  go_wp2_with fail
  go_loopw [13] (fun s13 wr => ∃ k : Nat, k ≤ L.length ∧ s13 = .int .i64 k ∧ w.grownBy wr none) (fun s13 _ => L.length - (intOf s13).toNat)
  case atStart => exact ⟨0, Nat.zero_le _, rfl, grownBy_refl _ _⟩
  case round =>
    obtain ⟨k, hk, rfl, hg⟩ := hrel
    by_cases hlt : k < L.length
    · obtain ⟨g, off, cap, hv, hgl, hc⟩ := (RdL.same H.out hg).one by_one hlt
      obtain ⟨g', off', cap', hv', hgl', hc'⟩ := (RdL.same H'.out hg).one by_one hlt
      cases hv
      cases hv'
      generalize L[k] = x at *
      have hx : ((x.toNat : Int) != (x.toNat : Int)) = false := by simp
      have hk0 : (0 : Int) ≤ (k : Int) := by omega
      have hk1 : (k : Int) < (L.length : Int) := by omega
      go_wp2_with fail
      go_quiet (fail)
      go_wp2_with fail
      exact ⟨⟨k + 1, by omega, by go_num, grownBy_drewN hg _⟩, by simp [intOf]; omega⟩
    · go_wp2_with fail
      go_ret
      exact retBool rfl hg

def awkR (vl vr : Value) : Rep := ⟨2, 5, vl, 0, 1, 0, vr, [⟨⟨#[97]⟩, 5, 5⟩], [0, 0, 0, 0, 0, 0, 0]⟩
theorem awk_err (vl vr : Value) : repErr (awkR vl vr) = 0 := by rfl
def awkB : List UInt8 := [2, 5, 0, 1, 0, 0, 0, 0, 0, 0, 0, 1, 1, 97, 5, 0]
theorem awk_enc (vl vr : Value) : encR (awkR vl vr) = awkB := by
  unfold encR
  rw [if_pos (awk_err vl vr)]
  simp [encF, headB, linesB, lnB, vbs, awkR, awkB, vb_small, ByteArray.size]
theorem awk_w (vl vr : Value) : RepW (awkR vl vr) := by
  refine ⟨by unfold I64 awkR; simp, by unfold W64 awkR; simp, by unfold W64 awkR; simp, by unfold I64 awkR; simp, by unfold W64 awkR; simp, fun x hx => ?_, fun n hn => ?_⟩
  · simp only [awkR, List.mem_singleton] at hx
    subst hx
    exact ⟨by unfold W64; simp, by unfold W64; simp, by show (1 : Nat) ≤ _; omega⟩
  · simp only [awkR, List.mem_cons, List.not_mem_nil, or_false, or_self] at hn
    subst hn
    exact w64_0

set_option maxHeartbeats 1000000 in
set_option maxRecDepth 100000 in
theorem awake24_c (w : World) : Calls Try.prog 13 #[] w (RetBool true w) := by
  have hmk : ∀ w, (Instr.makeSlice 24 (.int .i64 7) (.int .i64 7)).run Try.prog w = .ok (.slice (some ⟨w.heap.size, 0, none⟩) 7 7) (w.alloc (.cells #[.int .u64 0, .int .u64 0, .int .u64 0, .int .u64 0, .int .u64 0, .int .u64 0, .int .u64 0] 22)) := fun _ => by kernel_rfl
  have A1 := (Blk.new w #[.string ⟨#[97]⟩, .int .u64 5, .int .u64 5] 71).same (World.grownBy_alloc _ (.cells #[.int .u64 0, .int .u64 0, .int .u64 0, .int .u64 0, .int .u64 0, .int .u64 0, .int .u64 0] 22) none)
  have A2 := Blk.new' (w.alloc (.cells #[.string ⟨#[97]⟩, .int .u64 5, .int .u64 5] 71)) #[.int .u64 0, .int .u64 0, .int .u64 0, .int .u64 0, .int .u64 0, .int .u64 0, .int .u64 0] 22 (g := w.heap.size + 1) (by simp)
  have R1 := A1.one lnF_len ⟨⟨#[97]⟩, 5, 5⟩ rfl
  have R2 := A2.many (f := wordF) (size := 1) (fun _ => rfl) [0, 0, 0, 0, 0, 0, 0] rfl (by simp)
  have hR : RepRd ((w.alloc (.cells #[.string ⟨#[97]⟩, .int .u64 5, .int .u64 5] 71)).alloc (.cells #[.int .u64 0, .int .u64 0, .int .u64 0, .int .u64 0, .int .u64 0, .int .u64 0, .int .u64 0] 22)) (awkR (.slice (some ⟨w.heap.size, 0, none⟩) 1 1) (.slice (some ⟨w.heap.size + 1, 0, none⟩) 7 7)) := ⟨R1, R2, fun a n c e => by cases e; omega, fun a n c e => by cases e; omega⟩
  have hc := encode_c _ _ hR (awk_w _ _)
  have HP := Lib.hid (p := ∀ e w', EncPost (awkR (.slice (some ⟨w.heap.size, 0, none⟩) 1 1) (.slice (some ⟨w.heap.size + 1, 0, none⟩) 7 7)) ((w.alloc (.cells #[.string ⟨#[97]⟩, .int .u64 5, .int .u64 5] 71)).alloc (.cells #[.int .u64 0, .int .u64 0, .int .u64 0, .int .u64 0, .int .u64 0, .int .u64 0, .int .u64 0] 22)) e w' → ∃ v, e = .returned (.tuple #[v, .int .i64 0]) ∧ RdL byF 1 w' v awkB ∧ w.grownBy w' none) (fun e w' ⟨v, h1, h2, h3⟩ => ⟨v, by rw [h1, awk_err], by rw [awk_enc] at h2; exact h2.rd, grownBy_trans (grownBy_new_block (grownBy_new_block (grownBy_refl _ _) _) _) h3⟩)
  have Hc := Lib.hid hc
  clear hc hR R1 R2 A1 A2
  go_enter Try.func13, Try.ntmps13
  go_upto_region 2 with (go_at_call 18; refine Hc.out.mono ?_; intro e w2 he; obtain ⟨v, rfl, R3, g3⟩ := HP.out e w2 he; clear he)
  have R4 := RdL.same R3 (World.grownBy_alloc w2 (.cells #[.int .u8 2, .int .u8 5, .int .u8 0, .int .u8 1, .int .u8 0, .int .u8 0, .int .u8 0, .int .u8 0, .int .u8 0, .int .u8 0, .int .u8 0, .int .u8 1, .int .u8 1, .int .u8 97, .int .u8 5, .int .u8 0] 5) none)
  have L4 := (Blk.new w2 #[.int .u8 2, .int .u8 5, .int .u8 0, .int .u8 1, .int .u8 0, .int .u8 0, .int .u8 0, .int .u8 0, .int .u8 0, .int .u8 0, .int .u8 0, .int .u8 1, .int .u8 1, .int .u8 97, .int .u8 5, .int .u8 0] 5).many byF_len awkB rfl (by decide)
  have Hs := Lib.hid (sameBy_c _ _ awkB _ R4 L4)
  have g4 := grownBy_new_block g3 (.cells #[.int .u8 2, .int .u8 5, .int .u8 0, .int .u8 1, .int .u8 0, .int .u8 0, .int .u8 0, .int .u8 0, .int .u8 0, .int .u8 0, .int .u8 0, .int .u8 1, .int .u8 1, .int .u8 97, .int .u8 5, .int .u8 0] 5)
  clear R4 L4 R3 Hc HP
  go_wp2_with (go_at_call 20; refine Hs.out.mono ?_; rintro e w5 ⟨rfl, g5⟩)
  go_ret
  exact retBool rfl (grownBy_trans g4 g5)
end Go.Proofs.Ytiagjiaahnkefaa

/- Lists of lines compared. -/
namespace Go.Proofs.Ytiagjiaahnkefaa
open Go.RowKit

theorem fields_line : Try.prog.underlying 71 = some (.struct (Try.prog.fieldsOf 71)) := by kernel_rfl
theorem held_line : Try.prog.stoodInHeld 71 = false := by kernel_rfl
theorem guard_line : Try.prog.eqGuardType Try.prog.depth 71 = false := by kernel_rfl
theorem same_line (x : Ln) (w : World) : (Op.equalIn 10000 71 (.agg #[.string x.key, .int .u64 x.lo, .int .u64 x.hi]) (.agg #[.string x.key, .int .u64 x.lo, .int .u64 x.hi])).run Try.prog w = .ok true w := by
  rw [run_equalIn_agg w 9999 _ _ _ fields_line held_line]
  have hf : ∃ a b c : Field, (Try.prog.fieldsOf 71).toList = [a, b, c] ∧ a.type = 9 ∧ b.type = 22 ∧ c.type = 22 ∧ a.offset = 0 ∧ b.offset = 1 ∧ c.offset = 2 ∧ (a.name == "_") = false ∧ (b.name == "_") = false ∧ (c.name == "_") = false := ⟨(Try.prog.fieldsOf 71).toList.getD 0 default, (Try.prog.fieldsOf 71).toList.getD 1 default, (Try.prog.fieldsOf 71).toList.getD 2 default, by kernel_rfl, by kernel_rfl, by kernel_rfl, by kernel_rfl, by kernel_rfl, by kernel_rfl, by kernel_rfl, by kernel_rfl, by kernel_rfl, by kernel_rfl⟩
  obtain ⟨a, b, c, h, h1, h2, h3, h4, h5, h6, h7, h8, h9⟩ := hf
  rw [h]
  have h7' := beq_eq_false_iff_ne.1 h7
  have h8' := beq_eq_false_iff_ne.1 h8
  have h9' := beq_eq_false_iff_ne.1 h9
  simp [go_sem, h1, h2, h3, h4, h5, h6, h7', h8', h9']

set_option maxHeartbeats 400000 in
theorem sameLines_c (v v' : Value) (L : List Ln) (w : World) (h : RdL lnF 3 w v L) (h' : RdL lnF 3 w v' L) : Calls Try.prog 44 #[v, v'] w (RetBool true w) := by
  obtain ⟨a, c, rfl⟩ := h.shape
  obtain ⟨a', c', rfl⟩ := h'.shape
  have hm := h.2.1
  have H := Lib.hid h
  have H' := Lib.hid h'
  clear h h'
  go_enter Try.func44, Try.ntmps44
  go_wp2_with fail
  go_loopw [13] (fun s13 wr => ∃ k : Nat, k ≤ L.length ∧ s13 = .int .i64 k ∧ w.grownBy wr none) (fun s13 _ => L.length - (intOf s13).toNat)
  case atStart => exact ⟨0, Nat.zero_le _, rfl, grownBy_refl _ _⟩
  case round =>
    obtain ⟨k, hk, rfl, hg⟩ := hrel
    by_cases hlt : k < L.length
    · obtain ⟨g, off, cap, hv, hgl, hc⟩ := (RdL.same H.out hg).at_ lnF_len hlt
      obtain ⟨g', off', cap', hv', hgl', hc'⟩ := (RdL.same H'.out hg).at_ lnF_len hlt
      cases hv
      cases hv'
      have c0 := hc 0 _ rfl
      have c1 := hc 1 _ rfl
      have c2 := hc 2 _ rfl
      have d0 := hc' 0 _ rfl
      have d1 := hc' 1 _ rfl
      have d2 := hc' 2 _ rfl
      clear hc hc'
      rw [Nat.add_zero] at c0 d0
      generalize L[k] = x at *
      have hk0 : (0 : Int) ≤ (k : Int) := by omega
      have hk1 : (k : Int) < (L.length : Int) := by omega
      have s1 := guard_line
      have s2 := fun w => same_line x w
      go_wp2_with fail
      go_quiet (fail)
      go_wp2_with fail
      exact ⟨⟨k + 1, by omega, by go_num, grownBy_drewN hg _⟩, by simp [intOf]; omega⟩
    · go_wp2_with fail
      go_ret
      exact retBool rfl hg
end Go.Proofs.Ytiagjiaahnkefaa

/- Reports compared. -/
namespace Go.Proofs.Ytiagjiaahnkefaa
open Go.RowKit

set_option maxHeartbeats 1000000 in
set_option maxRecDepth 100000 in
theorem sameRep_c (win tot over trk rest : Int) (vl vr vl' vr' : Value) (ls : List Ln) (rj : List Int) (w : World) (h1 : RdL lnF 3 w vl ls) (h2 : RdL wordF 1 w vr rj) (h3 : RdL lnF 3 w vl' ls) (h4 : RdL wordF 1 w vr' rj) :
    Calls Try.prog 23 #[repV win tot vl over trk rest vr, repV win tot vl' over trk rest vr'] w (RetBool true w) := by
  have H1 := Lib.hid fun w' (h : World.grownBy w w' none) => sameLines_c vl vl' ls w' (h1.same h) (h3.same h)
  have H2 := Lib.hid fun w' (h : World.grownBy w w' none) => (show Calls Try.prog 65 #[vr, vr'] w' (RetBool true w') from (decide_eq_true (rfl : rj = rj)) ▸ sameWords_c vr vr' rj rj w' (h2.same h) (h4.same h))
  obtain ⟨a1, c1, rfl⟩ := h1.shape
  obtain ⟨a2, c2, rfl⟩ := h2.shape
  obtain ⟨a3, c3, rfl⟩ := h3.shape
  obtain ⟨a4, c4, rfl⟩ := h4.shape
  clear h1 h2 h3 h4
  go_enter Try.func23, Try.ntmps23
  go_upto_region 1 with fail
  have A1 := (Blk.new w #[.int .i64 win, .int .u64 tot, .slice a1 ls.length c1, .int .u64 over, .int .i64 trk, .int .u64 rest, .slice a2 rj.length c2] 26).same (World.grownBy_alloc _ (.cells #[.int .i64 win, .int .u64 tot, .slice a3 ls.length c3, .int .u64 over, .int .i64 trk, .int .u64 rest, .slice a4 rj.length c4] 26) none)
  have A2 := Blk.new' (w.alloc (.cells #[.int .i64 win, .int .u64 tot, .slice a1 ls.length c1, .int .u64 over, .int .i64 trk, .int .u64 rest, .slice a2 rj.length c2] 26)) #[.int .i64 win, .int .u64 tot, .slice a3 ls.length c3, .int .u64 over, .int .i64 trk, .int .u64 rest, .slice a4 rj.length c4] 26 (g := w.heap.size + 1) (by simp)
  have K1 := grownBy_new_block (grownBy_new_block (grownBy_refl w none) (.cells #[.int .i64 win, .int .u64 tot, .slice a1 ls.length c1, .int .u64 over, .int .i64 trk, .int .u64 rest, .slice a2 rj.length c2] 26)) (.cells #[.int .i64 win, .int .u64 tot, .slice a3 ls.length c3, .int .u64 over, .int .i64 trk, .int .u64 rest, .slice a4 rj.length c4] 26)
  generalize (w.alloc (.cells #[.int .i64 win, .int .u64 tot, .slice a1 ls.length c1, .int .u64 over, .int .i64 trk, .int .u64 rest, .slice a2 rj.length c2] 26)).alloc (.cells #[.int .i64 win, .int .u64 tot, .slice a3 ls.length c3, .int .u64 over, .int .i64 trk, .int .u64 rest, .slice a4 rj.length c4] 26) = w1 at *
  generalize w.heap.size = g1 at *
  generalize g1 + 1 = g2 at *
  have b1 := A1.cell
  have b2 := A2.cell
  go_wp2_with (first
    | (go_at_call 44; refine (H1.out _ K1).mono ?_; rintro e w2 ⟨rfl, k2⟩; have b3 := (A1.same k2).cell; have b4 := (A2.same k2).cell; have K2 := grownBy_trans K1 k2)
    | (go_at_call 65; refine (H2.out _ K2).mono ?_; rintro e w3 ⟨rfl, k3⟩; have K3 := grownBy_trans K2 k3))
  go_ret
  exact retBool rfl K3
end Go.Proofs.Ytiagjiaahnkefaa

/- Numbers as bytes: the reference. -/
namespace Go.Proofs.Ytiagjiaahnkefaa
open Go.RowKit Go.Sort

set_option maxHeartbeats 1000000 in
set_option maxRecDepth 100000 in
theorem rappend_c (v : Value) (l : List UInt8) (n : Nat) (w : World) (h : RdL byF 1 w v l) (hn : n < 18446744073709551616) (hl : l.length ≤ 1000000000000) : Calls Try.prog 57 #[v, .int .u64 n] w (RetOwn byF 1 5 (l ++ vb n) w) := by
  obtain ⟨a, c, rfl⟩ := h.shape
  have H := Lib.hid h
  have hn64 : (n : Int) ≤ 18446744073709551615 := by omega
  have hb1 : l.length * 1 ≤ 140737488355328 := by omega
  have hb2 : l.length ≤ 9223372036854775807 := by omega
  have hten := vb_ten hn
  clear h hn
  go_enter Try.func57, Try.ntmps57
  go_upto_region 1 with fail
  have N := own_lit0 (e := 5) byF 1 (Nat.le_refl w.heap.size)
  have R := H.out.same (World.grownBy_alloc w (.cells #[] 5) none)
  go_wp2_with (at_builtin; refine app_lit elt_by one_by N R rfl hb1 hb2 (by simp) (by rfl) _ _ (by rfl) (by rfl) (by rfl) ?_; intro v4 w4 o4 g4 l4)
  have G4 : w.grownBy w4 none := grownBy_trans (World.grownBy_alloc w _ none) g4
  clear N R g4 l4
  go_loopw [1, 5] (fun s1 s5 wk => ∃ (m : Nat) (L : List UInt8), s1 = .int .u64 m ∧ (m : Int) ≤ 18446744073709551615 ∧ Own byF 1 5 w.heap.size wk s5 L ∧ L ++ vb m = l ++ vb n ∧ w.grownBy wk none) (fun s1 _ _ => (intOf s1).toNat)
  case atStart => exact ⟨n, l, rfl, hn64, o4, rfl, G4⟩
  case round =>
    obtain ⟨m, L, rfl, hm, hO, hLv, hg⟩ := hrel
    have hLl : L.length ≤ l.length + 10 := by
      have h1 := congrArg List.length hLv
      rw [List.length_append, List.length_append] at h1
      omega
    have HL := Lib.hid hLv
    have hb3 : (L.length + 1) * 1 ≤ 140737488355328 := by omega
    have hb4 : L.length + 1 ≤ 9223372036854775807 := by omega
    have hsz := hg.size
    clear hLv
    by_cases hbig : m < 128
    · have Hv := Lib.hid (vb_small hbig)
      have hm1 : (m : Int) < 128 := by omega
      have hw : IntKind.u8.wrap (m : Int) = ((UInt8.ofNat m).toNat : Int) := by rw [by_wrap, by_of (by omega)]; omega
      have Hcs := Lib.hid (show (#[Value.int .u8 ((UInt8.ofNat m).toNat : Int)] : Array Value).toList = byF (UInt8.ofNat m) from rfl)
      go_wp2_with (at_builtin; refine app_one elt_by one_by byF_len hO (UInt8.ofNat m) hb3 hb4 hsz Hcs.out rfl (.tmp 20) (.tmp 23) rfl rfl rfl ?_; intro v5 w5 o5 g5 l5)
      go_ret
      exact ⟨_, rfl, by rw [← HL.out, Hv.out]; exact o5, grown_own hg hO (Nat.le_refl _) g5⟩
    · have Hv := Lib.hid (vb_big hbig)
      have hm1 : (128 : Int) ≤ (m : Int) := by omega
      have hm2 : ¬ ((m : Int) < 128) := by omega
      obtain ⟨b0, hb0⟩ : ∃ b0, UInt8.ofNat (m % 128 + 128) = b0 := ⟨_, rfl⟩
      have hw2 : (b0.toNat : Int) = (m : Int) % 128 + 128 := by rw [← hb0, by_of (by omega)]; omega
      have Hcs := Lib.hid (show (#[Value.int .u8 ((m : Int) % 128 + 128)] : Array Value).toList = byF b0 by rw [← hw2]; rfl)
      rw [hb0] at Hv
      clear hb0 hw2
      go_wp2_with (at_builtin; refine app_one elt_by one_by byF_len hO b0 hb3 hb4 hsz Hcs.out rfl (.tmp 11) (.tmp 16) rfl rfl rfl ?_; intro v5 w5 o5 g5 l5)
      exact ⟨⟨m / 128, L ++ [b0], rfl, by omega, o5, by rw [List.append_assoc, List.singleton_append, ← Hv.out, HL.out], grown_own hg hO (Nat.le_refl _) g5⟩, by simp [intOf]; omega⟩
end Go.Proofs.Ytiagjiaahnkefaa

/- Reports as bytes: the reference's EncodeReport. -/
namespace Go.Proofs.Ytiagjiaahnkefaa
open Go.RowKit Go.Sort

section
variable {α : Type} {f : α → List Value} {st e : TypeId} {z : Value} {size bytes : Nat} {w : World} {g n : Nat} {l l2 : List α} {A : Option Addr} {m c : Nat}
variable {o : Oper} {a : Act} {ops : Array Oper} {rest : List Oper} {Q : Exit → Act → World → Prop}
/-- append onto a slice that is full: a new block. -/
theorem app_grow (E : Elt st e z size bytes) (h1 : OneF f) (hr0 : RdL f size w (.slice (some ⟨g, 0, none⟩) n n) l) (hn : n = l.length) (hr : RdL f size w (.slice A m c) l2) (hm : m = l2.length) (h0 : 0 < l.length) (h02 : 0 < l2.length) (hb : (l.length + l2.length) * bytes ≤ 140737488355328) (h63 : l.length + l2.length ≤ 9223372036854775807)
    (hgd : o.guard = none) (s x : Operand) (ho : o.op = .call { callee := .builtin .append, args := #[s, x], argTypes := #[st, st] }) (hs : a.eval s = .slice (some ⟨g, 0, none⟩) n n) (hx : a.eval x = .slice A m c)
    (h : ∀ v' w', Own f size e w.heap.size w' v' (l ++ l2) → w.grownBy w' none → wpList Try.prog ops Q rest (a.put o.dst v') w') : wpList Try.prog ops Q (o :: rest) a w := by
  subst hm hn
  obtain ⟨i, hi, hz0, hz1, hz2⟩ := info_parts E.info
  rcases hr0.2.2 with ⟨h3, _⟩ | ⟨g1, off1, cap1, hv1, _, hc1⟩
  · omega
  rcases hr.2.2 with ⟨h3, _⟩ | ⟨g2, off2, cap2, hv2, _, hc2⟩
  · omega
  cases hv1
  cases hv2
  have hadd : ∀ b off j, (⟨b, off, none⟩ : Addr).add j = ⟨b, off + j, none⟩ := fun b off j => by unfold Addr.add; split <;> simp_all
  obtain ⟨v', w', hrun, h2, h3⟩ := run_append_arg_grows (P := Try.prog) w st o.type e i z size bytes E.ht hi hz0 hz1 hz2 E.cells E.pos ⟨g, 0, none⟩ l.length l.length (cellsOf f l) hr0.1 (fun j u hu => by rw [hadd]; exact hc1 j u hu) ⟨g2, off2, none⟩ l2.length c (cellsOf f l2) hr.1 (fun j u hu => by rw [hadd]; exact hc2 j u hu) (by omega) (by unfold maxLen; exact h63) hb
  refine wpList_plain hgd fun _ hK => ?_
  unfold Oper.wp execOp
  simp only [ho, resolve, invoke, builtin, Sem.run_bind, Sem.run_pure, Result.andThen_ok, List.map_toArray, List.map_cons, List.map_nil, hs, hx, hrun]
  exact hK _ _ (h v' w' (by unfold Own; rw [cellsOf_append, List.length_append]; exact h2) h3)
end

set_option maxHeartbeats 2000000 in
set_option maxRecDepth 100000 in
theorem renc_c (r : Rep) (w : World) (hR : RepRd w r) (hW : RepW r) : Calls Try.prog 19 #[repV r.win r.tot r.vl r.over r.trk r.rest r.vr] w (EncPost r w) := by
  have HR := Lib.hid hR
  have HW := Lib.hid hW
  obtain ⟨la, lc, e1⟩ := hR.lines.shape
  obtain ⟨ra, rc, e2⟩ := hR.rej.shape
  have hlm := hR.lines.2.1
  have hrm := hR.rej.2.1
  have hcc := fun w' (h : World.grownBy w w' none) => rrepcheck_c r w' (hR.same h) hW
  clear hR hW
  rw [e1, e2] at hcc
  rw [e1, e2]
  have E1 := Lib.hid e1
  have E2 := Lib.hid e2
  have Hcc := Lib.hid hcc
  have HER := Lib.hid (show encR r = if repErr r = 0 then encF r else [] from rfl)
  clear e1 e2 hcc
  go_enter Try.func19, Try.ntmps19
  go_upto_region 1 with fail
  have B1 := Blk.new w #[.int .i64 r.win, .int .u64 r.tot, .slice la r.lines.length lc, .int .u64 r.over, .int .i64 r.trk, .int .u64 r.rest, .slice ra r.rej.length rc] 26
  have G1 := grownBy_new_block (grownBy_refl w none) (.cells #[.int .i64 r.win, .int .u64 r.tot, .slice la r.lines.length lc, .int .u64 r.over, .int .i64 r.trk, .int .u64 r.rest, .slice ra r.rej.length rc] 26)
  generalize w.alloc (.cells #[.int .i64 r.win, .int .u64 r.tot, .slice la r.lines.length lc, .int .u64 r.over, .int .i64 r.trk, .int .u64 r.rest, .slice ra r.rej.length rc] 26) = w1 at *
  have hb1 := B1.lt
  obtain ⟨b, hb⟩ : ∃ b, w.heap.size = b := ⟨_, rfl⟩
  rw [hb] at B1 hb1 ⊢
  have Hb := Lib.hid hb
  clear hb
  have b1 := B1.cell
  go_upto_region 2 with (go_at_call 17; refine (Hcc.out _ G1).mono ?_; rintro e w2 ⟨rfl, g2⟩)
  clear b1
  have B2 := B1.same g2
  have G2 := grownBy_trans G1 g2
  obtain ⟨er, her⟩ : ∃ er, repErr r = er := ⟨_, rfl⟩
  have Her := Lib.hid her
  rw [her] at HER ⊢
  by_cases he : er = 0
  · subst he
    have HOK := Lib.hid (rep_ok her)
    clear her
    have h7 : r.rej.length = 7 := HOK.out.rej
    obtain ⟨gr, orr, cr, hvr, hgr, -⟩ := HR.out.rej.at_ (fun _ => rfl) (show 0 < r.rej.length by omega)
    obtain ⟨rfl, rfl⟩ : ra = some ⟨gr, orr, none⟩ ∧ rc = cr := by
      have := E2.out.symm.trans hvr
      simp only [Value.slice.injEq] at this
      exact ⟨this.1, this.2.2⟩
    have hrc : r.rej.length ≤ rc := HR.out.rcap _ _ _ E2.out
    have HE2 := Lib.hid (HER.out.trans (if_pos rfl))
    clear HER hvr
    go_upto_region 5 with fail
    obtain ⟨p1, p2⟩ := HOK.out.win
    obtain ⟨p3, p4⟩ := HOK.out.trk
    have hw1 : IntKind.u64.wrap r.win = r.win := IntWalk.u64_in _ (by omega)
    have hw2 : IntKind.u64.wrap r.trk = r.trk := IntWalk.u64_in _ (by omega)
    have HB2 := Lib.hid B2
    have HG2 := Lib.hid G2
    clear B2 G2 Hcc g2 G1 hb1 B1
    have hrc7 : 7 ≤ rc := by omega
    have hrc1 : ¬ rc = 1 := by omega
    have hrc2 : (7 : Int) ≤ (rc : Int) := by omega
    have hrc3 : (1 : Int) ≤ (rc : Int) := by omega
    have hrl : (r.rej.drop 1).length = 6 := by rw [List.length_drop, h7]
    have K6 : World.grownBy w2 w2.drew none := (by (repeat (first | exact grownBy_refl _ _ | assumption | refine grownBy_new_block ?_ _ | refine grownBy_drew ?_ | refine grownBy_drewN ?_ _ | refine grownBy_setNew ?_ (by first | (simp; done) | omega | (simp; omega)) _)))
    (refine Rg.wp_region_rgZ 19 #[] (fun w w' => World.grownBy w w' none) (fun _ _ _ _ _ => False) (by kernel_rfl) (by kernel_rfl) (fun w => grownBy_refl w none) (fun _ _ _ h k => grownBy_trans h k) (fun _ _ _ _ _ h => h) ?_; simp only [List.take, List.drop])
    generalize w2.drew = wd at *
    (refine Rg.tree_quiet 1 rfl (by first | exact Or.inl rfl | exact Or.inr rfl) ?_; simp only [List.take, List.drop, List.length_cons, List.length_nil, List.replicate, Nat.reduceAdd]; (try simp only [List.cons_append]); (try simp only [List.nil_append]); (repeat (go_big_quiet_step (fail))); refine wpQuiet_nil ?_)
    (refine Rg.tree_op rfl rfl ?_; intro x1 mx1 dx1)
    clear dx1
    have ax := (HB2.out.same (grownBy_trans K6 mx1)).cell
    go_wp2_with fail
    refine ⟨grownBy_refl _ _, ?_⟩
    clear ax
    (refine Rg.tree_quiet 2 rfl (by first | exact Or.inl rfl | exact Or.inr rfl) ?_; simp only [List.take, List.drop, List.length_cons, List.length_nil, List.replicate, Nat.reduceAdd]; (try simp only [List.cons_append]); (try simp only [List.nil_append]); (repeat (go_big_quiet_step (fail))); refine wpQuiet_nil ?_)
    (refine Rg.tree_op rfl rfl ?_; intro x4 mx4 dx4)
    clear dx4
    have ax := (HB2.out.same (grownBy_trans K6 mx4)).cell
    go_wp2_with fail
    refine ⟨grownBy_refl _ _, ?_⟩
    clear ax
    (refine Rg.tree_quiet 1 rfl (by first | exact Or.inl rfl | exact Or.inr rfl) ?_; simp only [List.take, List.drop, List.length_cons, List.length_nil, List.replicate, Nat.reduceAdd]; (try simp only [List.cons_append]); (try simp only [List.nil_append]); (repeat (go_big_quiet_step (fail))); refine wpQuiet_nil ?_)
    (refine Rg.tree_op rfl rfl ?_; intro x6 mx6 dx6)
    clear dx6
    have ax := (HB2.out.same (grownBy_trans K6 mx6)).cell
    go_wp2_with fail
    refine ⟨grownBy_refl _ _, ?_⟩
    clear ax
    (refine Rg.tree_quiet 1 rfl (by first | exact Or.inl rfl | exact Or.inr rfl) ?_; simp only [List.take, List.drop, List.length_cons, List.length_nil, List.replicate, Nat.reduceAdd]; (try simp only [List.cons_append]); (try simp only [List.nil_append]); (repeat (go_big_quiet_step (fail))); refine wpQuiet_nil ?_)
    (refine Rg.tree_op rfl rfl ?_; intro x8 mx8 dx8)
    clear dx8
    have ax := (HB2.out.same (grownBy_trans K6 mx8)).cell
    go_wp2_with fail
    refine ⟨grownBy_refl _ _, ?_⟩
    clear ax
    (refine Rg.tree_quiet 2 rfl (by first | exact Or.inl rfl | exact Or.inr rfl) ?_; simp only [List.take, List.drop, List.length_cons, List.length_nil, List.replicate, Nat.reduceAdd]; (try simp only [List.cons_append]); (try simp only [List.nil_append]); (repeat (go_big_quiet_step (fail))); refine wpQuiet_nil ?_)
    (refine Rg.tree_op rfl rfl ?_; intro x11 mx11 dx11)
    clear dx11
    have ax := (HB2.out.same (grownBy_trans K6 mx11)).cell
    go_wp2_with fail
    refine ⟨grownBy_refl _ _, ?_⟩
    clear ax
    (refine Rg.tree_op rfl rfl ?_; intro x12 mx12 dx12)
    clear dx12
    go_wp2_with fail
    refine ⟨World.grownBy_alloc _ _ _, ?_⟩
    have N12 := Blk.new x12 #[.int .u64 r.win, .int .u64 r.tot, .int .u64 r.over, .int .u64 r.trk, .int .u64 r.rest] 22
    generalize x12.alloc (.cells #[.int .u64 r.win, .int .u64 r.tot, .int .u64 r.over, .int .u64 r.trk, .int .u64 r.rest] 22) = y12 at *
    generalize x12.heap.size = g12 at *
    (refine Rg.tree_quiet 1 rfl (by first | exact Or.inl rfl | exact Or.inr rfl) ?_; simp only [List.take, List.drop, List.length_cons, List.length_nil, List.replicate, Nat.reduceAdd]; (try simp only [List.cons_append]); (try simp only [List.nil_append]); (repeat (go_big_quiet_step (fail))); refine wpQuiet_nil ?_)
    (refine Rg.tree_op rfl rfl ?_; intro x14 mx14 dx14)
    clear dx14
    have ax := (HB2.out.same (grownBy_trans K6 mx14)).cell
    go_wp2_with fail
    refine ⟨grownBy_refl _ _, ?_⟩
    clear ax
    (refine Rg.tree_quiet 1 rfl (by first | exact Or.inl rfl | exact Or.inr rfl) ?_; simp only [List.take, List.drop, List.length_cons, List.length_nil, List.replicate, Nat.reduceAdd]; (try simp only [List.cons_append]); (try simp only [List.nil_append]); (repeat (go_big_quiet_step (fail))); refine wpQuiet_nil ?_)
    (refine Rg.tree_op rfl rfl ?_; intro x16 mx16 dx16)
    have N16 := N12.same (dx16.out 12 (by omega) (by kernel_rfl))
    have hl5 : [r.win, r.tot, r.over, r.trk, r.rest].length = 5 := rfl
    have L16 := N16.many (f := wordF) (size := 1) (fun _ => rfl) [r.win, r.tot, r.over, r.trk, r.rest] rfl (by simp)
    have R16 : RdL wordF 1 x16 (.slice (some ⟨gr, orr + 1, none⟩) 6 (rc - 1)) (r.rej.drop 1) := by
      have h0 := (HR.out.same (grownBy_trans HG2.out (grownBy_trans K6 mx16))).rej
      rw [E2.out] at h0
      have h1 := RdL.drop1 (fun _ => rfl) h0 (k := 1) (by omega) hrc (rc - 1)
      rw [if_neg hrc1, h7] at h1
      exact h1
    have hb1 : ([r.win, r.tot, r.over, r.trk, r.rest].length + (r.rej.drop 1).length) * 8 ≤ 140737488355328 := by rw [hl5, hrl]; omega
    have hb2 : [r.win, r.tot, r.over, r.trk, r.rest].length + (r.rej.drop 1).length ≤ 9223372036854775807 := by rw [hl5, hrl]; omega
    have h50 : 0 < [r.win, r.tot, r.over, r.trk, r.rest].length := by rw [hl5]; omega
    have h60 : 0 < (r.rej.drop 1).length := by rw [hrl]; omega
    have Hrl := Lib.hid hrl
    obtain ⟨WS, hWS⟩ : ∃ WS, [r.win, r.tot, r.over, r.trk, r.rest] ++ r.rej.drop 1 = WS := ⟨_, rfl⟩
    have hl11 : WS.length = 11 := by rw [← hWS, List.length_append, hl5, hrl]
    have HWS := Lib.hid hWS
    have Hl11 := Lib.hid hl11
    have hg16 : w2.heap.size ≤ x16.heap.size := (grownBy_trans K6 mx16).size
    clear dx16 N16 hrl hWS hl11
    go_wp2_with (at_builtin; refine app_grow elt_word one_word L16 rfl R16 Hrl.out.symm h50 h60 hb1 hb2 (by rfl) _ _ (by rfl) (by rfl) (by rfl) ?_; intro v16 e16 o16 g16; have Hg16 := Lib.hid g16; clear g16)
    refine ⟨Hg16.out, ?_⟩
    rw [HWS.out] at o16
    have o16' := Lib.hid (o16.base (B' := w.heap.size) fun q hq => Nat.le_trans HG2.out.size (Nat.le_trans hg16 (o16.lt q hq).1))
    obtain ⟨a16, c16, rfl⟩ := o16.shape
    clear o16 L16 R16 hb1 hb2 hl5 Hg16
    (refine Rg.tree_quiet 2 rfl (by first | exact Or.inl rfl | exact Or.inr rfl) ?_; simp only [List.take, List.drop, List.length_cons, List.length_nil, List.replicate, Nat.reduceAdd]; (try simp only [List.cons_append]); (try simp only [List.nil_append]); (repeat (go_big_quiet_step (fail))); refine wpQuiet_nil ?_)
    (refine Rg.tree_nil ?_; intro z mz dz cz)
    have O16 := Lib.hid (o16'.out.same (dz.out 16 (by omega)))
    have K8 := Lib.hid (grownBy_trans HG2.out (grownBy_trans K6 mz))
    have HBz := Lib.hid (HB2.out.same (grownBy_trans K6 mz))
    clear dz cz mz mx1 mx4 mx6 mx8 mx11 mx12 mx14 mx16 K6 N12 o16' hg16 hw1 hw2 HB2 HG2
    go_wp2_with fail
    have hww : ∀ x ∈ WS, W64 x := by
      intro x hx
      rw [← HWS.out] at hx
      have t1 := HW.out.tot
      have t2 := HW.out.over
      have t3 := HW.out.rest
      rcases List.mem_append.1 hx with h | h
      · simp only [List.mem_cons, List.not_mem_nil, or_false] at h
        rcases h with rfl | rfl | rfl | rfl | rfl
        · unfold W64; omega
        · exact t1
        · exact t2
        · unfold W64; omega
        · exact t3
      · exact HW.out.rej _ (List.mem_of_mem_drop h)
    go_loopw [5, 33] (fun s5 s33 wk => ∃ k : Nat, k ≤ WS.length ∧ s33 = .int .i64 k ∧ Own byF 1 5 w.heap.size wk s5 (vbs ((WS.take k).map Int.toNat)) ∧ z.grownBy wk none) (fun _ s33 _ => WS.length - (intOf s33).toNat)
    case atStart => exact ⟨0, Nat.zero_le _, rfl, Own.nil _ _ _ _ _, grownBy_refl _ _⟩
    case round =>
      obtain ⟨k, hk, rfl, hO, hg⟩ := hrel
      obtain ⟨va, vc, rfl⟩ := hO.shape
      have hvl : (vbs ((WS.take k).map Int.toNat)).length ≤ 110 := by
        have := vbs_len (ns := (WS.take k).map Int.toNat) (by
          intro n hn
          obtain ⟨x, hx, rfl⟩ := List.mem_map.1 hn
          have := hww x (List.mem_of_mem_take hx)
          unfold W64 at this
          omega)
        rw [List.length_map, List.length_take] at this
        have hl11 := Hl11.out
        omega
      by_cases hlt : k < WS.length
      · obtain ⟨gw, ow, cw, hv, hgw, cel⟩ := (O16.out.same hg).rd.one word_one hlt
        cases hv
        have hx := hww _ (List.getElem_mem hlt)
        have HS := Lib.hid (show vbs ((WS.take k).map Int.toNat) ++ vb WS[k].toNat = vbs ((WS.take (k + 1)).map Int.toNat) by
          rw [List.take_succ_eq_append_getElem hlt, List.map_append, List.map_singleton, vbs_snoc])
        unfold W64 at hx
        obtain ⟨n, hn⟩ : ∃ n : Nat, WS[k] = (n : Int) := ⟨WS[k].toNat, by omega⟩
        rw [hn] at cel HS hx
        rw [Int.toNat_natCast] at HS
        generalize vbs ((WS.take k).map Int.toNat) = L at *
        have Ca := Lib.hid (rappend_c _ L n wr hO.rd (by omega) (by omega))
        have Hww := Lib.hid hww
        have hk0 : (0 : Int) ≤ (k : Int) := by omega
        have hk1 : (k : Int) < (WS.length : Int) := by omega
        have hkb : (k : Int) < 11 := by have := Hl11.out; omega
        clear hO hn hww
        go_wp2_with (go_at_call 57; refine Ca.out.mono ?_; rintro e wx ⟨v2, rfl, o2, gx⟩)
        exact ⟨⟨k + 1, by omega, by go_num, by rw [← HS.out]; exact o2.base fun q hq => Nat.le_trans (Nat.le_trans K8.out.size hg.size) (o2.lt q hq).1, grownBy_trans hg gx⟩, by simp [intOf]; omega⟩
      · obtain rfl : k = WS.length := by omega
        have hke : WS.take WS.length = WS := List.take_of_length_le (Nat.le_refl _)
        rw [hke] at hO hvl ⊢
        have HH := Lib.hid (show vbs (WS.map Int.toNat) ++ vb r.lines.length = headB r by
          unfold headB
          rw [← HWS.out, List.map_append]
          simp [vbs])
        have hfew := HOK.out.few
        have hw3 : IntKind.u64.wrap (r.lines.length : Int) = (r.lines.length : Int) := IntWalk.u64_in _ (by omega)
        have bz := (HBz.out.same hg).cell
        generalize vbs (WS.map Int.toNat) = L at *
        have Ca := Lib.hid (rappend_c _ L r.lines.length wr hO.rd (by omega) (by omega))
        have hl10 := vb_ten (show r.lines.length < 18446744073709551616 by omega)
        have hhl : (headB r).length ≤ 120 := by rw [← HH.out, List.length_append]; omega
        clear hO hl10
        go_upto_region 11 with (go_at_call 57; refine Ca.out.mono ?_; rintro e wx ⟨v2, rfl, o2, gx⟩)
        rw [HH.out] at o2
        have K9 := Lib.hid (grownBy_trans K8.out (grownBy_trans hg gx))
        have O2 := Lib.hid (o2.base (B' := w.heap.size) fun q hq => Nat.le_trans (Nat.le_trans K8.out.size hg.size) (o2.lt q hq).1)
        have HBx := Lib.hid (HBz.out.same (grownBy_trans hg gx))
        have bx := HBx.out.cell
        clear o2 Ca bz HBz K8 hg gx hvl hke hk O16 hww hw3
        go_wp2_with fail
        clear bx
        go_loopw [5, 50] (fun s5 s50 wk => ∃ k : Nat, k ≤ r.lines.length ∧ s50 = .int .i64 k ∧ Own byF 1 5 w.heap.size wk s5 (headB r ++ linesB (r.lines.take k)) ∧ w.grownBy wk none) (fun _ s50 _ => r.lines.length - (intOf s50).toNat)
        case atStart => exact ⟨0, Nat.zero_le _, rfl, by simpa [linesB] using O2.out, K9.out⟩
        case round =>
          clear O2 K9
          obtain ⟨k, hk, rfl, hO, hg⟩ := hrel
          by_cases hlt : k < r.lines.length
          · obtain ⟨gx, ox, cx, hv, hgx, hcx⟩ := (HR.out.same hg).lines.at_ lnF_len hlt
            rw [E1.out] at hv
            cases hv
            have c0 := hcx 0 _ rfl
            have c1 := hcx 1 _ rfl
            have c2 := hcx 2 _ rfl
            rw [Nat.add_zero] at c0
            obtain ⟨-, hk255, hlh, -⟩ := HOK.out.ln hlt
            have hlw := HW.out.lines _ (List.getElem_mem hlt)
            have hlo := hlw.lo
            have hhi := hlw.hi
            have HS := Lib.hid (show headB r ++ linesB (r.lines.take (k + 1)) = (headB r ++ linesB (r.lines.take k)) ++ lnB r.lines[k] by rw [List.take_succ_eq_append_getElem hlt, linesB_snoc, List.append_assoc])
            have hll : (linesB (r.lines.take k)).length ≤ 285 * k := by
              have : ∀ m, m ≤ r.lines.length → (linesB (r.lines.take m)).length ≤ 285 * m := by
                intro m
                induction m with
                | zero => intro _; simp [linesB]
                | succ m ih =>
                  intro hm
                  have h1 := ih (by omega)
                  obtain ⟨-, q1, q2, -⟩ := HOK.out.ln (show m < r.lines.length by omega)
                  have q3 := HW.out.lines _ (List.getElem_mem (show m < r.lines.length by omega))
                  have q4 := q3.lo
                  have q5 := q3.hi
                  unfold W64 at q4 q5
                  rw [List.take_succ_eq_append_getElem (by omega), linesB_snoc, List.length_append]
                  have h2 : (lnB r.lines[m]).length ≤ 285 := by
                    unfold lnB
                    have e1 := vb_ten (show r.lines[m].key.size < 18446744073709551616 by omega)
                    have e2 : (vbs [r.lines[m].lo.toNat, (r.lines[m].hi - r.lines[m].lo).toNat]).length ≤ 20 := vbs_len (by intro n hn; simp at hn; omega)
                    have e3 : r.lines[m].key.data.toList.length = r.lines[m].key.size := Array.length_toList
                    rw [List.length_append, List.length_append, e3]
                    omega
                  omega
              exact this k hk
            have hLl : (headB r ++ linesB (r.lines.take k)).length ≤ 100000 := by rw [List.length_append]; omega
            clear hll hcx hlw
            generalize headB r ++ linesB (r.lines.take k) = L at *
            have hlnB := Lib.hid (show lnB r.lines[k] = vb r.lines[k].key.size ++ r.lines[k].key.data.toList ++ vbs [r.lines[k].lo.toNat, (r.lines[k].hi - r.lines[k].lo).toNat] from rfl)
            generalize r.lines[k] = x at *
            obtain ⟨va, vc, rfl⟩ := hO.shape
            have hk0 : (0 : Int) ≤ (k : Int) := by omega
            have hk1 : (k : Int) < (r.lines.length : Int) := by omega
            go_upto_region 14 with fail
            have A10 := Blk.new wr #[.string x.key, .int .u64 x.lo, .int .u64 x.hi] 71
            have G10 := World.grownBy_alloc wr (.cells #[.string x.key, .int .u64 x.lo, .int .u64 x.hi] 71) none
            have O10 := Lib.hid (hO.same G10)
            have K10 := Lib.hid (grownBy_trans hg G10)
            generalize wr.alloc (.cells #[.string x.key, .int .u64 x.lo, .int .u64 x.hi] 71) = w10 at *
            generalize wr.heap.size = gl at *
            have HB2 := Lib.hid A10
            have hgl10 := A10.lt
            clear A10 G10 hO hg c0 c1 c2
            have hwk : IntKind.u64.wrap (x.key.size : Int) = (x.key.size : Int) := IntWalk.u64_in _ (by omega)
            have hv2 : x.key.data.toList.length = x.key.size := Array.length_toList
            have hv1 := vb_ten (show x.key.size < 18446744073709551616 by omega)
            obtain ⟨L1, hL1⟩ : ∃ L1, L ++ vb x.key.size = L1 := ⟨_, rfl⟩
            have hb9 : L1.length + x.key.size ≤ 140737488355328 := by rw [← hL1, List.length_append]; omega
            have hLl2 : (L1 ++ x.key.data.toList).length ≤ 200000 := by rw [← hL1, List.length_append, List.length_append, hv2]; omega
            have HS2 := Lib.hid (show (L1 ++ x.key.data.toList) ++ vb x.lo.toNat ++ vb (x.hi - x.lo).toNat = L ++ lnB x by rw [hlnB.out, ← hL1]; simp only [List.append_assoc, vbs, List.flatMap_cons, List.flatMap_nil, List.append_nil])
            have Ca := Lib.hid fun w' (h : World.grownBy w10 w' none) => hL1 ▸ rappend_c _ L x.key.size w' (O10.out.same h).rd (by omega) (by omega)
            obtain ⟨L2, hL2⟩ : ∃ L2, L1 ++ x.key.data.toList = L2 := ⟨_, rfl⟩
            rw [hL2] at hLl2 HS2
            have HL2 := Lib.hid hL2
            clear hL1 hL2 hv1 hv2 hlnB
            have hsz10 : w.heap.size ≤ w10.heap.size := K10.out.size
            have K6 : World.grownBy w10 w10.drew none := (by (repeat (first | exact grownBy_refl _ _ | assumption | refine grownBy_new_block ?_ _ | refine grownBy_drew ?_ | refine grownBy_drewN ?_ _ | refine grownBy_setNew ?_ (by first | (simp; done) | omega | (simp; omega)) _)))
            (refine Rg.wp_region_rgZ 8 #[] (fun w w' => World.grownBy w w' none) (fun k _ w0 v w' => match k with | 5 => Own byF 1 5 w10.heap.size w' v L1 ∧ World.grownBy w0 w' none | _ => False) (by kernel_rfl) (by kernel_rfl) (fun w => grownBy_refl w none) (fun _ _ _ h k => grownBy_trans h k) (fun _ _ _ _ _ h => h) ?_; simp only [List.take, List.drop])
            generalize w10.drew = wd at *
            (refine Rg.tree_quiet 2 rfl (by first | exact Or.inl rfl | exact Or.inr rfl) ?_; simp only [List.take, List.drop, List.length_cons, List.length_nil, List.replicate, Nat.reduceAdd]; (try simp only [List.cons_append]); (try simp only [List.nil_append]); (repeat (go_big_quiet_step (fail))); refine wpQuiet_nil ?_)
            (refine Rg.tree_op rfl rfl ?_; intro x2 mx2 dx2)
            clear dx2
            have ax := (HB2.out.same (grownBy_trans K6 mx2)).cell
            go_wp2_with fail
            refine ⟨grownBy_refl _ _, ?_⟩
            clear ax
            (refine Rg.tree_quiet 2 rfl (by first | exact Or.inl rfl | exact Or.inr rfl) ?_; simp only [List.take, List.drop, List.length_cons, List.length_nil, List.replicate, Nat.reduceAdd]; (try simp only [List.cons_append]); (try simp only [List.nil_append]); (repeat (go_big_quiet_step (fail))); refine wpQuiet_nil ?_)
            (refine Rg.tree_call rfl rfl rfl ?_; intro x5 mx5 dx5; refine ⟨?_, ?_⟩; · (unfold Rg.callSpec; go_simp; (refine (Ca.out x5 (grownBy_trans K6 mx5)).mono ?_; rintro e w' ⟨v2, rfl, o2, g2⟩; exact ⟨v2, rfl, o2.base (fun q hq => Nat.le_trans (grownBy_trans K6 mx5).size (o2.lt q hq).1), g2⟩)))
            clear dx5
            rintro v5 y5 ⟨o5, g5⟩
            refine ⟨g5, ?_⟩
            obtain ⟨a5, c5, rfl⟩ := o5.shape
            have Ho5 := Lib.hid o5
            clear g5 o5
            simp only [Act.put, List.setIfInBounds_toArray, List.set_cons_zero, List.set_cons_succ]
            (refine Rg.tree_quiet 1 rfl (by first | exact Or.inl rfl | exact Or.inr rfl) ?_; simp only [List.take, List.drop, List.length_cons, List.length_nil, List.replicate, Nat.reduceAdd]; (try simp only [List.cons_append]); (try simp only [List.nil_append]); (repeat (go_big_quiet_step (fail))); refine wpQuiet_nil ?_)
            (refine Rg.tree_op rfl rfl ?_; intro x7 mx7 dx7)
            clear dx7
            have ax := (HB2.out.same (grownBy_trans K6 mx7)).cell
            go_wp2_with fail
            refine ⟨grownBy_refl _ _, ?_⟩
            clear ax
            (refine Rg.tree_nil ?_; intro z1 mz1 dz1 cz1)
            have O5' := Ho5.out.same (dz1.out 5 (by omega))
            have O5 := O5'.base (B' := w.heap.size) fun q hq => Nat.le_trans hsz10 (O5'.lt q hq).1
            have Kz := grownBy_trans K10.out (grownBy_trans K6 mz1)
            have Az := HB2.out.same (grownBy_trans K6 mz1)
            have hszz : w.heap.size ≤ z1.heap.size := Kz.size
            have hAl : ∀ q, (Value.slice a5 L1.length c5).ownBlock = some q → q ≠ gl := fun q hq => by have := (O5'.lt q hq).1; omega
            clear dz1 cz1 mz1 mx2 mx5 mx7 K6 Ho5 O5' Ca hwk HB2 K10 O10
            go_upto_region 15 with (at_builtin; refine app_str O5 x.key hb9 hszz (by rfl) _ _ (by rfl) (by rfl) (by rfl) ?_; intro v8 w8 o8 g8; rw [HL2.out] at o8; obtain ⟨a8, c8, rfl⟩ := o8.shape)
            have K8' := Lib.hid (grown_own Kz O5 (Nat.le_refl _) g8)
            have HB2 := Lib.hid (Az.kept g8 (fun e => hAl _ e rfl))
            have O8 := Lib.hid o8
            clear o8 g8 Az Kz O5 hAl hszz hb9
            unfold W64 at hlo hhi
            obtain ⟨nlo, hnlo⟩ : ∃ n : Nat, x.lo = (n : Int) := ⟨x.lo.toNat, by omega⟩
            obtain ⟨ndf, hndf⟩ : ∃ n : Nat, x.hi - x.lo = (n : Int) := ⟨(x.hi - x.lo).toNat, by omega⟩
            have hws : IntKind.u64.wrap (x.hi - x.lo) = (ndf : Int) := by rw [hndf]; exact IntWalk.u64_in _ (by omega)
            rw [hndf, hnlo, Int.toNat_natCast, Int.toNat_natCast] at HS2
            have hl8 := vb_ten (show nlo < 18446744073709551616 by omega)
            obtain ⟨L3, hL3⟩ : ∃ L3, L2 ++ vb nlo = L3 := ⟨_, rfl⟩
            have hL3l : L3.length ≤ 200010 := by rw [← hL3, List.length_append]; omega
            rw [hL3] at HS2
            have Ca := Lib.hid fun w' (h : World.grownBy w8 w' none) => hL3 ▸ rappend_c _ L2 nlo w' (O8.out.same h).rd (by omega) (by omega)
            obtain ⟨L4, hL4⟩ : ∃ L4, L3 ++ vb ndf = L4 := ⟨_, rfl⟩
            have Cb := Lib.hid fun w' v (h : RdL byF 1 w' v L3) => hL4 ▸ rappend_c v L3 ndf w' h (by omega) (by omega)
            rw [hL4] at HS2
            clear hL3 hL4 HL2
            have hsz8 : w.heap.size ≤ w8.heap.size := K8'.out.size
            have Hnlo := Lib.hid hnlo
            rw [hnlo] at HB2 hws
            clear hnlo hndf hl8 hlo hhi
            have K6 : World.grownBy w8 w8.drew none := (by (repeat (first | exact grownBy_refl _ _ | assumption | refine grownBy_new_block ?_ _ | refine grownBy_drew ?_ | refine grownBy_drewN ?_ _ | refine grownBy_setNew ?_ (by first | (simp; done) | omega | (simp; omega)) _)))
            (refine Rg.wp_region_rgZ 11 #[] (fun w w' => World.grownBy w w' none) (fun k _ w0 v w' => match k with | 3 => Own byF 1 5 w.heap.size w' v L3 ∧ World.grownBy w0 w' none | 9 => Own byF 1 5 w.heap.size w' v L4 ∧ World.grownBy w0 w' none | _ => False) (by kernel_rfl) (by kernel_rfl) (fun w => grownBy_refl w none) (fun _ _ _ h k => grownBy_trans h k) (fun _ _ _ _ _ h => h) ?_; simp only [List.take, List.drop])
            generalize w8.drew = wd at *
            (refine Rg.tree_quiet 2 rfl (by first | exact Or.inl rfl | exact Or.inr rfl) ?_; simp only [List.take, List.drop, List.length_cons, List.length_nil, List.replicate, Nat.reduceAdd]; (try simp only [List.cons_append]); (try simp only [List.nil_append]); (repeat (go_big_quiet_step (fail))); refine wpQuiet_nil ?_)
            (refine Rg.tree_op rfl rfl ?_; intro x2 mx2 dx2)
            clear dx2
            have ax := (HB2.out.same (grownBy_trans K6 mx2)).cell
            go_wp2_with fail
            refine ⟨grownBy_refl _ _, ?_⟩
            clear ax
            (refine Rg.tree_call rfl rfl rfl ?_; intro x3 mx3 dx3; refine ⟨?_, ?_⟩; · (unfold Rg.callSpec; go_simp; (refine (Ca.out x3 (grownBy_trans K6 mx3)).mono ?_; rintro e w' ⟨v2, rfl, o2, g2⟩; exact ⟨v2, rfl, o2.base (fun q hq => Nat.le_trans (Nat.le_trans hsz8 (grownBy_trans K6 mx3).size) (o2.lt q hq).1), g2⟩)))
            clear dx3
            rintro v3 y3 ⟨o3, g3⟩
            refine ⟨g3, ?_⟩
            obtain ⟨a3, c3, rfl⟩ := o3.shape
            have Ho3 := Lib.hid o3
            clear g3 o3
            simp only [Act.put, List.setIfInBounds_toArray, List.set_cons_zero, List.set_cons_succ]
            (refine Rg.tree_quiet 1 rfl (by first | exact Or.inl rfl | exact Or.inr rfl) ?_; simp only [List.take, List.drop, List.length_cons, List.length_nil, List.replicate, Nat.reduceAdd]; (try simp only [List.cons_append]); (try simp only [List.nil_append]); (repeat (go_big_quiet_step (fail))); refine wpQuiet_nil ?_)
            (refine Rg.tree_op rfl rfl ?_; intro x5 mx5 dx5)
            clear dx5
            have ax := (HB2.out.same (grownBy_trans K6 mx5)).cell
            go_wp2_with fail
            refine ⟨grownBy_refl _ _, ?_⟩
            clear ax
            (refine Rg.tree_quiet 1 rfl (by first | exact Or.inl rfl | exact Or.inr rfl) ?_; simp only [List.take, List.drop, List.length_cons, List.length_nil, List.replicate, Nat.reduceAdd]; (try simp only [List.cons_append]); (try simp only [List.nil_append]); (repeat (go_big_quiet_step (fail))); refine wpQuiet_nil ?_)
            (refine Rg.tree_op rfl rfl ?_; intro x7 mx7 dx7)
            clear dx7
            have ax := (HB2.out.same (grownBy_trans K6 mx7)).cell
            go_wp2_with fail
            refine ⟨grownBy_refl _ _, ?_⟩
            clear ax
            (refine Rg.tree_quiet 1 rfl (by first | exact Or.inl rfl | exact Or.inr rfl) ?_; simp only [List.take, List.drop, List.length_cons, List.length_nil, List.replicate, Nat.reduceAdd]; (try simp only [List.cons_append]); (try simp only [List.nil_append]); (repeat (go_big_quiet_step (fail))); refine wpQuiet_nil ?_)
            (refine Rg.tree_call rfl rfl rfl ?_; intro x9 mx9 dx9; refine ⟨?_, ?_⟩; · (unfold Rg.callSpec; go_simp; (refine (Cb.out x9 _ (Ho3.out.same (dx9.out 3 (by omega) (by kernel_rfl))).rd).mono ?_; rintro e w' ⟨v2, rfl, o2, g2⟩; exact ⟨v2, rfl, o2.base (fun q hq => Nat.le_trans (Nat.le_trans hsz8 (grownBy_trans K6 mx9).size) (o2.lt q hq).1), g2⟩)))
            clear dx9
            rintro v9 y9 ⟨o9, g9⟩
            refine ⟨g9, ?_⟩
            have Ho9 := Lib.hid o9
            clear g9 o9
            simp only [Act.put, List.setIfInBounds_toArray, List.set_cons_zero, List.set_cons_succ]
            (refine Rg.tree_quiet 1 rfl (by first | exact Or.inl rfl | exact Or.inr rfl) ?_; simp only [List.take, List.drop, List.length_cons, List.length_nil, List.replicate, Nat.reduceAdd]; (try simp only [List.cons_append]); (try simp only [List.nil_append]); (repeat (go_big_quiet_step (fail))); refine wpQuiet_nil ?_)
            (refine Rg.tree_nil ?_; intro z2 mz2 dz2 cz2)
            have O9 := Lib.hid (Ho9.out.same (dz2.out 9 (by omega)))
            have K9 := Lib.hid (grownBy_trans K8'.out (grownBy_trans K6 mz2))
            clear dz2 cz2 mz2 mx2 mx3 mx5 mx7 mx9 K6 Ho3 Ho9 Ca Cb hws HB2 K8' O8
            go_wp2_with fail
            exact ⟨⟨k + 1, by omega, by go_num, by rw [HS.out, ← HS2.out]; exact O9.out, K9.out⟩, by simp [intOf]; omega⟩
          · have hke : r.lines.take k = r.lines := List.take_of_length_le (by omega)
            rw [hke, show headB r ++ linesB r.lines = encF r from rfl, ← HE2.out] at hO
            obtain ⟨va, vc, rfl⟩ := hO.shape
            have HO := Lib.hid hO
            clear hO
            go_wp2_with fail
            refine bodyPost_ret (v := .tuple #[.slice va (encR r).length vc, .int .i64 0]) (by simp [results, Try.results19, go_sem]) rfl ?_
            exact ⟨.slice va (encR r).length vc, by rw [Her.out], HO.out, hg⟩
  · have heb : (er != 0) = true := by simp [he]
    have HE2 := Lib.hid (HER.out.trans (if_neg he))
    clear he her
    go_wp2_with fail
    refine bodyPost_ret (v := .tuple #[.slice none 0 0, .int .i64 er]) (by simp [results, Try.results19, go_sem]) rfl ?_
    exact ⟨.slice none 0 0, by rw [Her.out], by rw [HE2.out]; exact Own.nil _ _ _ _ _, G2⟩
end Go.Proofs.Ytiagjiaahnkefaa
