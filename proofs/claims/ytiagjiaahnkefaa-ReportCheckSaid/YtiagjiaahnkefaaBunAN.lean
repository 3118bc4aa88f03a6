/- Several texts in one file; each begins with a comment that says what is proved in it. -/
import Derived.Test.YtiagjiaahnkefaaBunAM
import Derived.Test.YtiagjiaahnkefaaBunAK
import Derived.Test.YtiagjiaahnkefaaBunAL
import Derived.Test.YtiagjiaahnkefaaBunAC
import Derived.Test.YtiagjiaahnkefaaBunAB
import Derived.Deep.Slices
import Derived.Deep.Fields
import Derived.Deep.Strs
import Derived.ChangeMaps5
import Derived.Test.YtiagjiaahnkefaaBunAI

/- Reports as bytes: Encode. -/
namespace Go.Proofs.Ytiagjiaahnkefaa
open Go.RowKit Go.Sort

theorem Blk.many {α : Type} {f : α → List Value} {size : Nat} {w : World} {g : Nat} {cs : Array Value} (h : Blk w g cs) (hf : ∀ x, (f x).length = size) (l : List α) (hcs : cs.toList = cellsOf f l) (hl : l.length ≤ 9223372036854775807) : RdL f size w (.slice (some ⟨g, 0, none⟩) l.length l.length) l := by
  refine ⟨length_cellsOf f size hf l, hl, .inr ⟨g, 0, l.length, rfl, h.lt, fun j u hu => ?_⟩⟩
  rw [Nat.zero_add, h.cell j]
  rw [← hcs] at hu
  simpa using hu
theorem rd_nat {w : World} {v : Value} {l : List Int} (h : RdL wordF 1 w v l) (h0 : ∀ x ∈ l, 0 ≤ x) : RdL natF 1 w v (l.map Int.toNat) := by
  have e : ∀ l : List Int, (∀ x ∈ l, 0 ≤ x) → cellsOf natF (l.map Int.toNat) = cellsOf wordF l := by
    intro l
    induction l with
    | nil => intro _; rfl
    | cons x l ih =>
      intro h
      have h1 := ih fun y hy => h y (List.mem_cons_of_mem _ hy)
      have h2 := h x (by simp)
      simp only [cellsOf, List.map_cons, List.flatMap_cons] at *
      rw [h1]
      simp only [natF, wordF]
      rw [Int.toNat_of_nonneg h2]
  unfold RdL
  rw [e l h0, List.length_map]
  exact h
/-- The bytes of a line. -/
def lnB (x : Ln) : List UInt8 := vb x.key.size ++ x.key.data.toList ++ vbs [x.lo.toNat, (x.hi - x.lo).toNat]
def linesB (ls : List Ln) : List UInt8 := ls.flatMap lnB
theorem linesB_snoc (ls : List Ln) (x : Ln) : linesB (ls ++ [x]) = linesB ls ++ lnB x := by simp [linesB]
def headB (r : Rep) : List UInt8 := vbs [r.win.toNat, r.tot.toNat, r.over.toNat, r.trk.toNat, r.rest.toNat] ++ vbs ((r.rej.drop 1).map Int.toNat) ++ vb r.lines.length
def encF (r : Rep) : List UInt8 := headB r ++ linesB r.lines
def encR (r : Rep) : List UInt8 := if repErr r = 0 then encF r else []
def EncPost (r : Rep) (w : World) (e : Ending) (w' : World) : Prop := ∃ v, e = .returned (.tuple #[v, .int .i64 (repErr r)]) ∧ Own byF 1 5 w.heap.size w' v (encR r) ∧ w.grownBy w' none

set_option maxHeartbeats 2000000 in
set_option maxRecDepth 100000 in
theorem encode_c (r : Rep) (w : World) (hR : RepRd w r) (hW : RepW r) : Calls Try.prog 18 #[repV r.win r.tot r.vl r.over r.trk r.rest r.vr] w (EncPost r w) := by
  have HR := Lib.hid hR
  have HW := Lib.hid hW
  obtain ⟨la, lc, e1⟩ := hR.lines.shape
  obtain ⟨ra, rc, e2⟩ := hR.rej.shape
  have hlm := hR.lines.2.1
  have hrm := hR.rej.2.1
  have hcc := fun w' (h : World.grownBy w w' none) => repcheck_c r w' (hR.same h) hW
  clear hR hW
  rw [e1, e2] at hcc
  rw [e1, e2]
  have E1 := Lib.hid e1
  have E2 := Lib.hid e2
  have Hcc := Lib.hid hcc
  have HER := Lib.hid (show encR r = if repErr r = 0 then encF r else [] from rfl)
  clear e1 e2 hcc
  go_enter Try.func18, Try.ntmps18
  go_upto_region 1 with fail
  have B1 := Blk.new w #[.int .i64 r.win, .int .u64 r.tot, .slice la r.lines.length lc, .int .u64 r.over, .int .i64 r.trk, .int .u64 r.rest, .slice ra r.rej.length rc] 26
  have G1 := grownBy_new_block (grownBy_refl w none) (.cells #[.int .i64 r.win, .int .u64 r.tot, .slice la r.lines.length lc, .int .u64 r.over, .int .i64 r.trk, .int .u64 r.rest, .slice ra r.rej.length rc] 26)
  generalize w.alloc (.cells #[.int .i64 r.win, .int .u64 r.tot, .slice la r.lines.length lc, .int .u64 r.over, .int .i64 r.trk, .int .u64 r.rest, .slice ra r.rej.length rc] 26) = w1 at *
  have hb1 := B1.lt
  obtain ⟨b, hb⟩ : ∃ b, w.heap.size = b := ⟨_, rfl⟩
  rw [hb] at B1 hb1 ⊢
  have Hb := Lib.hid hb
  clear hb
  have b1 := B1.cell
  go_upto_region 2 with (go_at_call 16; refine (Hcc.out _ G1).mono ?_; rintro e w2 ⟨rfl, g2⟩)
  clear b1
  have B2 := B1.same g2
  have G2 := grownBy_trans G1 g2
  obtain ⟨er, her⟩ : ∃ er, repErr r = er := ⟨_, rfl⟩
  have Her := Lib.hid her
  rw [her] at HER ⊢
  by_cases he : er = 0
  · subst he
    have HOK := Lib.hid (rep_ok her)
    clear her
    have h7 : r.rej.length = 7 := HOK.out.rej
    obtain ⟨gr, orr, cr, hvr, hgr, -⟩ := HR.out.rej.at_ (fun _ => rfl) (show 0 < r.rej.length by omega)
    obtain ⟨rfl, rfl⟩ : ra = some ⟨gr, orr, none⟩ ∧ rc = cr := by
      have := E2.out.symm.trans hvr
      simp only [Value.slice.injEq] at this
      exact ⟨this.1, this.2.2⟩
    have hrc : r.rej.length ≤ rc := HR.out.rcap _ _ _ E2.out
    have HE2 := Lib.hid (HER.out.trans (if_pos rfl))
    clear HER hvr
    go_upto_region 5 with fail
    have E3 := Blk.new w2 #[.slice none 0 0] 104
    have F3 : BufAt (w2.heap.size + 1) (w2.alloc (.cells #[.slice none 0 0] 104)) w2.heap.size [] := ⟨⟨_, E3, Own.nil _ _ _ _ _⟩, by omega⟩
    have B3 := B2.same (World.grownBy_alloc w2 (.cells #[.slice none 0 0] 104) none)
    have G3 := grownBy_new_block G2 (.cells #[.slice none 0 0] 104)
    have hwg : w.heap.size ≤ w2.heap.size := G2.size
    have hbg := B2.lt
    have hz3 : w2.heap.size + 1 ≤ (w2.alloc (.cells #[.slice none 0 0] 104)).heap.size := by simp
    generalize w2.alloc (.cells #[.slice none 0 0] 104) = w3 at *
    generalize w2.heap.size = g at *
    clear E3 B2 G2 Hcc g2 G1 hb1 B1
    obtain ⟨p1, p2⟩ := HOK.out.win
    obtain ⟨p3, p4⟩ := HOK.out.trk
    have hw1 : IntKind.u64.wrap r.win = r.win := IntWalk.u64_in _ (by omega)
    have hw2 : IntKind.u64.wrap r.trk = r.trk := IntWalk.u64_in _ (by omega)
    have rb := B3.re
    refine wp_region_any (by kernel_rfl) ?_
    (refine Tail.take_put 0 15 (.pointer (some ⟨g, 0, none⟩)) rfl rfl (by kernel_rfl) (by kernel_rfl) (by kernel_rfl) (fun _ _ _ h => h) (Or.inl ⟨by rfl, fun w => ?_⟩) ?_; · go_simp); simp only [List.setIfInBounds_toArray, List.set_cons_zero, List.set_cons_succ]
    (refine Tail.take_put 1 16 (.pointer (some ⟨g, 0, none⟩)) rfl rfl (by kernel_rfl) (by kernel_rfl) (by kernel_rfl) (fun _ _ _ h => h) (Or.inl ⟨by rfl, fun w => ?_⟩) ?_; · go_simp); simp only [List.setIfInBounds_toArray, List.set_cons_zero, List.set_cons_succ]
    (refine Tail.take_put 2 17 (.pointer (some ⟨g, 0, none⟩)) rfl rfl (by kernel_rfl) (by kernel_rfl) (by kernel_rfl) (fun _ _ _ h => h) (Or.inl ⟨by rfl, fun w => ?_⟩) ?_; · go_simp); simp only [List.setIfInBounds_toArray, List.set_cons_zero, List.set_cons_succ]
    (refine Tail.wpAny_tail_grown 15 [false, false, false, true, true, true, true, true, true, true, true, true, true, true, true] (by kernel_rfl) ?_; simp only [Tail.pickL, List.take, List.drop]; (repeat (go_big_quiet_step (fail))); refine wpQuiet_nil ?_; rintro _ ⟨⟨d5, os5⟩, rfl⟩)
    have F4 := F3.same (grown_re w3 d5 os5)
    have K4 := grown_re w3 d5 os5
    generalize grow (redrawn w3 d5) os5 = w4 at *
    clear rb hw1 hw2
    have hz4 : g + 1 ≤ w4.heap.size := Nat.le_trans hz3 K4.size
    have t1 := HW.out.tot
    have t2 := HW.out.over
    have t3 := HW.out.rest
    unfold W64 at t1 t2 t3
    have L5 := (Blk.new w4 #[.int .u64 r.win, .int .u64 r.tot, .int .u64 r.over, .int .u64 r.trk, .int .u64 r.rest] 22).many natF_len [r.win.toNat, r.tot.toNat, r.over.toNat, r.trk.toNat, r.rest.toNat] (by simp only [cellsOf, natF, List.flatMap_cons, List.flatMap_nil, List.singleton_append, List.append_nil]; rw [Int.toNat_of_nonneg (by omega), Int.toNat_of_nonneg (by omega), Int.toNat_of_nonneg (by omega), Int.toNat_of_nonneg (by omega), Int.toNat_of_nonneg (by omega)]) (by simp)
    have hc5 := number_c (g + 1) g [] _ _ _ (F4.same (World.grownBy_alloc w4 (.cells #[.int .u64 r.win, .int .u64 r.tot, .int .u64 r.over, .int .u64 r.trk, .int .u64 r.rest] 22) none)) L5 (fun a n c e => by cases e; show w4.heap.size ≠ g; omega) (by intro n hn; simp at hn; omega) (by simp) (by simp; omega)
    rw [baseK_s _ _ (by simp)] at hc5
    have Hc5 := Lib.hid hc5
    clear hc5 L5 t1 t2 t3
    have G4' : w4.grownBy (w4.alloc (.cells #[.int .u64 r.win, .int .u64 r.tot, .int .u64 r.over, .int .u64 r.trk, .int .u64 r.rest] 22)) none := World.grownBy_alloc w4 _ none
    go_upto_region 6 with (go_at_call 55; refine Hc5.out.mono ?_; rintro e w5 ⟨rfl, F5, g5⟩)
    have K5 : w3.grownBy w5 (some g) := grownBy_trans (grownBy_some (grownBy_trans K4 G4') (some g)) g5
    have B5 := B3.kept K5 (by simp; omega)
    have F5' := F5.base (B' := g + 1) (by simp; omega) (by omega)
    have hz5 : g + 1 ≤ w5.heap.size := Nat.le_trans hz3 K5.size
    clear F5 g5 Hc5 G4' F4 K4 hz4
    have hl5 : (vbs [r.win.toNat, r.tot.toNat, r.over.toNat, r.trk.toNat, r.rest.toNat]).length ≤ 50 := by
      have t1 := HW.out.tot
      have t2 := HW.out.over
      have t3 := HW.out.rest
      unfold W64 at t1 t2 t3
      exact vbs_len (by intro n hn; simp at hn; omega)
    have HHB := Lib.hid (show headB r = vbs [r.win.toNat, r.tot.toNat, r.over.toNat, r.trk.toNat, r.rest.toNat] ++ vbs ((r.rej.drop 1).map Int.toNat) ++ vb r.lines.length from rfl)
    rw [List.nil_append] at F5'
    generalize vbs [r.win.toNat, r.tot.toNat, r.over.toNat, r.trk.toNat, r.rest.toNat] = L5 at *
    have hrc7 : 7 ≤ rc := by omega
    have hrc1 : ¬ rc = 1 := by omega
    have hrc2 : (7 : Int) ≤ (rc : Int) := by omega
    have rb := B5.re
    (refine Tail.wp_region_tail_grown 6 (by kernel_rfl) (by kernel_rfl) ?_; simp only [List.take, List.drop]; (repeat (go_big_quiet_step (fail))); refine wpQuiet_nil ?_; rintro _ ⟨⟨d5, os5⟩, rfl⟩)
    have K6 := grownBy_trans K5 (grownBy_some (grown_re w5 d5 os5) (some g))
    have F6 := F5'.same (grown_re w5 d5 os5)
    have B6 := B5.same (grown_re w5 d5 os5)
    generalize grow (redrawn w5 d5) os5 = w6 at *
    clear rb
    have hz6 : g + 1 ≤ w6.heap.size := Nat.le_trans hz3 K6.size
    have RR6 := HR.out.same (grownBy_new G3 K6 hwg)
    have R6 : RdL wordF 1 w6 (.slice (some ⟨gr, orr + 1, none⟩) 6 (rc - 1)) (r.rej.drop 1) := by
      have h0 := RR6.rej
      rw [E2.out] at h0
      have h1 := RdL.drop1 (fun _ => rfl) h0 (k := 1) (by omega) hrc (rc - 1)
      rw [if_neg hrc1, h7] at h1
      exact h1
    have hrl : ((r.rej.drop 1).map Int.toNat).length = 6 := by rw [List.length_map, List.length_drop, h7]
    have hr64 : ∀ n ∈ (r.rej.drop 1).map Int.toNat, n < 18446744073709551616 := by
      intro n hn
      obtain ⟨x, hx, rfl⟩ := List.mem_map.1 hn
      have := HW.out.rej x (List.mem_of_mem_drop hx)
      unfold W64 at this
      omega
    have hvl6 := vbs_len hr64
    rw [hrl] at hvl6
    have hc6 := number_c (g + 1) g L5 _ _ w6 F6 (rd_nat R6 fun x hx => (HW.out.rej x (List.mem_of_mem_drop hx)).1) (fun a n c e => by cases e; show gr ≠ g; omega) hr64 (by rw [hrl]; omega) hz6
    rw [baseK_s _ _ (by omega)] at hc6
    have Hc6 := Lib.hid hc6
    clear hc6 R6 RR6 hr64 hrl F6 F5' B5
    generalize vbs ((r.rej.drop 1).map Int.toNat) = L6 at *
    go_upto_region 7 with (go_at_call 55; refine Hc6.out.mono ?_; rintro e w7 ⟨rfl, F7, g7⟩)
    have K7 := grownBy_trans K6 g7
    have F7' := F7.base (B' := g + 1) hz6 (by omega)
    have B7 := B6.kept g7 (by simp; omega)
    clear F7 g7 Hc6 K6 B6 hz6
    have hw3 : IntKind.u64.wrap (r.lines.length : Int) = (r.lines.length : Int) := IntWalk.u64_in _ (by omega)
    have rb := B7.re
    refine wp_region_any (by kernel_rfl) ?_
    (refine Tail.take_put 0 39 (.pointer (some ⟨g, 0, none⟩)) rfl rfl (by kernel_rfl) (by kernel_rfl) (by kernel_rfl) (fun _ _ _ h => h) (Or.inl ⟨by rfl, fun w => ?_⟩) ?_; · go_simp); simp only [List.setIfInBounds_toArray, List.set_cons_zero, List.set_cons_succ]
    (refine Tail.take_put 1 40 (.pointer (some ⟨g, 0, none⟩)) rfl rfl (by kernel_rfl) (by kernel_rfl) (by kernel_rfl) (fun _ _ _ h => h) (Or.inl ⟨by rfl, fun w => ?_⟩) ?_; · go_simp); simp only [List.setIfInBounds_toArray, List.set_cons_zero, List.set_cons_succ]
    (refine Tail.take_put 2 41 (.pointer (some ⟨g, 0, none⟩)) rfl rfl (by kernel_rfl) (by kernel_rfl) (by kernel_rfl) (fun _ _ _ h => h) (Or.inl ⟨by rfl, fun w => ?_⟩) ?_; · go_simp); simp only [List.setIfInBounds_toArray, List.set_cons_zero, List.set_cons_succ]
    (refine Tail.take_put 3 42 (.pointer (some ⟨b, 2, none⟩)) rfl rfl (by kernel_rfl) (by kernel_rfl) (by kernel_rfl) (fun _ _ _ h => h) (Or.inl ⟨by rfl, fun w => ?_⟩) ?_; · go_simp); simp only [List.setIfInBounds_toArray, List.set_cons_zero, List.set_cons_succ]
    (refine Tail.wpAny_tail_grown 7 [false, false, false, false, true, true, true] (by kernel_rfl) ?_; simp only [Tail.pickL, List.take, List.drop]; (repeat (go_big_quiet_step (fail))); refine wpQuiet_nil ?_; rintro _ ⟨⟨d5, os5⟩, rfl⟩)
    have K8 := grownBy_trans K7 (grownBy_some (grown_re w7 d5 os5) (some g))
    have F8 := F7'.same (grown_re w7 d5 os5)
    have B8 := B7.same (grown_re w7 d5 os5)
    generalize grow (redrawn w7 d5) os5 = w8 at *
    clear rb hw3 F7' B7
    have hz8 : g + 1 ≤ w8.heap.size := Nat.le_trans hz3 K8.size
    have L8 := Blk.one (Blk.new w8 #[.int .u64 r.lines.length] 22) natF_len r.lines.length rfl
    have hc8 := number_c (g + 1) g (L5 ++ L6) _ [r.lines.length] _ (F8.same (World.grownBy_alloc w8 (.cells #[.int .u64 r.lines.length] 22) none)) L8 (fun a n c e => by cases e; show w8.heap.size ≠ g; omega) (by have := HOK.out.few; intro n hn; simp at hn; omega) (by rw [List.length_append]; simp; omega) (by simp; omega)
    rw [baseK_s _ _ (by simp), show vbs [r.lines.length] = vb r.lines.length by simp [vbs], ← HHB.out] at hc8
    have Hc8 := Lib.hid hc8
    have g8' : w8.grownBy (w8.alloc (.cells #[.int .u64 r.lines.length] 22)) none := World.grownBy_alloc w8 _ none
    clear hc8 L8 F8
    have hhl : (headB r).length ≤ 120 := by rw [HHB.out, List.length_append, List.length_append]; have := vb_ten (show r.lines.length < 18446744073709551616 by have := HOK.out.few; omega); omega
    go_upto_region 8 with (go_at_call 55; refine Hc8.out.mono ?_; rintro e w9 ⟨rfl, F9, g9⟩)
    have K9 := grownBy_trans K8 (grownBy_trans (grownBy_some g8' (some g)) g9)
    have F9' := F9.base (B' := g + 1) (by simp; omega) (by omega)
    have B9 := (B3.kept K9 (by simp; omega)).cell
    clear F9 g9 Hc8 K8 B8 hz8 g8' K7 HHB hl5 hvl6 hrc1 hrc2 hrc7
    go_wp2_with fail
    clear B9
    go_loopw [51] (fun s51 wk => ∃ k : Nat, k ≤ r.lines.length ∧ s51 = .int .i64 k ∧ BufAt (g + 1) wk g (headB r ++ linesB (r.lines.take k)) ∧ w3.grownBy wk (some g)) (fun s51 _ => r.lines.length - (intOf s51).toNat)
    case atStart => exact ⟨0, Nat.zero_le _, rfl, by simpa [linesB] using F9', K9⟩
    case round =>
      clear F9' K9
      obtain ⟨k, hk, rfl, hF, hg⟩ := hrel
      by_cases hlt : k < r.lines.length
      · have KW := grownBy_new G3 hg hwg
        obtain ⟨gx, ox, cx, hv, hgx, hcx⟩ := (HR.out.same KW).lines.at_ lnF_len hlt
        rw [E1.out] at hv
        cases hv
        have c0 := hcx 0 _ rfl
        have c1 := hcx 1 _ rfl
        have c2 := hcx 2 _ rfl
        rw [Nat.add_zero] at c0
        obtain ⟨-, hk255, hlh, -⟩ := HOK.out.ln hlt
        have hlw := HW.out.lines _ (List.getElem_mem hlt)
        have hlo := hlw.lo
        have hhi := hlw.hi
        have HS := Lib.hid (show headB r ++ linesB (r.lines.take (k + 1)) = (headB r ++ linesB (r.lines.take k)) ++ lnB r.lines[k] by rw [List.take_succ_eq_append_getElem hlt, linesB_snoc, List.append_assoc])
        have hll : (linesB (r.lines.take k)).length ≤ 285 * k := by
          have : ∀ m, m ≤ r.lines.length → (linesB (r.lines.take m)).length ≤ 285 * m := by
            intro m
            induction m with
            | zero => intro _; simp [linesB]
            | succ m ih =>
              intro hm
              have h1 := ih (by omega)
              obtain ⟨-, q1, q2, -⟩ := HOK.out.ln (show m < r.lines.length by omega)
              have q3 := HW.out.lines _ (List.getElem_mem (show m < r.lines.length by omega))
              have q4 := q3.lo
              have q5 := q3.hi
              unfold W64 at q4 q5
              rw [List.take_succ_eq_append_getElem (by omega), linesB_snoc, List.length_append]
              have h2 : (lnB r.lines[m]).length ≤ 285 := by
                unfold lnB
                have e1 := vb_ten (show r.lines[m].key.size < 18446744073709551616 by omega)
                have e2 : (vbs [r.lines[m].lo.toNat, (r.lines[m].hi - r.lines[m].lo).toNat]).length ≤ 20 := vbs_len (by intro n hn; simp at hn; omega)
                have e3 : r.lines[m].key.data.toList.length = r.lines[m].key.size := Array.length_toList
                rw [List.length_append, List.length_append, e3]
                omega
              omega
          exact this k hk
        have hLl : (headB r ++ linesB (r.lines.take k)).length ≤ 100000 := by rw [List.length_append]; have := HOK.out.few; omega
        clear hll hcx hlw
        generalize headB r ++ linesB (r.lines.take k) = L at *
        have hlnB := Lib.hid (show lnB r.lines[k] = vb r.lines[k].key.size ++ r.lines[k].key.data.toList ++ vbs [r.lines[k].lo.toNat, (r.lines[k].hi - r.lines[k].lo).toNat] from rfl)
        generalize r.lines[k] = x at *
        go_upto_region 11 with fail
        have A10 := Blk.new wr #[.string x.key, .int .u64 x.lo, .int .u64 x.hi] 71
        have F10 := hF.same (World.grownBy_alloc wr (.cells #[.string x.key, .int .u64 x.lo, .int .u64 x.hi] 71) none)
        have K10 := grownBy_trans hg (grownBy_some (World.grownBy_alloc wr (.cells #[.string x.key, .int .u64 x.lo, .int .u64 x.hi] 71) none) (some g))
        have hgw : g < wr.heap.size := Nat.lt_of_lt_of_le (Nat.lt_of_lt_of_le (Nat.lt_succ_self g) hz3) hg.size
        generalize wr.alloc (.cells #[.string x.key, .int .u64 x.lo, .int .u64 x.hi] 71) = w10 at *
        generalize wr.heap.size = gl at *
        clear hF hg c0 c1 c2
        have ra := A10.re
        (refine Tail.wp_region_tail_grown 5 (by kernel_rfl) (by kernel_rfl) ?_; simp only [List.take, List.drop]; (repeat (go_big_quiet_step (fail))); refine wpQuiet_nil ?_; rintro _ ⟨⟨d5, os5⟩, rfl⟩)
        have F11 := F10.same (grown_re w10 d5 os5)
        have K11 := grownBy_trans K10 (grownBy_some (grown_re w10 d5 os5) (some g))
        have A11 := A10.same (grown_re w10 d5 os5)
        generalize grow (redrawn w10 d5) os5 = w11 at *
        clear ra F10 A10 K10
        have hz11 : g + 1 ≤ w11.heap.size := Nat.le_trans hz3 K11.size
        have Hc11 := Lib.hid (text_c (g + 1) g L x.key w11 F11 (by omega) (by omega) hz11)
        clear F11
        go_upto_region 12 with (go_at_call 56; refine Hc11.out.mono ?_; rintro e w12 ⟨rfl, F12, g12⟩)
        have K12 := grownBy_trans K11 g12
        have F12' := F12.base (B' := g + 1) hz11 (by omega)
        have A12 := A11.kept g12 (by simp; omega)
        clear F12 g12 Hc11 A11 K11
        have hv1 := vb_ten (show x.key.size < 18446744073709551616 by omega)
        have hv2 : x.key.data.toList.length = x.key.size := Array.length_toList
        have hLl2 : (L ++ vb x.key.size ++ x.key.data.toList).length ≤ 200000 := by rw [List.length_append, List.length_append, hv2]; omega
        have HS2 := Lib.hid (show (L ++ vb x.key.size ++ x.key.data.toList) ++ vbs [x.lo.toNat, (x.hi - x.lo).toNat] = L ++ lnB x by rw [hlnB.out]; simp only [List.append_assoc])
        clear hv1 hv2
        generalize L ++ vb x.key.size ++ x.key.data.toList = L2 at *
        unfold W64 at hlo hhi
        have hws : IntKind.u64.wrap (x.hi - x.lo) = x.hi - x.lo := IntWalk.u64_in _ (by omega)
        have ra := A12.re
        refine wp_region_any (by kernel_rfl) ?_
        (refine Tail.take_put 0 61 (.pointer (some ⟨g, 0, none⟩)) rfl rfl (by kernel_rfl) (by kernel_rfl) (by kernel_rfl) (fun _ _ _ h => h) (Or.inl ⟨by rfl, fun w => ?_⟩) ?_; · go_simp); simp only [List.setIfInBounds_toArray, List.set_cons_zero, List.set_cons_succ]
        (refine Tail.take_put 1 62 (.pointer (some ⟨g, 0, none⟩)) rfl rfl (by kernel_rfl) (by kernel_rfl) (by kernel_rfl) (fun _ _ _ h => h) (Or.inl ⟨by rfl, fun w => ?_⟩) ?_; · go_simp); simp only [List.setIfInBounds_toArray, List.set_cons_zero, List.set_cons_succ]
        (refine Tail.take_put 2 63 (.pointer (some ⟨g, 0, none⟩)) rfl rfl (by kernel_rfl) (by kernel_rfl) (by kernel_rfl) (fun _ _ _ h => h) (Or.inl ⟨by rfl, fun w => ?_⟩) ?_; · go_simp); simp only [List.setIfInBounds_toArray, List.set_cons_zero, List.set_cons_succ]
        (refine Tail.wpAny_tail_grown 10 [false, false, false, true, true, true, true, true, true, true] (by kernel_rfl) ?_; simp only [Tail.pickL, List.take, List.drop]; (repeat (go_big_quiet_step (fail))); refine wpQuiet_nil ?_; rintro _ ⟨⟨d5, os5⟩, rfl⟩)
        have F13 := F12'.same (grown_re w12 d5 os5)
        have K13 := grownBy_trans K12 (grownBy_some (grown_re w12 d5 os5) (some g))
        generalize grow (redrawn w12 d5) os5 = w13 at *
        clear ra hws F12' K12 A12
        have hz13 : g + 1 ≤ w13.heap.size := Nat.le_trans hz3 K13.size
        have L13 := (Blk.new w13 #[.int .u64 x.lo, .int .u64 (x.hi - x.lo)] 22).many natF_len [x.lo.toNat, (x.hi - x.lo).toNat] (by simp only [cellsOf, natF, List.flatMap_cons, List.flatMap_nil, List.singleton_append, List.append_nil]; rw [Int.toNat_of_nonneg (by omega), Int.toNat_of_nonneg (by omega)]) (by simp)
        have hc13 := number_c (g + 1) g L2 _ _ _ (F13.same (World.grownBy_alloc w13 (.cells #[.int .u64 x.lo, .int .u64 (x.hi - x.lo)] 22) none)) L13 (fun a n c e => by cases e; show w13.heap.size ≠ g; omega) (by intro n hn; simp at hn; omega) (by simp; omega) (by simp; omega)
        rw [baseK_s _ _ (by simp), HS2.out] at hc13
        have Hc13 := Lib.hid hc13
        have g13 : w13.grownBy (w13.alloc (.cells #[.int .u64 x.lo, .int .u64 (x.hi - x.lo)] 22)) none := World.grownBy_alloc w13 _ none
        clear hc13 L13 F13
        go_wp2_with (go_at_call 55; refine Hc13.out.mono ?_; rintro e w14 ⟨rfl, F14, g14⟩; have F14' := F14.base (B' := g + 1) (by simp; omega) (by omega); have K14 := grownBy_trans K13 (grownBy_trans (grownBy_some g13 (some g)) g14))
        exact ⟨⟨k + 1, by omega, by go_num, by rw [HS.out]; exact F14', K14⟩, by simp [intOf]; omega⟩
      · have hke : r.lines.take k = r.lines := List.take_of_length_le (by omega)
        rw [hke, show headB r ++ linesB r.lines = encF r from rfl, ← HE2.out] at hF
        obtain ⟨v, h1, h2⟩ := hF.ex
        obtain ⟨va, vc, rfl⟩ := h2.shape
        have c1 := h1.cell
        have KW := grownBy_new G3 hg hwg
        have h3 := Lib.hid h2
        obtain ⟨EE, hEE⟩ : ∃ EE, encR r = EE := ⟨_, rfl⟩
        have HEE := Lib.hid hEE
        rw [hEE] at h3 h2 h1 c1
        clear hEE
        go_wp2_with fail
        refine bodyPost_ret (v := .tuple #[.slice va EE.length vc, .int .i64 0]) (by simp [results, Try.results18, go_sem]) rfl ?_
        exact ⟨.slice va EE.length vc, by rw [Her.out], by rw [HEE.out]; exact h3.out.base fun q hq => by have := (h3.out.lt q hq).1; omega, KW⟩
  · have heb : (er != 0) = true := by simp [he]
    have HE2 := Lib.hid (HER.out.trans (if_neg he))
    clear he her
    go_wp2_with fail
    refine bodyPost_ret (v := .tuple #[.slice none 0 0, .int .i64 er]) (by simp [results, Try.results18, go_sem]) rfl ?_
    exact ⟨.slice none 0 0, by rw [Her.out], by rw [HE2.out]; exact Own.nil _ _ _ _ _, G2⟩
end Go.Proofs.Ytiagjiaahnkefaa

/- Bytes compared; the example of chapter 24. -/
namespace Go.Proofs.Ytiagjiaahnkefaa
open Go.RowKit Go.Sort

set_option maxHeartbeats 400000 in
theorem sameBy_c (v v' : Value) (L : List UInt8) (w : World) (h : RdL byF 1 w v L) (h' : RdL byF 1 w v' L) : Calls Try.prog 20 #[v, v'] w (RetBool true w) := by
  obtain ⟨a, c, rfl⟩ := h.shape
  obtain ⟨a', c', rfl⟩ := h'.shape
  have hm := h.2.1
  have hne : ((L.length : Int) != (L.length : Int)) = false := by simp
  have H := Lib.hid h
  have H' := Lib.hid h'
  clear h h'
  go_enter Try.func20, Try.ntmps20
  go_wp2_with fail
  go_loopw [13] (fun s13 wr => ∃ k : Nat, k ≤ L.length ∧ s13 = .int .i64 k ∧ w.grownBy wr none) (fun s13 _ => L.length - (intOf s13).toNat)
  case atStart => exact ⟨0, Nat.zero_le _, rfl, grownBy_refl _ _⟩
  case round =>
    obtain ⟨k, hk, rfl, hg⟩ := hrel
    by_cases hlt : k < L.length
    · obtain ⟨g, off, cap, hv, hgl, hc⟩ := (RdL.same H.out hg).one by_one hlt
      obtain ⟨g', off', cap', hv', hgl', hc'⟩ := (RdL.same H'.out hg).one by_one hlt
      cases hv
      cases hv'
      generalize L[k] = x at *
      have hx : ((x.toNat : Int) != (x.toNat : Int)) = false := by simp
      have hk0 : (0 : Int) ≤ (k : Int) := by omega
      have hk1 : (k : Int) < (L.length : Int) := by omega
      go_wp2_with fail
      go_quiet (fail)
      go_wp2_with fail
      exact ⟨⟨k + 1, by omega, by go_num, grownBy_drewN hg _⟩, by simp [intOf]; omega⟩
    · go_wp2_with fail
      go_ret
      exact retBool rfl hg

def awkR (vl vr : Value) : Rep := ⟨2, 5, vl, 0, 1, 0, vr, [⟨⟨#[97]⟩, 5, 5⟩], [0, 0, 0, 0, 0, 0, 0]⟩
theorem awk_err (vl vr : Value) : repErr (awkR vl vr) = 0 := by rfl
def awkB : List UInt8 := [2, 5, 0, 1, 0, 0, 0, 0, 0, 0, 0, 1, 1, 97, 5, 0]
theorem awk_enc (vl vr : Value) : encR (awkR vl vr) = awkB := by
  unfold encR
  rw [if_pos (awk_err vl vr)]
  simp [encF, headB, linesB, lnB, vbs, awkR, awkB, vb_small, ByteArray.size]
theorem awk_w (vl vr : Value) : RepW (awkR vl vr) := by
  refine ⟨by unfold I64 awkR; simp, by unfold W64 awkR; simp, by unfold W64 awkR; simp, by unfold I64 awkR; simp, by unfold W64 awkR; simp, fun x hx => ?_, fun n hn => ?_⟩
  · simp only [awkR, List.mem_singleton] at hx
    subst hx
    exact ⟨by unfold W64; simp, by unfold W64; simp, by show (1 : Nat) ≤ _; omega⟩
  · simp only [awkR, List.mem_cons, List.not_mem_nil, or_false, or_self] at hn
    subst hn
    exact w64_0

set_option maxHeartbeats 1000000 in
set_option maxRecDepth 100000 in
theorem awake24_c (w : World) : Calls Try.prog 13 #[] w (RetBool true w) := by
  have hmk : ∀ w, (Instr.makeSlice 24 (.int .i64 7) (.int .i64 7)).run Try.prog w = .ok (.slice (some ⟨w.heap.size, 0, none⟩) 7 7) (w.alloc (.cells #[.int .u64 0, .int .u64 0, .int .u64 0, .int .u64 0, .int .u64 0, .int .u64 0, .int .u64 0] 22)) := fun _ => by kernel_rfl
  have A1 := (Blk.new w #[.string ⟨#[97]⟩, .int .u64 5, .int .u64 5] 71).same (World.grownBy_alloc _ (.cells #[.int .u64 0, .int .u64 0, .int .u64 0, .int .u64 0, .int .u64 0, .int .u64 0, .int .u64 0] 22) none)
  have A2 := Blk.new' (w.alloc (.cells #[.string ⟨#[97]⟩, .int .u64 5, .int .u64 5] 71)) #[.int .u64 0, .int .u64 0, .int .u64 0, .int .u64 0, .int .u64 0, .int .u64 0, .int .u64 0] 22 (g := w.heap.size + 1) (by simp)
  have R1 := A1.one lnF_len ⟨⟨#[97]⟩, 5, 5⟩ rfl
  have R2 := A2.many (f := wordF) (size := 1) (fun _ => rfl) [0, 0, 0, 0, 0, 0, 0] rfl (by simp)
  have hR : RepRd ((w.alloc (.cells #[.string ⟨#[97]⟩, .int .u64 5, .int .u64 5] 71)).alloc (.cells #[.int .u64 0, .int .u64 0, .int .u64 0, .int .u64 0, .int .u64 0, .int .u64 0, .int .u64 0] 22)) (awkR (.slice (some ⟨w.heap.size, 0, none⟩) 1 1) (.slice (some ⟨w.heap.size + 1, 0, none⟩) 7 7)) := ⟨R1, R2, fun a n c e => by cases e; omega, fun a n c e => by cases e; omega⟩
  have hc := encode_c _ _ hR (awk_w _ _)
  have HP := Lib.hid (p := ∀ e w', EncPost (awkR (.slice (some ⟨w.heap.size, 0, none⟩) 1 1) (.slice (some ⟨w.heap.size + 1, 0, none⟩) 7 7)) ((w.alloc (.cells #[.string ⟨#[97]⟩, .int .u64 5, .int .u64 5] 71)).alloc (.cells #[.int .u64 0, .int .u64 0, .int .u64 0, .int .u64 0, .int .u64 0, .int .u64 0, .int .u64 0] 22)) e w' → ∃ v, e = .returned (.tuple #[v, .int .i64 0]) ∧ RdL byF 1 w' v awkB ∧ w.grownBy w' none) (fun e w' ⟨v, h1, h2, h3⟩ => ⟨v, by rw [h1, awk_err], by rw [awk_enc] at h2; exact h2.rd, grownBy_trans (grownBy_new_block (grownBy_new_block (grownBy_refl _ _) _) _) h3⟩)
  have Hc := Lib.hid hc
  clear hc hR R1 R2 A1 A2
  go_enter Try.func13, Try.ntmps13
  go_upto_region 2 with (go_at_call 18; refine Hc.out.mono ?_; intro e w2 he; obtain ⟨v, rfl, R3, g3⟩ := HP.out e w2 he; clear he)
  have R4 := RdL.same R3 (World.grownBy_alloc w2 (.cells #[.int .u8 2, .int .u8 5, .int .u8 0, .int .u8 1, .int .u8 0, .int .u8 0, .int .u8 0, .int .u8 0, .int .u8 0, .int .u8 0, .int .u8 0, .int .u8 1, .int .u8 1, .int .u8 97, .int .u8 5, .int .u8 0] 5) none)
  have L4 := (Blk.new w2 #[.int .u8 2, .int .u8 5, .int .u8 0, .int .u8 1, .int .u8 0, .int .u8 0, .int .u8 0, .int .u8 0, .int .u8 0, .int .u8 0, .int .u8 0, .int .u8 1, .int .u8 1, .int .u8 97, .int .u8 5, .int .u8 0] 5).many byF_len awkB rfl (by decide)
  have Hs := Lib.hid (sameBy_c _ _ awkB _ R4 L4)
  have g4 := grownBy_new_block g3 (.cells #[.int .u8 2, .int .u8 5, .int .u8 0, .int .u8 1, .int .u8 0, .int .u8 0, .int .u8 0, .int .u8 0, .int .u8 0, .int .u8 0, .int .u8 0, .int .u8 1, .int .u8 1, .int .u8 97, .int .u8 5, .int .u8 0] 5)
  clear R4 L4 R3 Hc HP
  go_wp2_with (go_at_call 20; refine Hs.out.mono ?_; rintro e w5 ⟨rfl, g5⟩)
  go_ret
  exact retBool rfl (grownBy_trans g4 g5)
end Go.Proofs.Ytiagjiaahnkefaa

/- The walk of the law ReportCheck. -/
namespace Go.Proofs.Ytiagjiaahnkefaa
open Go.RowKit Go.Sort
attribute [local go_sem ↓] exec_load_cfg
attribute [local go_sem] run_loadCfgS

theorem load_rep_if {ops : Array Oper} {rest : List Oper} {o : Oper} {a : Act} {w : World} {Q : Exit → Act → World → Prop} (hw : Region.wanted o (yielded ops a.tmps) = true) (x : Operand) (ho : o.op = .load 26 x)
    (b : Nat) (hx : a.eval x = .pointer (some ⟨b, 0, none⟩)) {win tot over trk rst : Int} {vl vr : Value} (hb : Blk w b (repA win tot vl over trk rst vr)) (h : wpList Try.prog ops Q rest (a.put o.dst (repV win tot vl over trk rst vr)) w) : wpList Try.prog ops Q (o :: rest) a w := by
  obtain ⟨t, hbl⟩ := hb.blk
  exact BigFrame.wpList_want hw fun K hK => wp_load_row _ x ho b hx t _ _ _ hbl Try.underlying26 rfl size_rep (hK _ _ h)

set_option maxHeartbeats 3200000 in
set_option maxRecDepth 100000 in
theorem rcheck_w (x0 : Rep) (sv : Value) (xs : List Int) (k : Nat) (at_ again n m : Int) (w : World) (hR : RepRd w x0) (hW : RepW x0) (hsv : Rd w 1 sv k (xs.map (fun x => Value.int .i64 x))) (hn : W64 n) (hm : W64 m) :
    Calls Try.prog 3 #[repV x0.win x0.tot x0.vl x0.over x0.trk x0.rest x0.vr, sv, .int .i64 at_, .int .i64 again, .int .u64 n, .int .u64 m] w (RetBool true w) := by
  have HS := Lib.hid hsv
  obtain ⟨sa, sc, rfl⟩ := hsv.shape
  have Hpl := Lib.hid fun w' (h : World.grownBy w w' none) => plain_c x0 w' (hR.same h)
  have HC0 := Lib.hid fun w' (h : World.grownBy w w' none) => repcheck_c x0 w' (hR.same h) hW
  have HC1 := Lib.hid fun w' (h : World.grownBy w w' none) => rrepcheck_c x0 w' (hR.same h) hW
  clear hsv
  generalize repErr x0 = E0 at *
  generalize plainB x0 = pb at *
  obtain ⟨win, tot, vl, over, trk, rest, vr, ls, rj⟩ := x0
  obtain ⟨la, lc, e1⟩ := hR.lines.shape
  obtain ⟨ja, jc, e2⟩ := hR.rej.shape
  dsimp only at *
  subst e1 e2
  clear hR hW
  have B1 := Blk.new w (repA win tot (.slice la ls.length lc) over trk rest (.slice ja rj.length jc)) 26
  have G1 := grownBy_new_block (grownBy_refl w none) (.cells (repA win tot (.slice la ls.length lc) over trk rest (.slice ja rj.length jc)) 26)
  have hw0 := B1.lt
  go_enter Try.func3, Try.ntmps3
  go_upto_region 1 with fail
  generalize w.alloc (.cells (repA win tot (.slice la ls.length lc) over trk rest (.slice ja rj.length jc)) 26) = wa at *
  generalize w.heap.size = br at *
  cases pb
  · go_wp2_with (first
      | (refine load_rep rfl _ rfl _ rfl B1 ?_)
      | (go_at_call 12; refine (Hpl.out _ G1).mono ?_; rintro e w1 ⟨rfl, g1⟩)
      | (go_at_call 13; refine (awake24_c _).mono ?_; rintro e w6 ⟨rfl, G6⟩))
    go_ret
    exact retBool rfl (grownBy_trans G1 (grownBy_trans g1 G6))
  · go_upto_region 3 with (first
      | (refine load_rep rfl _ rfl _ rfl B1 ?_)
      | (go_at_call 12; refine (Hpl.out _ G1).mono ?_; rintro e wb ⟨rfl, gb⟩))
    have B2 := B1.same gb
    have G2 := grownBy_trans G1 gb
    have HSb := Lib.hid (Rd.same HS.out G2)
    clear B1 G1 gb HS Hpl
    have HB0 := Lib.hid B2
    have HG0 := Lib.hid G2
    clear B2 G2
    go_upto_region 4 with (first | (go_at_call 14; refine (few24_c _ xs _ _ HSb.out).mono ?_; rintro e w1 ⟨c, lc, t, lv, l, win0, rej0, vl0, vr0, rfl, F1, P1, P2, P3, P4, P5, P6, P7, P8, G1⟩; (obtain ⟨la, lcp, rfl⟩ := F1.sums.rd.shape); (obtain ⟨a0, k0, rfl⟩ := P1.shape); (obtain ⟨b0, j0, rfl⟩ := P2.shape); have oc1 := F1.mem.one1; have oc2 := F1.mem.one2) | (refine alloc_cfg rfl rfl ?_; intro w2 B2 G2 z2) | (refine alloc_rep rfl rfl ?_; intro w3 A3 G3 z3; have B3 := B2.same G3) | (refine store_cfg rfl _ _ rfl _ rfl c rfl oc1 oc2 Cfg.zero (by assumption) ?_; intro w4 B4 G4; have A4 := A3.kept G4 (by simp; omega)) | (refine store_rep rfl _ _ rfl _ rfl rfl rfl rfl _ rfl (by assumption) ?_; intro w5 A5 G5; have B5 := B4.kept G5 (by simp; omega); have K5 := grownBy_new (grownBy_new (grownBy_trans G2 G3) G4 (Nat.le_refl _)) G5 (Nat.le_of_lt z2)))
    simp only [Act.put, List.setIfInBounds_toArray, List.set_cons_zero, List.set_cons_succ]
    have hw01 : 0 ≤ win0 ∧ win0 ≤ 1099511627776 := by omega
    have HXe := Lib.hid (built_ok F1 hw01 P6 P7 (.slice a0 (bLs c t l).length k0) (.slice b0 7 j0))
    have HXw := Lib.hid (built_w F1 hw01 (rej := rej0) (fun n hn => by have := P8 n hn; unfold W64; omega) (.slice a0 (bLs c t l).length k0) (.slice b0 7 j0))
    rw [P6] at P2 P4
    have HXr := Lib.hid (show RepRd w1 ⟨win0, totalF l, .slice a0 (bLs c t l).length k0, bOver c t l, ((keysF l).length : Int), bRest c t l, .slice b0 7 j0, bLs c t l, rej0⟩ from ⟨P1, P2, P3, P4⟩)
    have HLl := Lib.hid (show (bLs c t l).length ≤ 90000 by
      have h1 := bLs_len (t := t) F1
      have h2 := F1.nums.top
      omega)
    have HP6 := Lib.hid P6
    have KW := grownBy_trans HG0.out (grownBy_trans G1 K5)
    have HB5 := Lib.hid (HB0.out.same (grownBy_trans G1 K5))
    have HK5 := Lib.hid K5
    clear P1 P2 P3 P4 P5 P6 P7 P8 F1 B5 B4 B3 B2 A4 A3 G5 G4 G3 G2 HSb HB0 G1 oc1 oc2 hw01 K5
    generalize bLs c t l = Ls at *
    generalize bOver c t l = ov at *
    generalize bRest c t l = rst at *
    generalize totalF l = tt at *
    generalize ((keysF l).length : Int) = kn at *
    obtain ⟨X, hX⟩ : ∃ X : Rep, (⟨win0, tt, .slice a0 Ls.length k0, ov, kn, rst, .slice b0 7 j0, Ls, rej0⟩ : Rep) = X := ⟨_, rfl⟩
    have HC2 := Lib.hid (p := ∀ w', World.grownBy w5 w' none → Calls Try.prog 16 #[repV win0 tt (.slice a0 Ls.length k0) ov kn rst (.slice b0 7 j0)] w' (RetInt 0 w')) (fun w' h => by
      have := repcheck_c ⟨win0, tt, .slice a0 Ls.length k0, ov, kn, rst, .slice b0 7 j0, Ls, rej0⟩ w' ((HXr.out.same HK5.out).same h) HXw.out
      rw [HXe.out] at this
      exact this)
    have HSp := Lib.hid (spoilt_c ⟨win0, tt, .slice a0 Ls.length k0, ov, kn, rst, .slice b0 7 j0, Ls, rej0⟩ at_ n w5 (HXr.out.same HK5.out) HXw.out hn (by have := HLl.out; show Ls.length ≤ _; omega) (by show 1 ≤ rej0.length; rw [HP6.out]; omega) (by show rej0.length ≤ _; rw [HP6.out]; omega))
    go_upto_region 5 with (first
      | (refine load_rep rfl _ rfl _ rfl A5 ?_)
      | (go_at_call 15; refine HSp.out.mono ?_; rintro e w6 ⟨y, rfl, yr, yw, y1, y2, y3, g6⟩; obtain ⟨yw0, yt, yv, yo, yk, ys, yu, yl, yq⟩ := y; obtain ⟨ya, yc, e1⟩ := yr.lines.shape; obtain ⟨yb, yd, e2⟩ := yr.rej.shape; dsimp only at e1 e2; subst e1 e2; dsimp only)
      | (refine alloc_rep rfl rfl ?_; intro w7 A7 G7 z7)
      | (refine store_rep rfl _ _ rfl _ rfl rfl rfl rfl _ rfl A7 ?_; intro w8 A8 G8))
    have K8 := grownBy_new G7 G8 (Nat.le_refl _)
    have HA8 := Lib.hid A8
    have HA5 := Lib.hid (A5.same (grownBy_trans g6 K8))
    have HB8 := Lib.hid (HB5.out.same (grownBy_trans g6 K8))
    have HK8 := Lib.hid (grownBy_trans g6 K8)
    have Hyr := Lib.hid (yr.same K8)
    have Hyw := Lib.hid yw
    dsimp only at y1 y2 y3
    have HSp2 := Lib.hid (spoilt_c ⟨yw0, yt, .slice ya yl.length yc, yo, yk, ys, .slice yb yq.length yd, yl, yq⟩ again m w8 Hyr.out yw hm (by have := HLl.out; show yl.length ≤ _; omega) y1 (by have := HP6.out; show yq.length ≤ _; omega))
    have HD1 := Lib.hid fun w' (h : World.grownBy w8 w' none) => repcheck_c ⟨yw0, yt, .slice ya yl.length yc, yo, yk, ys, .slice yb yq.length yd, yl, yq⟩ w' (Hyr.out.same h) Hyw.out
    have HD2 := Lib.hid fun w' (h : World.grownBy w8 w' none) => rrepcheck_c ⟨yw0, yt, .slice ya yl.length yc, yo, yk, ys, .slice yb yq.length yd, yl, yq⟩ w' (Hyr.out.same h) Hyw.out
    have K68 := grownBy_trans g6 K8
    generalize repErr ⟨yw0, yt, .slice ya yl.length yc, yo, yk, ys, .slice yb yq.length yd, yl, yq⟩ = E1 at *
    clear yr yw A7 G7 G8 A5 HSp HXr HXw HXe K8 HB5 hX
    go_upto_region 6 with (first
      | (refine load_rep rfl _ rfl _ rfl A8 ?_)
      | (go_at_call 15; refine HSp2.out.mono ?_; rintro e w9 ⟨z, rfl, zr, zw, z1, z2, z3, g9⟩; obtain ⟨zw0, zt, zv, zo, zk, zs, zu, zl, zq⟩ := z; obtain ⟨za, zc, e1⟩ := zr.lines.shape; obtain ⟨zb, zd, e2⟩ := zr.rej.shape; dsimp only at e1 e2; subst e1 e2; dsimp only)
      | (refine alloc_rep rfl rfl ?_; intro wx Ax Gx zx)
      | (refine store_rep rfl _ _ rfl _ rfl rfl rfl rfl _ rfl Ax ?_; intro wy Ay Gy))
    simp only [Act.put, List.setIfInBounds_toArray, List.set_cons_zero, List.set_cons_succ]
    have Ky := grownBy_new Gx Gy (Nat.le_refl _)
    have K9 := grownBy_trans g9 Ky
    have HE1 := Lib.hid fun w' (h : World.grownBy wy w' none) => repcheck_c ⟨zw0, zt, .slice za zl.length zc, zo, zk, zs, .slice zb zq.length zd, zl, zq⟩ w' ((zr.same Ky).same h) zw
    have HE2 := Lib.hid fun w' (h : World.grownBy wy w' none) => rrepcheck_c ⟨zw0, zt, .slice za zl.length zc, zo, zk, zs, .slice zb zq.length zd, zl, zq⟩ w' ((zr.same Ky).same h) zw
    generalize repErr ⟨zw0, zt, .slice za zl.length zc, zo, zk, zs, .slice zb zq.length zd, zl, zq⟩ = E2 at *
    have BR := Lib.hid (HB8.out.same K9)
    have BX := Lib.hid (HA5.out.same K9)
    have BY := Lib.hid (HA8.out.same K9)
    have BZ := Lib.hid Ay
    have KK := Lib.hid (grownBy_trans KW (grownBy_trans K68 K9))
    have HF0 := Lib.hid fun w' (h : World.grownBy wy w' none) => HC0.out w' (grownBy_trans KK.out h)
    have HF1 := Lib.hid fun w' (h : World.grownBy wy w' none) => HC1.out w' (grownBy_trans KK.out h)
    have HF2 := Lib.hid fun w' (h : World.grownBy wy w' none) => HC2.out w' (grownBy_trans (grownBy_trans K68 K9) h)
    have HF3 := Lib.hid fun w' (h : World.grownBy wy w' none) => HD1.out w' (grownBy_trans K9 h)
    have HF4 := Lib.hid fun w' (h : World.grownBy wy w' none) => HD2.out w' (grownBy_trans K9 h)
    clear HC0 HC1 HC2 HD1 HD2 Ay Ax Gx Gy zr zw A8 HA8 HA5 HB8 Hyr Hyw HSp2 Ky K9 KW K68 HK8 HK5 HG0 g6 g9 HLl HP6
    generalize w6.heap.size = b6 at *
    generalize w9.heap.size = b9 at *
    generalize w2.heap.size = b2 at *
    have K6 : World.grownBy wy wy.drew none := (by (repeat (first | exact grownBy_refl _ _ | assumption | refine grownBy_new_block ?_ _ | refine grownBy_drew ?_ | refine grownBy_drewN ?_ _ | refine grownBy_setNew ?_ (by first | (simp; done) | omega | (simp; omega)) _)))
    (refine Rg.wp_region_rgZ 28 #[] (fun w w' => World.grownBy w w' none) (fun k _ w v w' => match k with | 1 => v = .int .i64 E0 ∧ World.grownBy w w' none | 3 => v = .int .i64 E0 ∧ World.grownBy w w' none | 7 => v = .int .i64 0 ∧ World.grownBy w w' none | 12 => v = .int .i64 E1 ∧ World.grownBy w w' none | 14 => v = .int .i64 E1 ∧ World.grownBy w w' none | 19 => v = .int .i64 E2 ∧ World.grownBy w w' none | 21 => v = .int .i64 E2 ∧ World.grownBy w w' none | 25 => v = .bool true ∧ World.grownBy w w' none | _ => False) (by kernel_rfl) (by kernel_rfl) (fun w => grownBy_refl w none) (fun _ _ _ h k => grownBy_trans h k) (fun _ _ _ _ _ h => h) ?_; simp only [List.take, List.drop])
    generalize wy.drew = wd at *
    ((refine Rg.tree_op rfl rfl ?_; intro x0 mx0 dx0); clear dx0; go_wp2_with (refine load_rep rfl _ rfl _ rfl (BR.out.same (grownBy_trans K6 mx0)) ?_); refine ⟨grownBy_refl _ _, ?_⟩)
    ((refine Rg.tree_call rfl rfl rfl ?_; intro x1 mx1 dx1; refine ⟨?_, ?_⟩; · (unfold Rg.callSpec; go_simp; (refine (HF0.out x1 (grownBy_trans K6 mx1)).mono ?_; rintro e w' ⟨rfl, g⟩; exact ⟨_, rfl, rfl, g⟩))); clear dx1; rintro v y ⟨rfl, g⟩; refine ⟨g, ?_⟩; clear g; simp only [Act.put, List.setIfInBounds_toArray, List.set_cons_zero, List.set_cons_succ])
    ((refine Rg.tree_op rfl rfl ?_; intro x2 mx2 dx2); clear dx2; go_wp2_with (refine load_rep rfl _ rfl _ rfl (BR.out.same (grownBy_trans K6 mx2)) ?_); refine ⟨grownBy_refl _ _, ?_⟩)
    ((refine Rg.tree_call rfl rfl rfl ?_; intro x3 mx3 dx3; refine ⟨?_, ?_⟩; · (unfold Rg.callSpec; go_simp; (refine (HF1.out x3 (grownBy_trans K6 mx3)).mono ?_; rintro e w' ⟨rfl, g⟩; exact ⟨_, rfl, rfl, g⟩))); clear dx3; rintro v y ⟨rfl, g⟩; refine ⟨g, ?_⟩; clear g; simp only [Act.put, List.setIfInBounds_toArray, List.set_cons_zero, List.set_cons_succ])
    (refine Rg.tree_quiet 2 rfl (by first | exact Or.inl rfl | exact Or.inr rfl) ?_; simp only [List.take, List.drop, List.length_cons, List.length_nil, List.replicate, Nat.reduceAdd]; (try simp only [List.cons_append]); (try simp only [List.nil_append]); (repeat (go_big_quiet_step (fail))); refine wpQuiet_nil ?_)
    ((refine Rg.tree_op rfl rfl ?_; intro x6 mx6 dx6); clear dx6; go_wp2_with (refine load_rep_if (by rfl) _ rfl _ rfl (BX.out.same (grownBy_trans K6 mx6)) ?_); refine ⟨grownBy_refl _ _, ?_⟩)
    ((refine Rg.tree_callG rfl rfl rfl ?_; intro x7 mx7 dx7; refine ⟨?_, ?_⟩; · (unfold Rg.callSpec; go_simp; (refine (HF2.out x7 (grownBy_trans K6 mx7)).mono ?_; rintro e w' ⟨rfl, g⟩; exact ⟨_, rfl, rfl, g⟩))); clear dx7; rintro v y ⟨rfl, g⟩; refine ⟨g, ?_⟩; clear g; simp only [Act.put, List.setIfInBounds_toArray, List.set_cons_zero, List.set_cons_succ])
    (refine Rg.tree_quiet 3 rfl (by first | exact Or.inl rfl | exact Or.inr rfl) ?_; simp only [List.take, List.drop, List.length_cons, List.length_nil, List.replicate, Nat.reduceAdd]; (try simp only [List.cons_append]); (try simp only [List.nil_append]); (repeat (go_big_quiet_step (fail))); refine wpQuiet_nil ?_)
    ((refine Rg.tree_op rfl rfl ?_; intro x11 mx11 dx11); clear dx11; go_wp2_with (refine load_rep_if (by rfl) _ rfl _ rfl (BY.out.same (grownBy_trans K6 mx11)) ?_); refine ⟨grownBy_refl _ _, ?_⟩)
    ((refine Rg.tree_callG rfl rfl rfl ?_; intro x12 mx12 dx12; refine ⟨?_, ?_⟩; · (unfold Rg.callSpec; go_simp; (refine (HF3.out x12 (grownBy_trans K6 mx12)).mono ?_; rintro e w' ⟨rfl, g⟩; exact ⟨_, rfl, rfl, g⟩))); clear dx12; rintro v y ⟨rfl, g⟩; refine ⟨g, ?_⟩; clear g; simp only [Act.put, List.setIfInBounds_toArray, List.set_cons_zero, List.set_cons_succ])
    ((refine Rg.tree_op rfl rfl ?_; intro x13 mx13 dx13); clear dx13; go_wp2_with (refine load_rep_if (by rfl) _ rfl _ rfl (BY.out.same (grownBy_trans K6 mx13)) ?_); refine ⟨grownBy_refl _ _, ?_⟩)
    ((refine Rg.tree_callG rfl rfl rfl ?_; intro x14 mx14 dx14; refine ⟨?_, ?_⟩; · (unfold Rg.callSpec; go_simp; (refine (HF4.out x14 (grownBy_trans K6 mx14)).mono ?_; rintro e w' ⟨rfl, g⟩; exact ⟨_, rfl, rfl, g⟩))); clear dx14; rintro v y ⟨rfl, g⟩; refine ⟨g, ?_⟩; clear g; simp only [Act.put, List.setIfInBounds_toArray, List.set_cons_zero, List.set_cons_succ])
    (refine Rg.tree_quiet 3 rfl (by first | exact Or.inl rfl | exact Or.inr rfl) ?_; simp only [List.take, List.drop, List.length_cons, List.length_nil, List.replicate, Nat.reduceAdd]; (try simp only [List.cons_append]); (try simp only [List.nil_append]); (repeat (go_big_quiet_step (fail))); refine wpQuiet_nil ?_)
    ((refine Rg.tree_op rfl rfl ?_; intro x18 mx18 dx18); clear dx18; go_wp2_with (refine load_rep_if (by rfl) _ rfl _ rfl (BZ.out.same (grownBy_trans K6 mx18)) ?_); refine ⟨grownBy_refl _ _, ?_⟩)
    ((refine Rg.tree_callG rfl rfl rfl ?_; intro x19 mx19 dx19; refine ⟨?_, ?_⟩; · (unfold Rg.callSpec; go_simp; (refine (HE1.out x19 (grownBy_trans K6 mx19)).mono ?_; rintro e w' ⟨rfl, g⟩; exact ⟨_, rfl, rfl, g⟩))); clear dx19; rintro v y ⟨rfl, g⟩; refine ⟨g, ?_⟩; clear g; simp only [Act.put, List.setIfInBounds_toArray, List.set_cons_zero, List.set_cons_succ])
    ((refine Rg.tree_op rfl rfl ?_; intro x20 mx20 dx20); clear dx20; go_wp2_with (refine load_rep_if (by rfl) _ rfl _ rfl (BZ.out.same (grownBy_trans K6 mx20)) ?_); refine ⟨grownBy_refl _ _, ?_⟩)
    ((refine Rg.tree_callG rfl rfl rfl ?_; intro x21 mx21 dx21; refine ⟨?_, ?_⟩; · (unfold Rg.callSpec; go_simp; (refine (HE2.out x21 (grownBy_trans K6 mx21)).mono ?_; rintro e w' ⟨rfl, g⟩; exact ⟨_, rfl, rfl, g⟩))); clear dx21; rintro v y ⟨rfl, g⟩; refine ⟨g, ?_⟩; clear g; simp only [Act.put, List.setIfInBounds_toArray, List.set_cons_zero, List.set_cons_succ])
    (refine Rg.tree_quiet 3 rfl (by first | exact Or.inl rfl | exact Or.inr rfl) ?_; simp only [List.take, List.drop, List.length_cons, List.length_nil, List.replicate, Nat.reduceAdd]; (try simp only [List.cons_append]); (try simp only [List.nil_append]); (repeat (go_big_quiet_step (fail))); refine wpQuiet_nil ?_)
    (refine Rg.tree_callG rfl rfl rfl ?_; intro x25 mx25 dx25; refine ⟨?_, ?_⟩; · (unfold Rg.callSpec; go_simp; (refine (awake24_c x25).mono ?_; rintro e w' ⟨rfl, g⟩; exact ⟨_, rfl, rfl, g⟩)))
    clear dx25
    rintro v25 y25 ⟨rfl, g25⟩
    refine ⟨g25, ?_⟩
    simp only [Act.put, List.setIfInBounds_toArray, List.set_cons_zero, List.set_cons_succ]
    (refine Rg.tree_quiet 2 rfl (by first | exact Or.inl rfl | exact Or.inr rfl) ?_; simp only [List.take, List.drop, List.length_cons, List.length_nil, List.replicate, Nat.reduceAdd]; (try simp only [List.cons_append]); (try simp only [List.nil_append]); (repeat (go_big_quiet_step (fail))); refine wpQuiet_nil ?_)
    (refine Rg.tree_nil ?_; intro x27 mx27 dx27 cx27)
    have K27 := grownBy_trans KK.out (grownBy_trans K6 mx27)
    clear dx27 cx27
    go_wp2_with fail
    go_ret
    exact retBool rfl K27
end Go.Proofs.Ytiagjiaahnkefaa

/- Arguments that come in: slices of ints and of words, read as lists. -/
namespace Go.Proofs.Ytiagjiaahnkefaa
open Go.RowKit

theorem IsRow.len_take {k : IntKind} {w : World} {a : Option Addr} {len cap : Nat} {zs : List Int} (h : IsRow k w a len cap zs) : (zs.take len).length = len := by
  rcases h with ⟨_, rfl, _, rfl⟩ | ⟨x, _, h1, _, h3, _⟩
  · rfl
  · rw [List.length_take]; omega
theorem IsRow.rdI {w : World} {a : Option Addr} {len cap : Nat} {zs : List Int} (h : IsRow .i64 w a len cap zs) : RdL intF 1 w (.slice a len cap) (zs.take len) := by
  have e := h.len_take
  have h2 := h.rd
  unfold RdL
  rw [e, show cellsOf intF (zs.take len) = _ from cells_int _]
  exact h2
theorem IsRow.rdW {w : World} {a : Option Addr} {len cap : Nat} {zs : List Int} (h : IsRow .u64 w a len cap zs) : RdL wordF 1 w (.slice a len cap) (zs.take len) := by
  have e := h.len_take
  have h2 := h.rd
  unfold RdL
  rw [e, show cellsOf wordF (zs.take len) = _ from cells_word _]
  exact h2
theorem IsRow.wf {k : IntKind} {w : World} {a : Option Addr} {len cap : Nat} {zs : List Int} (h : IsRow k w a len cap zs) : ∀ x ∈ zs.take len, (Lit.int k x).wf = true := by
  intro x hx
  rcases h with ⟨_, rfl, _, rfl⟩ | ⟨_, _, _, _, _, _, h5⟩
  · simp at hx
  · exact h5 x (List.mem_of_mem_take hx)
end Go.Proofs.Ytiagjiaahnkefaa

/- Arguments that come in, opened: structs of one-cell fields, slices of whatever elements; reports. -/
namespace Go.Proofs.Ytiagjiaahnkefaa
open Go.RowKit Go.WideShapes Go.ChangeShapes Go.Deep

section
variable {H : Type} {enc : TypeId × Value → H} {P : Program} {w : World} {base : Nat} {spare : Nat → Bool} {held : Bool}
theorem open_fields {t : TypeId} {fs : Array Field} {fuel : Nat} {cs : List Value} {x : DataW H × List MemPlace} (ht : P.underlying t = some (.struct fs)) (hone : oneCellFields P fs = true) (hC : P.cellsOf t = fs.size)
    (h : DataW.trod enc P w base spare held fuel t cs = some x) : cs.length = fs.size ∧ ∃ n, ∀ (i : Nat) (f : Field), fs[i]? = some f → ∃ c y, cs[i]? = some c ∧ DataW.trod enc P w base spare held n f.type [c] = some y := by
  obtain ⟨xs, n, _, _, hl, hlen, hf⟩ := DataW.trod_struct ht h
  refine ⟨hl.trans hC, n, fun i f hi => ?_⟩
  have hi2 : i < fs.size := (Array.getElem?_eq_some_iff.1 hi).1
  obtain ⟨o, k⟩ := hone_of hone i f hi
  have h1 := hf i f hi
  have hi3 : i < cs.length := by rw [hl, hC]; exact hi2
  have hi4 : i < xs.length := by rw [hlen]; exact hi2
  rw [o, k, List.getElem?_eq_getElem hi4] at h1
  have e : (cs.drop i).take 1 = [cs[i]] := by
    rw [List.take_one, List.head?_drop, List.getElem?_eq_getElem hi3]; rfl
  rw [e] at h1
  exact ⟨cs[i], xs[i], List.getElem?_eq_getElem hi3, h1⟩
theorem open_elems {α : Type} [Inhabited α] (f : α → List Value) (s : Nat) {t e : TypeId} (ht : P.underlying t = some (.slice e)) (hC : P.cellsOf e = s) (hpos : 0 < s) (hs : ∀ x, (f x).length = s) (Ok : α → Prop)
    (hel : ∀ n cs y, DataW.trod enc P w base spare held n e cs = some y → ∃ x, cs = f x ∧ Ok x) {fuel : Nat} {cs : List Value} {x : DataW H × List MemPlace} (h : DataW.trod enc P w base spare held fuel t cs = some x) :
    ∃ a len cap, ∃ l : List α, cs = [.slice a len cap] ∧ l.length = len ∧ len ≤ cap ∧ RdL f s w (.slice a len cap) l ∧ ∀ x ∈ l, Ok x := by
  rcases open_slice ht h with ⟨rfl, _⟩ | ⟨a, len, cap, m, n, D, Pl, rfl, _, hl, hm, hmm, _, hx⟩
  · exact ⟨none, 0, 0, [], rfl, rfl, Nat.le_refl _, ⟨by simp [cellsOf], by simp, .inl ⟨rfl, none, 0, rfl⟩⟩, by simp⟩
  · have hml : len ≤ m := by rw [hmm]; split <;> omega
    have hm63 : len ≤ 9223372036854775807 := by unfold maxLen at hm; omega
    obtain ⟨V, hV⟩ := choose_lt (α := α) (n := len) (p := fun i y => w.cells? base (a.add (i * P.cellsOf e)) (P.cellsOf e) = some (f y) ∧ Ok y) (fun i hi => by
      obtain ⟨cs', h1, h2⟩ := hx i (by omega)
      obtain ⟨y, rfl, hy⟩ := hel _ _ _ h2
      exact ⟨y, h1, hy⟩)
    have hlen : ((List.range len).map V).length = len := by simp
    refine ⟨some a, len, cap, (List.range len).map V, rfl, hlen, hl, ?_, fun y hy => ?_⟩
    · rcases Nat.eq_zero_or_pos len with h0 | h0
      · subst h0
        exact ⟨by simp [cellsOf], by simp, .inl ⟨by simp, some a, cap, by simp⟩⟩
      · obtain ⟨b, off, spot⟩ := a
        have hc0 := (World.cells?_some (hV 0 h0).1).2.2 0 (by rw [hC]; exact hpos)
        have hf0 : 0 < (f (V 0)).length := by rw [hs]; exact hpos
        rw [List.getElem?_eq_getElem hf0] at hc0
        cases spot with
        | some q =>
          exfalso
          unfold Addr.add at hc0
          simp [World.cell?] at hc0
          split at hc0 <;> simp_all
        | none =>
          have hadd : ∀ o i, (⟨b, o, none⟩ : Addr).add i = ⟨b, o + i, none⟩ := fun o i => by unfold Addr.add; split <;> simp_all
          refine ⟨length_cellsOf f s hs _, by rw [hlen]; exact hm63, .inr ⟨b, off, cap, by rw [hlen], ?_, fun j u hu => ?_⟩⟩
          · rw [hadd, hadd] at hc0
            exact block_lt_of_cell hc0
          · have hj : j < len * s := by
              have := (List.getElem?_eq_some_iff.1 hu).1
              rwa [length_cellsOf f s hs, hlen] at this
            have hq : j / s < len := Nat.div_lt_of_lt_mul (by rw [Nat.mul_comm]; exact hj)
            have hr : j % s < s := Nat.mod_lt _ hpos
            have he : j / s * s + j % s = j := Nat.div_add_mod' j s
            have h1 := (World.cells?_some (hV (j / s) hq).1).2.2 (j % s) (by rw [hC]; exact hr)
            rw [hadd, hadd, hC] at h1
            have h2 := get_cellsOf f s hs ((List.range len).map V) (j / s) (j % s) hr (V (j / s)) (by simp [hq])
            rw [he] at h2
            rw [← he, ← Nat.add_assoc, h1, ← h2, hu]
    · obtain ⟨i, hi, rfl⟩ := List.mem_map.1 hy
      exact (hV i (List.mem_range.1 hi)).2
/-- A slice of integers. -/
theorem open_elems_int {k : IntKind} {t e : TypeId} (ht : P.underlying t = some (.slice e)) (he : P.underlying e = some (.int k)) (hC : P.cellsOf e = 1) {fuel : Nat} {cs : List Value} {x : DataW H × List MemPlace} (h : DataW.trod enc P w base spare held fuel t cs = some x) :
    ∃ a len cap, ∃ l : List Int, cs = [.slice a len cap] ∧ l.length = len ∧ len ≤ cap ∧ RdL (fun n => [Value.int k n]) 1 w (.slice a len cap) l ∧ ∀ n ∈ l, (Lit.int k n).wf = true :=
  open_elems (fun n => [Value.int k n]) 1 ht hC (by omega) (fun _ => rfl) (fun n => (Lit.int k n).wf = true) (fun n cs y h => by obtain ⟨m, h1, _, h2⟩ := DataW.trod_int he h; exact ⟨m, h1, h2⟩) h
/-- A struct by value: its cells, one a field. -/
theorem open_agg {r : Reach} {b0 : Nat} {t : TypeId} {fs : Array Field} {v : Value} {d : DataW H} {p : List MemPlace} (ht : P.underlying t = some (.struct fs)) (hone : oneCellFields P fs = true) (hC : P.cellsOf t = fs.size)
    (hv : Value.okWide P w r b0 t v) (h : DataW.Trod enc P w base spare held t v d p) :
    ∃ cs : Array Value, v = .agg cs ∧ cs.size = fs.size ∧ ∃ n, ∀ (i : Nat) (f : Field), fs[i]? = some f → ∃ c y, cs[i]? = some c ∧ DataW.trod enc P w base spare held n f.type [c] = some y := by
  obtain ⟨cs, rfl, hsz⟩ := okWide_struct ht hv
  obtain ⟨fuel, hf⟩ := h
  obtain ⟨_, n, hh⟩ := open_fields ht hone hC hf
  exact ⟨cs, rfl, hsz.trans hC, n, fun i f hi => by obtain ⟨c, y, h1, h2⟩ := hh i f hi; exact ⟨c, y, by simpa [Value.cells] using h1, h2⟩⟩
theorem array7 {α : Type} {cs : Array α} (h : cs.size = 7) : ∃ a b c d e f g, cs = #[a, b, c, d, e, f, g] := by
  obtain ⟨l⟩ := cs
  match l, h with
  | [a, b, c, d, e, f, g], _ => exact ⟨a, b, c, d, e, f, g, rfl⟩
theorem list3 {α : Type} {l : List α} (h : l.length = 3) : ∃ a b c, l = [a, b, c] := by
  match l, h with
  | [a, b, c], _ => exact ⟨a, b, c, rfl⟩
end

theorem fields_line : ∃ fs, Try.prog.underlying 71 = some (.struct fs) ∧ oneCellFields Try.prog fs = true ∧ Try.prog.cellsOf 71 = fs.size ∧ fs.size = 3 ∧ (fs[0]?).map (·.type) = some 9 ∧ (fs[1]?).map (·.type) = some 22 ∧ (fs[2]?).map (·.type) = some 22 :=
  ⟨_, Try.underlying71, by kernel_rfl, by kernel_rfl, rfl, rfl, rfl, rfl⟩
theorem fields_rep : ∃ fs, Try.prog.underlying 26 = some (.struct fs) ∧ oneCellFields Try.prog fs = true ∧ Try.prog.cellsOf 26 = fs.size ∧ fs.size = 7 ∧ (fs[0]?).map (·.type) = some 3 ∧ (fs[1]?).map (·.type) = some 22 ∧ (fs[2]?).map (·.type) = some 23 ∧
    (fs[3]?).map (·.type) = some 22 ∧ (fs[4]?).map (·.type) = some 3 ∧ (fs[5]?).map (·.type) = some 22 ∧ (fs[6]?).map (·.type) = some 24 :=
  ⟨_, Try.underlying26, by kernel_rfl, by kernel_rfl, rfl, rfl, rfl, rfl, rfl, rfl, rfl, rfl⟩
theorem maxLen_lt {n : Nat} (h : n ≤ maxLen) : n ≤ 9223372036854775807 := by unfold maxLen at h; omega
section
variable {H : Type} {enc : TypeId × Value → H} {w : World} {base : Nat} {spare : Nat → Bool} {held : Bool}
instance : Inhabited Ln := ⟨⟨ByteArray.empty, 0, 0⟩⟩
theorem some_map {α β : Type} {o : Option α} {g : α → β} {b : β} (h : o.map g = some b) : ∃ x, o = some x ∧ g x = b := by
  cases o with
  | none => cases h
  | some x => exact ⟨x, rfl, by simpa using h⟩
theorem open_line {n : Nat} {cs : List Value} {y : DataW H × List MemPlace} (h : DataW.trod enc Try.prog w base spare held n 71 cs = some y) : ∃ x : Ln, cs = lnF x ∧ LnW x := by
  obtain ⟨fs, h1, h2, h3, h4, f0, f1, f2⟩ := fields_line
  obtain ⟨hl, m, hf⟩ := open_fields h1 h2 h3 h
  obtain ⟨a, b, c, rfl⟩ := list3 (hl.trans h4)
  obtain ⟨g0, e0, t0⟩ := some_map f0
  obtain ⟨g1, e1, t1⟩ := some_map f1
  obtain ⟨g2, e2, t2⟩ := some_map f2
  obtain ⟨c0, y0, k0, r0⟩ := hf 0 g0 e0
  obtain ⟨c1, y1, k1, r1⟩ := hf 1 g1 e1
  obtain ⟨c2, y2, k2, r2⟩ := hf 2 g2 e2
  simp at k0 k1 k2
  subst k0 k1 k2
  rw [t0] at r0; rw [t1] at r1; rw [t2] at r2
  obtain ⟨s, q0, _, s0⟩ := DataW.trod_string Try.underlying9 r0
  obtain ⟨lo, q1, _, s1⟩ := DataW.trod_int Try.underlying22 r1
  obtain ⟨hi, q2, _, s2⟩ := DataW.trod_int Try.underlying22 r2
  simp at q0 q1 q2
  subst q0 q1 q2
  exact ⟨⟨s, lo, hi⟩, rfl, w64_wf s1, w64_wf s2, maxLen_lt s0⟩
-- A report that came in.
set_option maxRecDepth 100000 in
theorem open_rep {r : Reach} {b0 : Nat} {v : Value} {d : DataW H} {p : List MemPlace} (hv : Value.okWide Try.prog w r b0 26 v) (h : DataW.Trod enc Try.prog w base spare held 26 v d p) :
    ∃ x : Rep, v = repV x.win x.tot x.vl x.over x.trk x.rest x.vr ∧ RepRd w x ∧ RepW x := by
  obtain ⟨fs, h1, h2, h3, h4, f0, f1, f2, f3, f4, f5, f6⟩ := fields_rep
  obtain ⟨cs, rfl, hl, m, hf⟩ := open_agg h1 h2 h3 hv h
  obtain ⟨a0, a1, a2, a3, a4, a5, a6, rfl⟩ := array7 (hl.trans h4)
  obtain ⟨g0, e0, t0⟩ := some_map f0
  obtain ⟨g1, e1, t1⟩ := some_map f1
  obtain ⟨g2, e2, t2⟩ := some_map f2
  obtain ⟨g3, e3, t3⟩ := some_map f3
  obtain ⟨g4, e4, t4⟩ := some_map f4
  obtain ⟨g5, e5, t5⟩ := some_map f5
  obtain ⟨g6, e6, t6⟩ := some_map f6
  obtain ⟨c0, y0, k0, r0⟩ := hf 0 g0 e0
  obtain ⟨c1, y1, k1, r1⟩ := hf 1 g1 e1
  obtain ⟨c2, y2, k2, r2⟩ := hf 2 g2 e2
  obtain ⟨c3, y3, k3, r3⟩ := hf 3 g3 e3
  obtain ⟨c4, y4, k4, r4⟩ := hf 4 g4 e4
  obtain ⟨c5, y5, k5, r5⟩ := hf 5 g5 e5
  obtain ⟨c6, y6, k6, r6⟩ := hf 6 g6 e6
  clear hf
  simp at k0 k1 k2 k3 k4 k5 k6
  subst k0 k1 k2 k3 k4 k5 k6
  rw [t0] at r0; rw [t1] at r1; rw [t2] at r2; rw [t3] at r3; rw [t4] at r4; rw [t5] at r5; rw [t6] at r6
  obtain ⟨win, q0, _, s0⟩ := DataW.trod_int Try.underlying3 r0
  obtain ⟨tot, q1, _, s1⟩ := DataW.trod_int Try.underlying22 r1
  obtain ⟨la, ln, lc, ls, q2, hln, hlc, hlr, hlw⟩ := open_elems lnF 3 Try.underlying23 (by kernel_rfl) (by omega) lnF_len LnW (fun n cs y h => open_line h) r2
  obtain ⟨ov, q3, _, s3⟩ := DataW.trod_int Try.underlying22 r3
  obtain ⟨trk, q4, _, s4⟩ := DataW.trod_int Try.underlying3 r4
  obtain ⟨rst, q5, _, s5⟩ := DataW.trod_int Try.underlying22 r5
  obtain ⟨ra, rn, rc, rj, q6, hrn, hrc, hrr, hrw⟩ := open_elems_int (k := .u64) Try.underlying24 Try.underlying22 (by kernel_rfl) r6
  simp at q0 q1 q2 q3 q4 q5 q6
  subst q0 q1 q2 q3 q4 q5 q6
  refine ⟨⟨win, tot, _, ov, trk, rst, _, ls, rj⟩, rfl, ⟨hlr, hrr, fun a n c e => by cases e; exact hlc, fun a n c e => by cases e; exact hrc⟩, ?_, w64_wf s1, w64_wf s3, ?_, w64_wf s5, hlw, fun n hn => w64_wf (hrw n hn)⟩
  · have := bounds_i64 s0; unfold I64; simp only; omega
  · have := bounds_i64 s4; unfold I64; simp only; omega
end
end Go.Proofs.Ytiagjiaahnkefaa
