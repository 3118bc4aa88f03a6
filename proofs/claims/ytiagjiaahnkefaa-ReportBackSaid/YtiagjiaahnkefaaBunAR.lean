/- Several texts in one file; each begins with a comment that says what is proved in it. -/
import Derived.Test.YtiagjiaahnkefaaBunAK
import Derived.Test.YtiagjiaahnkefaaBunAL
import Derived.Test.YtiagjiaahnkefaaBunAM
import Derived.Test.YtiagjiaahnkefaaBunAN
import Derived.Test.YtiagjiaahnkefaaBunAP
import Derived.Test.YtiagjiaahnkefaaBunAQ
import Derived.Test.YtiagjiaahnkefaaBunAD
import Derived.Test.YtiagjiaahnkefaaBunAB
import Derived.Deep.Slices
import Derived.Deep.Fields
import Derived.Deep.Strs
import Derived.ChangeMaps5
import Derived.Test.YtiagjiaahnkefaaBunAI

/- The walk of the law ReportEncode. -/
namespace Go.Proofs.Ytiagjiaahnkefaa
open Go.RowKit Go.Sort
attribute [local go_sem ↓] exec_load_cfg
attribute [local go_sem] run_loadCfgS

theorem run_loadVar_at {P : Program} (w : World) (g off : Nat) (ty : TypeId) (cs : Array Value) (d : TypeDesc) (hc : ∀ j v, cs[j]? = some v → w.cell? ⟨g, off + j, none⟩ = some v)
    (hu : P.underlying ty = some d) (hd : (match d with | .struct _ | .array _ _ => true | _ => false) = true) (hi : (P.info? ty).map (·.size) = some cs.size) :
    (loadVar ty ⟨g, off, none⟩).run P w = .ok (.agg cs) w := by
  have hl : (loadCells ⟨g, off, none⟩ cs.toList.length).run P w = .ok cs.toList.toArray w :=
    run_loadCells_list (P := P) w ⟨g, off, none⟩ cs.toList (fun j v hv => by
      have hadd : (⟨g, off, none⟩ : Addr).add j = ⟨g, off + j, none⟩ := by unfold Addr.add; split <;> simp_all
      rw [hadd]
      exact hc j v (by simpa using hv))
  cases hq : P.info? ty with
  | none => simp [hq] at hi
  | some i =>
    have hs : i.size = cs.size := by simpa [hq] using hi
    have hagg : (isAgg ty).run P w = .ok true w := by
      unfold isAgg
      rw [Sem.run_bind, run_underlying hu w]
      cases d <;> simp_all
    simp only [Array.length_toList, Array.toArray_toList] at hl
    simp [loadVar, Sem.run_bind, hagg, sizeOf, typeInfo, hq, hs, hl]
theorem load_rep_at {ops : Array Oper} {rest : List Oper} {o : Oper} {a : Act} {w : World} {Q : Exit → Act → World → Prop} (hgd : o.guard = none) (x : Operand) (ho : o.op = .load 26 x)
    (b off : Nat) (hx : a.eval x = .pointer (some ⟨b, off, none⟩)) {r : Rep} (hc : ∀ j v, (repF r)[j]? = some v → w.cell? ⟨b, off + j, none⟩ = some v) (h : wpList Try.prog ops Q rest (a.put o.dst (repV r.win r.tot r.vl r.over r.trk r.rest r.vr)) w) : wpList Try.prog ops Q (o :: rest) a w :=
  wpList_plain hgd fun _ hK => by
    unfold Oper.wp execOp
    simp only [ho, hx, Instr.loadAt, Instr.sureAddr, Sem.run_bind, Sem.run_pure, Result.andThen_ok, run_loadVar_at w b off _ (repA r.win r.tot r.vl r.over r.trk r.rest r.vr) _ (fun j v hv => hc j v (by simpa [repF, repA] using hv)) Try.underlying26 rfl size_rep]
    exact hK _ _ h
theorem load_rep_if2 {ops : Array Oper} {rest : List Oper} {o : Oper} {a : Act} {w : World} {Q : Exit → Act → World → Prop} (hw : Region.wanted o (yielded ops a.tmps) = true) (x : Operand) (ho : o.op = .load 26 x)
    (b : Nat) (hx : a.eval x = .pointer (some ⟨b, 0, none⟩)) {win tot over trk rst : Int} {vl vr : Value} (hb : Blk w b (repA win tot vl over trk rst vr)) (h : wpList Try.prog ops Q rest (a.put o.dst (repV win tot vl over trk rst vr)) w) : wpList Try.prog ops Q (o :: rest) a w := by
  obtain ⟨t, hbl⟩ := hb.blk
  exact BigFrame.wpList_want hw fun K hK => wp_load_row _ x ho b hx t _ _ _ hbl Try.underlying26 rfl size_rep (hK _ _ h)
theorem enc_len {r : Rep} (hW : RepW r) : (encR r).length ≤ 100000 := by
  unfold encR
  split
  case isFalse => simp
  case isTrue h0 =>
    have HOK := rep_ok h0
    have hfew := HOK.few
    have h7 : r.rej.length = 7 := HOK.rej
    obtain ⟨p1, p2⟩ := HOK.win
    obtain ⟨p3, p4⟩ := HOK.trk
    have t1 := hW.tot
    have t2 := hW.over
    have t3 := hW.rest
    unfold W64 at t1 t2 t3
    have h1 : (headB r).length ≤ 120 := by
      unfold headB
      have e1 : (vbs [r.win.toNat, r.tot.toNat, r.over.toNat, r.trk.toNat, r.rest.toNat]).length ≤ 50 := vbs_len (by intro n hn; simp at hn; omega)
      have e2 := vbs_len (ns := (r.rej.drop 1).map Int.toNat) (by
        intro n hn
        obtain ⟨x, hx, rfl⟩ := List.mem_map.1 hn
        have := hW.rej x (List.mem_of_mem_drop hx)
        unfold W64 at this
        omega)
      rw [List.length_map, List.length_drop, h7] at e2
      have e3 := vb_ten (show r.lines.length < 18446744073709551616 by omega)
      rw [List.length_append, List.length_append]
      omega
    have h2 : ∀ m, m ≤ r.lines.length → (linesB (r.lines.take m)).length ≤ 285 * m := by
      intro m
      induction m with
      | zero => intro _; simp [linesB]
      | succ m ih =>
        intro hm
        have h1 := ih (by omega)
        obtain ⟨-, q1, q2, -⟩ := HOK.ln (show m < r.lines.length by omega)
        have q3 := hW.lines _ (List.getElem_mem (show m < r.lines.length by omega))
        have q4 := q3.lo
        have q5 := q3.hi
        unfold W64 at q4 q5
        rw [List.take_succ_eq_append_getElem (by omega), linesB_snoc, List.length_append]
        have h2 : (lnB r.lines[m]).length ≤ 285 := by
          unfold lnB
          have e1 := vb_ten (show r.lines[m].key.size < 18446744073709551616 by omega)
          have e2 : (vbs [r.lines[m].lo.toNat, (r.lines[m].hi - r.lines[m].lo).toNat]).length ≤ 20 := vbs_len (by intro n hn; simp at hn; omega)
          have e3 : r.lines[m].key.data.toList.length = r.lines[m].key.size := Array.length_toList
          rw [List.length_append, List.length_append, e3]
          omega
        omega
    have h3 := h2 r.lines.length (Nat.le_refl _)
    rw [List.take_of_length_le (Nat.le_refl _)] at h3
    unfold encF
    rw [List.length_append]
    omega
theorem enc_pos {r : Rep} (h : repErr r = 0) : 0 < (encR r).length := by
  unfold encR
  rw [if_pos h]
  unfold encF headB
  simp only [vbs, List.flatMap_cons, List.length_append]
  have := vb_pos r.win.toNat
  omega
def DecRep (D : Rep) (E : Int) (w : World) (e : Ending) (w' : World) : Prop :=
  ∃ vl vr, e = .returned (.tuple #[repV D.win D.tot vl D.over D.trk D.rest vr, .int .i64 E]) ∧ RdL lnF 3 w' vl D.lines ∧ RdL wordF 1 w' vr D.rej ∧ w.grownBy w' none
theorem DecPost.rep {l : List UInt8} {w : World} {e : Ending} {w' : World} (h : DecPost l w e w') : DecRep (decR l) (decE l) w e w' := by
  obtain ⟨vl, vr, h1, h2, h3⟩ := h
  exact ⟨vl, vr, h1, h2.lines, h2.rej, h3⟩
def sliF (p : Value × List UInt8) : List Value := [p.1]
theorem rd_oneCell {α : Type} {f : α → List Value} {s : Nat} {w : World} {v : Value} {l : List α} (h : RdL f s w v l) : v.oneCell' = true := by
  obtain ⟨_, _, rfl⟩ := Rd.shape h; rfl
theorem repF_len (r : Rep) : (repF r).length = 7 := rfl

set_option maxHeartbeats 3200000 in
set_option maxRecDepth 100000 in
theorem renc_w (x0 : Rep) (ba : Option Addr) (bc : Nat) (bl : List UInt8) (sv : Value) (xs : List Int) (k : Nat) (at_ n : Int) (by_ : UInt8) (w : World) (hR : RepRd w x0) (hW : RepW x0) (hbv : RdL byF 1 w (.slice ba bl.length bc) bl) (hbc : bl.length ≤ bc)
    (hsv : Rd w 1 sv k (xs.map (fun x => Value.int .i64 x))) (hn : W64 n) (hat : I64 at_) :
    Calls Try.prog 4 #[repV x0.win x0.tot x0.vl x0.over x0.trk x0.rest x0.vr, .slice ba bl.length bc, sv, .int .i64 at_, .int .u64 n, .int .u8 by_.toNat] w (RetBool true w) := by
  have HS := Lib.hid hsv
  obtain ⟨sa, sc, rfl⟩ := hsv.shape
  have Hpl := Lib.hid fun w' (h : World.grownBy w w' none) => plain_c x0 w' (hR.same h)
  have HBv := Lib.hid hbv
  have HX0 := Lib.hid hR
  have HW0 := Lib.hid hW
  clear hsv hbv
  generalize plainB x0 = pb at *
  obtain ⟨la', lc', e1⟩ := hR.lines.shape
  obtain ⟨ja, jc, e2⟩ := hR.rej.shape
  obtain ⟨win, tot, vl, over, trk, rest, vr, ls, rj⟩ := x0
  dsimp only at *
  subst e1 e2
  clear hR hW
  have B1 := Blk.new w (repA win tot (.slice la' ls.length lc') over trk rest (.slice ja rj.length jc)) 26
  have G1 := grownBy_new_block (grownBy_refl w none) (.cells (repA win tot (.slice la' ls.length lc') over trk rest (.slice ja rj.length jc)) 26)
  have hw0 := B1.lt
  go_enter Try.func4, Try.ntmps4
  go_upto_region 1 with fail
  generalize w.alloc (.cells (repA win tot (.slice la' ls.length lc') over trk rest (.slice ja rj.length jc)) 26) = wa at *
  generalize w.heap.size = br at *
  have hblt := Lib.hid (fun ad (e : ba = some ad) (h0 : 0 < bl.length) => by subst e; exact Rd.blockLt HBv.out h0 _ _ _ rfl : ∀ ad, ba = some ad → 0 < bl.length → ad.block < w.heap.size)
  cases pb
  · go_wp2_with (first
      | (refine load_rep rfl _ rfl _ rfl B1 ?_)
      | (go_at_call 12; refine (Hpl.out _ G1).mono ?_; rintro e w1 ⟨rfl, g1⟩)
      | (go_at_call 13; refine (awake24_c _).mono ?_; rintro e w6 ⟨rfl, G6⟩))
    go_ret
    exact retBool rfl (grownBy_trans G1 (grownBy_trans g1 G6))
  by_cases hlen : 300 < bl.length
  · have hl2 : (300 : Int) < (bl.length : Int) := by omega
    go_wp2_with (first
      | (refine load_rep rfl _ rfl _ rfl B1 ?_)
      | (go_at_call 12; refine (Hpl.out _ G1).mono ?_; rintro e w1 ⟨rfl, g1⟩)
      | (go_at_call 13; refine (awake24_c _).mono ?_; rintro e w6 ⟨rfl, G6⟩))
    go_ret
    exact retBool rfl (grownBy_trans G1 (grownBy_trans g1 G6))
  have hl2 : ¬ (300 : Int) < (bl.length : Int) := by omega
  go_upto_region 3 with (first
    | (refine load_rep rfl _ rfl _ rfl B1 ?_)
    | (go_at_call 12; refine (Hpl.out _ G1).mono ?_; rintro e wb ⟨rfl, gb⟩))
  have B2 := B1.same gb
  have G2 := grownBy_trans G1 gb
  have HSb := Lib.hid (Rd.same HS.out G2)
  clear B1 G1 gb HS Hpl
  have HB0 := Lib.hid B2
  have HG0 := Lib.hid G2
  clear B2 G2
  go_upto_region 4 with (first | (go_at_call 14; refine (few24_c _ xs _ _ HSb.out).mono ?_; rintro e w1 ⟨c, lc, t, lv, l, win0, rej0, vl0, vr0, rfl, F1, P1, P2, P3, P4, P5, P6, P7, P8, G1⟩; (obtain ⟨la, lcp, rfl⟩ := F1.sums.rd.shape); (obtain ⟨a0, k0, rfl⟩ := P1.shape); (obtain ⟨b0, j0, rfl⟩ := P2.shape); have oc1 := F1.mem.one1; have oc2 := F1.mem.one2) | (refine alloc_cfg rfl rfl ?_; intro w2 B2 G2 z2) | (refine alloc_rep rfl rfl ?_; intro w3 A3 G3 z3; have B3 := B2.same G3) | (refine store_cfg rfl _ _ rfl _ rfl c rfl oc1 oc2 Cfg.zero (by assumption) ?_; intro w4 B4 G4; have A4 := A3.kept G4 (by simp; omega)) | (refine store_rep rfl _ _ rfl _ rfl rfl rfl rfl _ rfl (by assumption) ?_; intro w5 A5 G5; have B5 := B4.kept G5 (by simp; omega); have K5 := grownBy_new (grownBy_new (grownBy_trans G2 G3) G4 (Nat.le_refl _)) G5 (Nat.le_of_lt z2)))
  simp only [Act.put, List.setIfInBounds_toArray, List.set_cons_zero, List.set_cons_succ]
  have hw01 : 0 ≤ win0 ∧ win0 ≤ 1099511627776 := by omega
  have HXe := Lib.hid (built_ok F1 hw01 P6 P7 (.slice a0 (bLs c t l).length k0) (.slice b0 7 j0))
  have HXw := Lib.hid (built_w F1 hw01 (rej := rej0) (fun n hn => by have := P8 n hn; unfold W64; omega) (.slice a0 (bLs c t l).length k0) (.slice b0 7 j0))
  rw [P6] at P2 P4
  have HXr := Lib.hid (show RepRd w1 ⟨win0, totalF l, .slice a0 (bLs c t l).length k0, bOver c t l, ((keysF l).length : Int), bRest c t l, .slice b0 7 j0, bLs c t l, rej0⟩ from ⟨P1, P2, P3, P4⟩)
  have HLl := Lib.hid (show (bLs c t l).length ≤ 90000 by
    have h1 := bLs_len (t := t) F1
    have h2 := F1.nums.top
    omega)
  have HP6 := Lib.hid P6
  have KW := grownBy_trans HG0.out (grownBy_trans G1 K5)
  have HB5 := Lib.hid (HB0.out.same (grownBy_trans G1 K5))
  have HK5 := Lib.hid K5
  clear P1 P2 P3 P4 P5 P6 P7 P8 F1 B5 B4 B3 B2 A4 A3 G5 G4 G3 G2 HSb HB0 G1 oc1 oc2 hw01 K5
  generalize bLs c t l = Ls at *
  generalize bOver c t l = ov at *
  generalize bRest c t l = rst at *
  generalize totalF l = tt at *
  generalize ((keysF l).length : Int) = kn at *
  have HSp := Lib.hid fun w' (h : World.grownBy w5 w' none) => spoilt_c ⟨win0, tt, .slice a0 Ls.length k0, ov, kn, rst, .slice b0 7 j0, Ls, rej0⟩ at_ n w' ((HXr.out.same HK5.out).same h) HXw.out hn (by have := HLl.out; show Ls.length ≤ _; omega) (by show 1 ≤ rej0.length; rw [HP6.out]; omega) (by show rej0.length ≤ _; rw [HP6.out]; omega)
  have K6 : World.grownBy w5 w5.drew none := (by (repeat (first | exact grownBy_refl _ _ | assumption | refine grownBy_new_block ?_ _ | refine grownBy_drew ?_ | refine grownBy_drewN ?_ _ | refine grownBy_setNew ?_ (by first | (simp; done) | omega | (simp; omega)) _)))
  have HA5 := Lib.hid A5
  clear A5
  (refine Rg.wp_region_rgZ 9 #[] (fun w w' => World.grownBy w w' none) (fun k _ w v w' => match k with | 5 => (∃ y : Rep, v = repV y.win y.tot y.vl y.over y.trk y.rest y.vr ∧ RepRd w' y ∧ RepW y) ∧ World.grownBy w w' none | _ => False) (by kernel_rfl) (by kernel_rfl) (fun w => grownBy_refl w none) (fun _ _ _ h k => grownBy_trans h k) (fun _ _ _ _ _ h => h) ?_; simp only [List.take, List.drop])
  generalize w5.drew = wd at *
  ((refine Rg.tree_op rfl rfl ?_; intro x0 mx0 dx0); clear dx0; go_wp2_with (refine load_rep rfl _ rfl _ rfl (HB5.out.same (grownBy_trans K6 mx0)) ?_); refine ⟨grownBy_refl _ _, ?_⟩)
  ((refine Rg.tree_op rfl rfl ?_; intro x1 mx1 dx1); clear dx1; go_wp2_with (refine load_rep rfl _ rfl _ rfl (HA5.out.same (grownBy_trans K6 mx1)) ?_); refine ⟨grownBy_refl _ _, ?_⟩)
  ((refine Rg.tree_op rfl rfl ?_; intro x2 mx2 dx2); clear dx2; go_wp2_with (refine load_rep rfl _ rfl _ rfl (HA5.out.same (grownBy_trans K6 mx2)) ?_); refine ⟨grownBy_refl _ _, ?_⟩)
  (refine Rg.tree_quiet 2 rfl (by first | exact Or.inl rfl | exact Or.inr rfl) ?_; simp only [List.take, List.drop, List.length_cons, List.length_nil, List.replicate, Nat.reduceAdd]; (try simp only [List.cons_append]); (try simp only [List.nil_append]); (repeat (go_big_quiet_step (fail))); refine wpQuiet_nil ?_)
  (refine Rg.tree_call rfl rfl rfl ?_; intro x5 mx5 dx5; refine ⟨?_, ?_⟩; · (unfold Rg.callSpec; go_simp; (refine (HSp.out x5 (grownBy_trans K6 mx5)).mono ?_; rintro e w' ⟨y, rfl, yr, yw, -, -, -, g6⟩; exact ⟨_, rfl, ⟨y, rfl, yr, yw⟩, g6⟩)))
  clear dx5
  rintro v5 y5 ⟨⟨Y, rfl, yr, yw⟩, g5⟩
  refine ⟨g5, ?_⟩
  obtain ⟨yw0, yt, yv, yo, yk, ys, yu, yl, yq⟩ := Y
  obtain ⟨ya, yc, e1⟩ := yr.lines.shape
  obtain ⟨yb, yd, e2⟩ := yr.rej.shape
  dsimp only at e1 e2
  subst e1 e2
  dsimp only
  have Hyr := Lib.hid yr
  have Hyw := Lib.hid yw
  clear g5 yr yw
  simp only [Act.put, List.setIfInBounds_toArray, List.set_cons_zero, List.set_cons_succ]
  (refine Rg.tree_op rfl rfl ?_; intro x6 mx6 dx6)
  clear dx6
  go_wp2_with fail
  refine ⟨World.grownBy_alloc _ _ _, ?_⟩
  have N6 := Lib.hid (Blk.new x6 #[.int .i64 win, .int .u64 tot, .slice la' ls.length lc', .int .u64 over, .int .i64 trk, .int .u64 rest, .slice ja rj.length jc, .int .i64 win0, .int .u64 tt, .slice a0 Ls.length k0, .int .u64 ov, .int .i64 kn, .int .u64 rst, .slice b0 7 j0, .int .i64 yw0, .int .u64 yt, .slice ya yl.length yc, .int .u64 yo, .int .i64 yk, .int .u64 ys, .slice yb yq.length yd] 26)
  generalize x6.alloc (.cells #[.int .i64 win, .int .u64 tot, .slice la' ls.length lc', .int .u64 over, .int .i64 trk, .int .u64 rest, .slice ja rj.length jc, .int .i64 win0, .int .u64 tt, .slice a0 Ls.length k0, .int .u64 ov, .int .i64 kn, .int .u64 rst, .slice b0 7 j0, .int .i64 yw0, .int .u64 yt, .slice ya yl.length yc, .int .u64 yo, .int .i64 yk, .int .u64 ys, .slice yb yq.length yd] 26) = e6 at *
  generalize x6.heap.size = g6 at *
  (refine Rg.tree_quiet 2 rfl (by first | exact Or.inl rfl | exact Or.inr rfl) ?_; simp only [List.take, List.drop, List.length_cons, List.length_nil, List.replicate, Nat.reduceAdd]; (try simp only [List.cons_append]); (try simp only [List.nil_append]); (repeat (go_big_quiet_step (fail))); refine wpQuiet_nil ?_)
  (refine Rg.tree_nil ?_; intro z mz dz cz)
  have Kz := grownBy_trans K6 mz
  obtain ⟨Rs, hRs⟩ : ∃ Rs : List Rep, [(⟨win, tot, .slice la' ls.length lc', over, trk, rest, .slice ja rj.length jc, ls, rj⟩ : Rep), ⟨win0, tt, .slice a0 Ls.length k0, ov, kn, rst, .slice b0 7 j0, Ls, rej0⟩, ⟨yw0, yt, .slice ya yl.length yc, yo, yk, ys, .slice yb yq.length yd, yl, yq⟩] = Rs := ⟨_, rfl⟩
  have HL := Lib.hid (show RdL repF 7 z (.slice (some ⟨g6, 0, none⟩) 3 3) Rs by
    have h := (N6.out.same (dz.out 6 (by omega))).many repF_len Rs (by rw [← hRs]; rfl) (by rw [← hRs]; simp)
    have e : Rs.length = 3 := by rw [← hRs]; rfl
    rw [e] at h; exact h)
  have HRs := Lib.hid (show ∀ r ∈ Rs, RepRd z r ∧ RepW r by
    intro r hr
    rw [← hRs] at hr
    simp only [List.mem_cons, List.not_mem_nil, or_false] at hr
    rcases hr with rfl | rfl | rfl
    · exact ⟨HX0.out.same (grownBy_trans KW Kz), HW0.out⟩
    · exact ⟨HXr.out.same (grownBy_trans HK5.out Kz), HXw.out⟩
    · exact ⟨Hyr.out.same (dz.out 5 (by omega)), Hyw.out⟩)
  have HRl := Lib.hid (show Rs.length = 3 by rw [← hRs]; rfl)
  have HAz := Lib.hid (HA5.out.same Kz)
  have HXz := Lib.hid (HXr.out.same (grownBy_trans HK5.out Kz))
  have HBz := Lib.hid (HBv.out.same (grownBy_trans KW Kz))
  have HKz := Lib.hid (grownBy_trans KW Kz)
  clear dz cz mz mx0 mx1 mx2 mx5 mx6 K6 Kz KW HB5 HA5 HX0 HW0 HXr Hyr Hyw HSp HK5 HG0 hRs N6
  go_wp2_with fail
  go_loopw [54] (fun s54 wk => ∃ i : Nat, i ≤ 3 ∧ s54 = .int .i64 i ∧ z.grownBy wk none) (fun s54 _ => 3 - (intOf s54).toNat)
  case atStart => exact ⟨0, by omega, rfl, grownBy_refl _ _⟩
  case round =>
    obtain ⟨i, hi, rfl, hg⟩ := hrel
    by_cases hlt : i < 3
    · obtain ⟨gq, oq, cq, hv, hgq, hc⟩ := (HL.out.same hg).at_ repF_len (show i < Rs.length by rw [HRl.out]; exact hlt)
      rw [HRl.out] at hv
      cases hv
      obtain ⟨hr1, hr2⟩ := HRs.out _ (List.getElem_mem (show i < Rs.length by rw [HRl.out]; exact hlt))
      generalize Rs[i]'(by rw [HRl.out]; exact hlt) = r at *
      simp only [Nat.zero_add] at hc
      have HC1 := Lib.hid fun w' (h : World.grownBy wr w' none) => encode_c r w' (hr1.same (grownBy_trans hg h)) hr2
      have HC2 := Lib.hid fun w' (h : World.grownBy wr w' none) => renc_c r w' (hr1.same (grownBy_trans hg h)) hr2
      obtain ⟨a2, c2, e1⟩ := hr1.lines.shape
      obtain ⟨a3, c3, e2⟩ := hr1.rej.shape
      have hEE : ((repErr r) != (repErr r)) = false := by simp
      have ho1 : r.vl.oneCell' = true := by rw [e1]; rfl
      have ho2 : r.vr.oneCell' = true := by rw [e2]; rfl
      have Hc := Lib.hid hc
      have hi0 : (0 : Int) ≤ (i : Int) := by omega
      have hi3 : (i : Int) < 3 := by omega
      clear hr1 hr2 e1 e2 hc
      go_wp2_with (first
        | (refine load_rep_at rfl _ rfl _ _ rfl Hc.out ?_)
        | (refine alloc_rep rfl rfl ?_; intro wa2 Aa2 ga2 za2)
        | (refine store_rep rfl _ _ rfl _ rfl rfl ho1 ho2 _ rfl Aa2 ?_; intro wb2 Ab2 gb2; have Kb2 := grownBy_new ga2 gb2 (Nat.le_refl _))
        | (refine load_rep rfl _ rfl _ rfl Ab2 ?_)
        | (go_at_call 18; refine (HC1.out _ Kb2).mono ?_; rintro e wc2 ⟨v1, rfl, o1, gc2⟩; obtain ⟨a4, c4, rfl⟩ := o1.shape; have Ac2 := Ab2.same gc2; have Kc2 := grownBy_trans Kb2 gc2)
        | (refine load_rep rfl _ rfl _ rfl Ac2 ?_)
        | (go_at_call 19; refine (HC2.out _ Kc2).mono ?_; rintro e wd2 ⟨v2, rfl, o2, gd2⟩; obtain ⟨a5, c5, rfl⟩ := o2.shape; have Kd2 := grownBy_trans Kc2 gd2)
        | (go_at_call 20; refine (sameBy_c _ _ (encR r) _ (o1.same gd2).rd o2.rd).mono ?_; rintro e we2 ⟨rfl, ge2⟩; have Ke2 := grownBy_trans Kd2 ge2))
      exact ⟨⟨i + 1, by omega, by go_num, grownBy_trans hg Ke2⟩, by simp [intOf]; omega⟩
    · obtain rfl : i = 3 := by omega
      have C12 := renc_c _ wr (HXz.out.same hg) HXw.out
      obtain ⟨Y, hY⟩ : ∃ Y, encR ⟨win0, tt, .slice a0 Ls.length k0, ov, kn, rst, .slice b0 7 j0, Ls, rej0⟩ = Y := ⟨_, rfl⟩
      have hY0 : 0 < Y.length := hY ▸ enc_pos HXe.out
      have hYl : Y.length ≤ 100000 := hY ▸ enc_len HXw.out
      have HC12 := Lib.hid (show Calls Try.prog 19 #[repV win0 tt (.slice a0 Ls.length k0) ov kn rst (.slice b0 7 j0)] wr (fun e w' => ∃ v, e = .returned (.tuple #[v, .int .i64 0]) ∧ Own byF 1 5 wr.heap.size w' v Y ∧ wr.grownBy w' none) from C12.mono fun e w' ⟨v, h1, h2, h3⟩ => ⟨v, by rw [h1, HXe.out], hY ▸ h2, h3⟩)
      clear hY
      have HA12 := Lib.hid (HAz.out.same hg)
      have HK12 := Lib.hid (grownBy_trans HKz.out hg)
      have HB12 := Lib.hid (HBz.out.same hg)
      clear C12 HXz HAz HKz HBz HL HRs HRl HXe HXw hg HLl HP6
      have hY1 : ((Y.length : Int) == 0) = false := by rw [beq_eq_false_iff_ne]; omega
      go_upto_region 13 with (first
        | (refine load_rep rfl _ rfl _ rfl HA12.out ?_)
        | (go_at_call 19; refine HC12.out.mono ?_; rintro e wa3 ⟨v3, rfl, o3, ga3⟩; obtain ⟨a3, c3, rfl⟩ := o3.shape))
      have HO3 := Lib.hid o3
      have hylt := Lib.hid (fun q hq => (o3.lt q hq).2 : ∀ q, (Value.slice a3 Y.length c3).ownBlock = some q → q < wa3.heap.size)
      have HK13 := Lib.hid (grownBy_trans HK12.out ga3)
      have HK13s := Lib.hid HK13.out.size
      have HB13 := Lib.hid (HB12.out.same ga3)
      clear o3 ga3 HA12 HC12 HK12 HB12
      go_upto_region 15 with fail
      have N := own_lit0 (e := 5) byF 1 (Nat.le_refl wa3.heap.size)
      have R := (HO3.out.same (World.grownBy_alloc wa3 (.cells #[] 5) none)).rd
      have hb1 : Y.length * 1 ≤ 140737488355328 := by omega
      have hb2 : Y.length ≤ 9223372036854775807 := by omega
      go_upto_region 16 with (at_builtin; refine app_lit elt_by one_by N R rfl hb1 hb2 (by simp) (by rfl) _ _ (by rfl) (by rfl) (by rfl) ?_; intro v4 w4 o4 g4 l4; obtain ⟨a4, c4, rfl⟩ := o4.shape)
      have G4 : wa3.grownBy w4 none := grownBy_trans (World.grownBy_alloc wa3 _ none) g4
      have HO4 := Lib.hid (HO3.out.same G4)
      have HK14 := Lib.hid (grownBy_trans HK13.out G4)
      have HB14 := Lib.hid (HB13.out.same G4)
      have HZ := Lib.hid o4
      clear N R g4 l4 HO3 HK13 HB13 o4
      have hand : bits .and .i64 at_ 1023 = at_ % 1024 := and_low at_ 10 (by omega)
      have hm0 := Int.emod_nonneg at_ (show (1024 : Int) ≠ 0 by decide)
      have hm1 := Int.emod_lt_of_pos at_ (show (0 : Int) < 1024 by decide)
      generalize at_ % 1024 = m at *
      have hYp : (0 : Int) < (Y.length : Int) := by omega
      have hmz : ((Y.length : Int) == 0) = false := hY1
      obtain ⟨jj, hjj⟩ : ∃ jj : Nat, m.tmod (Y.length : Int) = (jj : Int) ∧ jj < Y.length := ⟨m.toNat % Y.length, by
        obtain ⟨q, rfl⟩ := Int.eq_ofNat_of_zero_le hm0
        rw [Int.toNat_natCast]; rfl, Nat.mod_lt _ hY0⟩
      obtain ⟨hj1, hj2⟩ := hjj
      obtain ⟨zg, zc, hzv, hzlo, -, -, hzc, hzf⟩ := HZ.out.at_ byF_len hj2
      cases hzv
      have hzc0 := hzc 0 _ rfl
      rw [Nat.mul_one, Nat.add_zero] at hzc0
      clear hzc
      go_upto_region 17 with fail
      have hst := HZ.out.stored byF_len hj2 (j := 0) (by omega) (.int .u8 by_.toNat) by_ rfl
      rw [Nat.mul_one, Nat.add_zero] at hst
      obtain ⟨oz, gz⟩ := hst
      have hsz3 := (HK14.out.size)
      have hzw : w.heap.size ≤ zg := Nat.le_trans HK13s.out hzlo
      have HKs := Lib.hid (grownBy_new HK14.out gz hzw)
      have HOs := Lib.hid (HO4.out.kept gz (fun q hq e => by cases e; have := hylt.out _ hq; omega))
      have HBs := Lib.hid (rd_kept HB14.out gz hblt.out (fun k e => by cases e; exact hzw))
      have HZs := Lib.hid oz
      have hzcap := Lib.hid HZ.out.cap
      clear oz gz HO4 HK14 HB14 HZ hzc0 hzf hsz3 G4 hzlo hylt hblt HK13s hzw
      have hYset : (Y.set jj by_).length = Y.length := List.length_set
      generalize w4.setCell ⟨zg, jj, none⟩ (.int .u8 by_.toNat) = ws at *
      have hyc : Y.length ≤ c3 := HOs.out.cap
      have hj0 : (0 : Int) ≤ (jj : Int) := by omega
      have hj3 : (jj : Int) ≤ (c3 : Int) := by omega
      have hj4 : (Y.length : Int) ≤ (c3 : Int) := by omega
      obtain ⟨NN, hNN⟩ : ∃ NN, ws.heap.size = NN := ⟨_, rfl⟩
      have HNN := Lib.hid hNN
      have RB := Lib.hid HBs.out
      have RY := Lib.hid HOs.out.rd
      have RZ := Lib.hid HZs.out.rd
      have lB := Lib.hid (fun h0 => hNN ▸ Rd.blockLt HBs.out h0 : 0 < bl.length → ∀ a n' c, Value.slice ba bl.length bc = .slice (some a) n' c → a.block < NN)
      have lY := Lib.hid (fun h0 => hNN ▸ Rd.blockLt HOs.out.rd h0 : 0 < Y.length → ∀ a n' c, Value.slice a3 Y.length c3 = .slice (some a) n' c → a.block < NN)
      have lZ := Lib.hid (fun h0 => hNN ▸ Rd.blockLt HZs.out.rd h0 : 0 < (Y.set jj by_).length → ∀ a n' c, Value.slice (some ⟨zg, 0, none⟩) Y.length c4 = .slice (some a) n' c → a.block < NN)
      obtain ⟨P, hP⟩ : ∃ P : List UInt8 → Prop, (fun T => T = [] ∨ T = Y ∨ T = [by_] ∨ T = Y ++ [by_]) = P := ⟨_, rfl⟩
      have HP0 := Lib.hid (show P [] by rw [← hP]; exact .inl rfl)
      have HP1 := Lib.hid (show P Y by rw [← hP]; exact .inr (.inl rfl))
      have HPx := Lib.hid (show P [by_] by rw [← hP]; exact .inr (.inr (.inl rfl)))
      have HP3 := Lib.hid (show P (Y ++ [by_]) by rw [← hP]; exact .inr (.inr (.inr rfl)))
      have HP2 := Lib.hid (show ∀ T, P T → T.length ≤ Y.length ∨ T <+: Y ++ [by_] ∨ Y ++ [by_] <+: T by
        intro T hT
        rw [← hP] at hT
        rcases hT with rfl | rfl | rfl | rfl
        · exact .inl (by simp)
        · exact .inl (Nat.le_refl _)
        · exact .inl (by simp; omega)
        · exact .inr (.inl (List.prefix_refl _)))
      have hb4 : (Y.length + [by_].length) * 1 ≤ 140737488355328 := by simp; omega
      have hb5 : Y.length + [by_].length ≤ 9223372036854775807 := by simp; omega
      have K6 : Keep byF 1 5 NN P ws ws.drew := Keep.of (by (repeat (first | exact grownBy_refl _ _ | assumption | refine grownBy_new_block ?_ _ | refine grownBy_drew ?_ | refine grownBy_drewN ?_ _ | refine grownBy_setNew ?_ (by first | (simp; done) | omega | (simp; omega)) _)))
      clear hP HOs HZs HBs hNN
      refine wp_region_any (by kernel_rfl) ?_
      (refine Tail.take_put 18 119 (.int .i64 0) rfl rfl (by kernel_rfl) (by kernel_rfl) (by kernel_rfl) (fun _ _ _ h => h) (Or.inl ⟨by rfl, fun w => ?_⟩) ?_; · go_simp); simp only [List.setIfInBounds_toArray, List.set_cons_zero, List.set_cons_succ]
      (refine Rg.wpAny_rg 16 #[] #[false, false, false, false, false, false, false, false, false, false, false, false, false, false, false, false, false, false, true] (Keep byF 1 5 NN P) (fun _ _ _ _ _ => False) (by kernel_rfl) (by kernel_rfl) rfl (by kernel_rfl) (by simp only [Rg.tailL, List.drop]; decide) (Keep.refl _ _ _ _ _) (fun _ _ _ h k => h.trans k) (fun _ _ _ _ _ h => h) ?_; simp only [List.take, List.drop, Rg.tailL]; simp (decide := true) only [if_true, if_false])
      (refine Rg.tree_quiet 10 rfl (by first | exact Or.inl rfl | exact Or.inr rfl) ?_; simp only [List.take, List.drop, List.length_cons, List.length_nil, List.replicate, Nat.reduceAdd]; (try simp only [List.cons_append]); (try simp only [List.nil_append]); (repeat (go_big_quiet_step (fail))); refine wpQuiet_nil ?_)
      (refine Rg.tree_op rfl rfl ?_; intro x10 mx10 dx10)
      clear dx10
      have zx10 : NN ≤ x10.heap.size := HNN.out ▸ (K6.trans mx10).grown.size
      go_wp2_with fail
      refine ⟨Keep.of (World.grownBy_alloc _ _ _), ?_⟩
      have N10 := own_lit0 (e := 5) byF 1 zx10
      generalize x10.alloc (.cells #[] 5) = e10 at *
      generalize x10.heap.size = g10 at *
      (refine Rg.tree_quiet 1 rfl (by first | exact Or.inl rfl | exact Or.inr rfl) ?_; simp only [List.take, List.drop, List.length_cons, List.length_nil, List.replicate, Nat.reduceAdd]; (try simp only [List.cons_append]); (try simp only [List.nil_append]); (repeat (go_big_quiet_step (fail))); refine wpQuiet_nil ?_)
      (refine Rg.tree_op rfl rfl ?_; intro x12 mx12 dx12)
      have N12 := (dx12.out 10 (by omega) (by kernel_rfl)).own [] _ HP0.out N10
      have R12 := (K6.trans mx12).rd RY.out lY.out
      have z12 : NN ≤ x12.heap.size := HNN.out ▸ (K6.trans mx12).grown.size
      clear dx12
      go_wp2_with (at_builtin; refine app_lit elt_by one_by N12 R12 rfl hb1 hb2 z12 (by rfl) _ _ (by rfl) (by rfl) (by rfl) ?_; intro v12 e12 o12 g12 l12; have Hg12 := Lib.hid g12; clear g12 l12)
      refine ⟨Keep.of Hg12.out, ?_⟩
      obtain ⟨a12, c12, rfl⟩ := o12.shape
      clear N12 R12 z12 N10 Hg12
      (refine Rg.tree_quiet 1 rfl (by first | exact Or.inl rfl | exact Or.inr rfl) ?_; simp only [List.take, List.drop, List.length_cons, List.length_nil, List.replicate, Nat.reduceAdd]; (try simp only [List.cons_append]); (try simp only [List.nil_append]); (repeat (go_big_quiet_step (fail))); refine wpQuiet_nil ?_)
      (refine Rg.tree_op rfl rfl ?_; intro x14 mx14 dx14)
      clear dx14
      have z14 : NN ≤ x14.heap.size := HNN.out ▸ (K6.trans mx14).grown.size
      go_wp2_with fail
      refine ⟨Keep.of (World.grownBy_alloc _ _ _), ?_⟩
      have N14 : Own byF 1 5 NN (x14.alloc (.cells #[.int .u8 by_.toNat] 5)) (.slice (some ⟨x14.heap.size, 0, none⟩) 1 1) [by_] := own_one' byF_len x14 z14 by_ _ rfl
      generalize x14.alloc (.cells #[.int .u8 by_.toNat] 5) = e14 at *
      generalize x14.heap.size = g14 at *
      (refine Rg.tree_op rfl rfl ?_; intro x15 mx15 dx15)
      have N15 := (dx15.out 12 (by omega) (by kernel_rfl)).own _ _ HP1.out o12
      have R15 := ((dx15.out 14 (by omega) (by kernel_rfl)).own _ _ HPx.out N14).rd
      have z15 : NN ≤ x15.heap.size := HNN.out ▸ (K6.trans mx15).grown.size
      clear dx15
      go_wp2_with (at_builtin; refine app_keep elt_by one_by byF_len N15 R15 rfl hb4 hb5 z15 HP2.out (by rfl) _ _ (by rfl) (by rfl) (by rfl) ?_; intro v15 e15 o15 k15; have Hk15 := Lib.hid k15; clear k15)
      refine ⟨Hk15.out, ?_⟩
      obtain ⟨a15, c15, rfl⟩ := o15.shape
      clear N15 R15 z15 N14 Hk15
      (refine Rg.tree_nil ?_; intro zz mzz dzz czz)
      have o15z := (dzz.out 15 (by omega)).own _ _ HP3.out o15
      have KZ := K6.trans mzz
      have RBz := KZ.rd RB.out lB.out
      have RYz := KZ.rd RY.out lY.out
      have RZz := KZ.rd RZ.out lZ.out
      have RTz := RdL.take byF_len RYz (show jj ≤ Y.length by omega) c3
      have KW2 := grownBy_trans HKs.out (KZ.grown.back fun i hi => by have := HNN.out; omega)
      clear dzz czz mzz mx10 mx12 mx14 mx15 K6 KZ o12 o15 HP0 HP1 HP2 HP3 HPx lB lY lZ RB RY RZ zx10 z14 HKs
      have hc15 := o15z.cap
      have hc4 : Y.length ≤ c4 := hzcap.out
      have R5z := o15z.rd
      clear o15z
      generalize Y ++ [by_] = Y5 at *
      go_upto_region 18 with fail
      have NV := Blk.new zz #[.slice ba bl.length bc, .slice a3 Y.length c3, .slice (some ⟨zg, 0, none⟩) Y.length c4, .slice a3 jj c3, .slice a15 Y5.length c15] 40
      have GV := World.grownBy_alloc zz (.cells #[.slice ba bl.length bc, .slice a3 Y.length c3, .slice (some ⟨zg, 0, none⟩) Y.length c4, .slice a3 jj c3, .slice a15 Y5.length c15] 40) none
      have KV := Lib.hid (grownBy_trans KW2 GV)
      obtain ⟨vs, hvs⟩ : ∃ vs : List (Value × List UInt8), [(Value.slice ba bl.length bc, bl), (.slice a3 Y.length c3, Y), (.slice (some ⟨zg, 0, none⟩) Y.length c4, Y.set jj by_), (.slice a3 jj c3, Y.take jj), (.slice a15 Y5.length c15, Y5)] = vs := ⟨_, rfl⟩
      have HV := Lib.hid (show RdL sliF 1 (zz.alloc (.cells #[.slice ba bl.length bc, .slice a3 Y.length c3, .slice (some ⟨zg, 0, none⟩) Y.length c4, .slice a3 jj c3, .slice a15 Y5.length c15] 40)) (.slice (some ⟨zz.heap.size, 0, none⟩) 5 5) vs by
        have h := NV.many (f := sliF) (size := 1) (fun _ => rfl) vs (by rw [← hvs]; rfl) (by rw [← hvs]; simp)
        have e : vs.length = 5 := by rw [← hvs]; rfl
        rw [e] at h; exact h)
      have HVs := Lib.hid (show ∀ p ∈ vs, RdL byF 1 (zz.alloc (.cells #[.slice ba bl.length bc, .slice a3 Y.length c3, .slice (some ⟨zg, 0, none⟩) Y.length c4, .slice a3 jj c3, .slice a15 Y5.length c15] 40)) p.1 p.2 ∧ ∀ a n c, p.1 = .slice a n c → n ≤ c by
        intro p hp
        rw [← hvs] at hp
        simp only [List.mem_cons, List.not_mem_nil, or_false] at hp
        rcases hp with rfl | rfl | rfl | rfl | rfl
        · exact ⟨RBz.same GV, fun a n c e => by cases e; exact hbc⟩
        · exact ⟨RYz.same GV, fun a n c e => by cases e; exact hyc⟩
        · exact ⟨RZz.same GV, fun a n c e => by cases e; exact hc4⟩
        · exact ⟨RTz.same GV, fun a n c e => by cases e; omega⟩
        · exact ⟨R5z.same GV, fun a n c e => by cases e; exact hc15⟩)
      have HVl := Lib.hid (show vs.length = 5 by rw [← hvs]; rfl)
      clear hvs NV GV KW2 RBz RYz RZz RTz R5z hc15 hc4 hyc
      generalize zz.alloc (.cells #[.slice ba bl.length bc, .slice a3 Y.length c3, .slice (some ⟨zg, 0, none⟩) Y.length c4, .slice a3 jj c3, .slice a15 Y5.length c15] 40) = wv at *
      generalize zz.heap.size = gv at *
      go_loopw [119] (fun s119 wk => ∃ i : Nat, i ≤ 5 ∧ s119 = .int .i64 i ∧ wv.grownBy wk none) (fun s119 _ => 5 - (intOf s119).toNat)
      case atStart => exact ⟨0, by omega, rfl, grownBy_refl _ _⟩
      case round =>
        obtain ⟨i, hi, rfl, hg⟩ := hrel
        by_cases hlt : i < 5
        · have hil : i < vs.length := by rw [HVl.out]; exact hlt
          obtain ⟨gq, oq, cq, hv, hgq, hc⟩ := (HV.out.same hg).at_ (fun _ => rfl) hil
          rw [HVl.out] at hv
          cases hv
          have hc0 := hc 0 _ rfl
          rw [Nat.zero_add, Nat.mul_one, Nat.add_zero] at hc0
          obtain ⟨hr1, hr2⟩ := HVs.out _ (List.getElem_mem hil)
          generalize vs[i] = p at *
          obtain ⟨pv, pl⟩ := p
          dsimp only at hr1 hr2 hc0
          obtain ⟨pa, pc, rfl⟩ := hr1.shape
          have HD1 := Lib.hid fun w' (h : World.grownBy wr w' none) => (dec_c _ pl w' (hr1.same (grownBy_trans hg h)) hr2).mono fun e w'' h => h.rep
          have HD2 := Lib.hid fun w' (h : World.grownBy wr w' none) => (rdec_c _ pl w' (hr1.same (grownBy_trans hg h)) hr2).mono fun e w'' h => h.rep
          generalize decR pl = D at *
          generalize decE pl = E at *
          have hEE : (E != E) = false := by simp
          have hi0 : (0 : Int) ≤ (i : Int) := by omega
          have hi5 : (i : Int) < 5 := by omega
          have tokA := Lib.hid hi5
          clear hr1 hr2 hc hil
          go_wp2_with (first
            | (go_at_call 21; refine (HD1.out _ (grownBy_refl _ _)).mono ?_; rintro e wa2 ⟨vl1, vr1, rfl, L1, J1, ga2⟩; have ol1 := rd_oneCell L1; have oj1 := rd_oneCell J1)
            | (have _t := tokA; refine alloc_rep rfl rfl ?_; intro wb2 Ab2 gb2 zb2; clear tokA)
            | (refine store_rep rfl _ _ rfl _ rfl rfl ol1 oj1 _ rfl Ab2 ?_; intro wc2 Ac2 gc2; have Kc2 := grownBy_new gb2 gc2 (Nat.le_refl _); have L2 := L1.same Kc2; have J2 := J1.same Kc2; have Kd2 := grownBy_trans ga2 Kc2; clear Ab2 ol1 oj1)
            | (go_at_call 22; refine (HD2.out _ Kd2).mono ?_; rintro e we2 ⟨vl2, vr2, rfl, L3, J3, ge2⟩; have ol2 := rd_oneCell L3; have oj2 := rd_oneCell J3; have L4 := L2.same ge2; have J4 := J2.same ge2; have Ke2 := grownBy_trans Kd2 ge2; have Ae2 := Ac2.same ge2)
            | (refine alloc_rep rfl rfl ?_; intro wf2 Af2 gf2 zf2)
            | (refine store_rep rfl _ _ rfl _ rfl rfl ol2 oj2 _ rfl Af2 ?_; intro wg2 Ag2 gg2; have Kg2 := grownBy_new gf2 gg2 (Nat.le_refl _); have L5 := L3.same Kg2; have J5 := J3.same Kg2; have L6 := L4.same Kg2; have J6 := J4.same Kg2; have Kh2 := grownBy_trans Ke2 Kg2; have Ah2 := Ae2.same Kg2)
            | (refine load_rep rfl _ rfl _ rfl Ah2 ?_)
            | (refine load_rep rfl _ rfl _ rfl Ag2 ?_)
            | (go_at_call 23; refine (sameRep_c _ _ _ _ _ _ _ _ _ _ _ _ L6 J6 L5 J5).mono ?_; rintro e wi2 ⟨rfl, gi2⟩; have Ki2 := grownBy_trans Kh2 gi2))
          trace_state
          exact ⟨⟨i + 1, by omega, by go_num, grownBy_trans hg Ki2⟩, by simp [intOf]; omega⟩
        · go_wp2_with (go_at_call 13; refine (awake24_c _).mono ?_; rintro e w6 ⟨rfl, G6⟩)
          go_ret
          exact retBool rfl (grownBy_trans KV.out (grownBy_trans hg G6))
end Go.Proofs.Ytiagjiaahnkefaa

/- Arguments that come in: slices of ints and of words, read as lists. -/
namespace Go.Proofs.Ytiagjiaahnkefaa
open Go.RowKit

theorem IsRow.len_take {k : IntKind} {w : World} {a : Option Addr} {len cap : Nat} {zs : List Int} (h : IsRow k w a len cap zs) : (zs.take len).length = len := by
  rcases h with ⟨_, rfl, _, rfl⟩ | ⟨x, _, h1, _, h3, _⟩
  · rfl
  · rw [List.length_take]; omega
theorem IsRow.rdI {w : World} {a : Option Addr} {len cap : Nat} {zs : List Int} (h : IsRow .i64 w a len cap zs) : RdL intF 1 w (.slice a len cap) (zs.take len) := by
  have e := h.len_take
  have h2 := h.rd
  unfold RdL
  rw [e, show cellsOf intF (zs.take len) = _ from cells_int _]
  exact h2
theorem IsRow.rdW {w : World} {a : Option Addr} {len cap : Nat} {zs : List Int} (h : IsRow .u64 w a len cap zs) : RdL wordF 1 w (.slice a len cap) (zs.take len) := by
  have e := h.len_take
  have h2 := h.rd
  unfold RdL
  rw [e, show cellsOf wordF (zs.take len) = _ from cells_word _]
  exact h2
theorem IsRow.wf {k : IntKind} {w : World} {a : Option Addr} {len cap : Nat} {zs : List Int} (h : IsRow k w a len cap zs) : ∀ x ∈ zs.take len, (Lit.int k x).wf = true := by
  intro x hx
  rcases h with ⟨_, rfl, _, rfl⟩ | ⟨_, _, _, _, _, _, h5⟩
  · simp at hx
  · exact h5 x (List.mem_of_mem_take hx)
end Go.Proofs.Ytiagjiaahnkefaa

/- Arguments that come in, opened: structs of one-cell fields, slices of whatever elements; reports. -/
namespace Go.Proofs.Ytiagjiaahnkefaa
open Go.RowKit Go.WideShapes Go.ChangeShapes Go.Deep

section
variable {H : Type} {enc : TypeId × Value → H} {P : Program} {w : World} {base : Nat} {spare : Nat → Bool} {held : Bool}
theorem open_fields {t : TypeId} {fs : Array Field} {fuel : Nat} {cs : List Value} {x : DataW H × List MemPlace} (ht : P.underlying t = some (.struct fs)) (hone : oneCellFields P fs = true) (hC : P.cellsOf t = fs.size)
    (h : DataW.trod enc P w base spare held fuel t cs = some x) : cs.length = fs.size ∧ ∃ n, ∀ (i : Nat) (f : Field), fs[i]? = some f → ∃ c y, cs[i]? = some c ∧ DataW.trod enc P w base spare held n f.type [c] = some y := by
  obtain ⟨xs, n, _, _, hl, hlen, hf⟩ := DataW.trod_struct ht h
  refine ⟨hl.trans hC, n, fun i f hi => ?_⟩
  have hi2 : i < fs.size := (Array.getElem?_eq_some_iff.1 hi).1
  obtain ⟨o, k⟩ := hone_of hone i f hi
  have h1 := hf i f hi
  have hi3 : i < cs.length := by rw [hl, hC]; exact hi2
  have hi4 : i < xs.length := by rw [hlen]; exact hi2
  rw [o, k, List.getElem?_eq_getElem hi4] at h1
  have e : (cs.drop i).take 1 = [cs[i]] := by
    rw [List.take_one, List.head?_drop, List.getElem?_eq_getElem hi3]; rfl
  rw [e] at h1
  exact ⟨cs[i], xs[i], List.getElem?_eq_getElem hi3, h1⟩
theorem open_elems {α : Type} [Inhabited α] (f : α → List Value) (s : Nat) {t e : TypeId} (ht : P.underlying t = some (.slice e)) (hC : P.cellsOf e = s) (hpos : 0 < s) (hs : ∀ x, (f x).length = s) (Ok : α → Prop)
    (hel : ∀ n cs y, DataW.trod enc P w base spare held n e cs = some y → ∃ x, cs = f x ∧ Ok x) {fuel : Nat} {cs : List Value} {x : DataW H × List MemPlace} (h : DataW.trod enc P w base spare held fuel t cs = some x) :
    ∃ a len cap, ∃ l : List α, cs = [.slice a len cap] ∧ l.length = len ∧ len ≤ cap ∧ RdL f s w (.slice a len cap) l ∧ ∀ x ∈ l, Ok x := by
  rcases open_slice ht h with ⟨rfl, _⟩ | ⟨a, len, cap, m, n, D, Pl, rfl, _, hl, hm, hmm, _, hx⟩
  · exact ⟨none, 0, 0, [], rfl, rfl, Nat.le_refl _, ⟨by simp [cellsOf], by simp, .inl ⟨rfl, none, 0, rfl⟩⟩, by simp⟩
  · have hml : len ≤ m := by rw [hmm]; split <;> omega
    have hm63 : len ≤ 9223372036854775807 := by unfold maxLen at hm; omega
    obtain ⟨V, hV⟩ := choose_lt (α := α) (n := len) (p := fun i y => w.cells? base (a.add (i * P.cellsOf e)) (P.cellsOf e) = some (f y) ∧ Ok y) (fun i hi => by
      obtain ⟨cs', h1, h2⟩ := hx i (by omega)
      obtain ⟨y, rfl, hy⟩ := hel _ _ _ h2
      exact ⟨y, h1, hy⟩)
    have hlen : ((List.range len).map V).length = len := by simp
    refine ⟨some a, len, cap, (List.range len).map V, rfl, hlen, hl, ?_, fun y hy => ?_⟩
    · rcases Nat.eq_zero_or_pos len with h0 | h0
      · subst h0
        exact ⟨by simp [cellsOf], by simp, .inl ⟨by simp, some a, cap, by simp⟩⟩
      · obtain ⟨b, off, spot⟩ := a
        have hc0 := (World.cells?_some (hV 0 h0).1).2.2 0 (by rw [hC]; exact hpos)
        have hf0 : 0 < (f (V 0)).length := by rw [hs]; exact hpos
        rw [List.getElem?_eq_getElem hf0] at hc0
        cases spot with
        | some q =>
          exfalso
          unfold Addr.add at hc0
          simp [World.cell?] at hc0
          split at hc0 <;> simp_all
        | none =>
          have hadd : ∀ o i, (⟨b, o, none⟩ : Addr).add i = ⟨b, o + i, none⟩ := fun o i => by unfold Addr.add; split <;> simp_all
          refine ⟨length_cellsOf f s hs _, by rw [hlen]; exact hm63, .inr ⟨b, off, cap, by rw [hlen], ?_, fun j u hu => ?_⟩⟩
          · rw [hadd, hadd] at hc0
            exact block_lt_of_cell hc0
          · have hj : j < len * s := by
              have := (List.getElem?_eq_some_iff.1 hu).1
              rwa [length_cellsOf f s hs, hlen] at this
            have hq : j / s < len := Nat.div_lt_of_lt_mul (by rw [Nat.mul_comm]; exact hj)
            have hr : j % s < s := Nat.mod_lt _ hpos
            have he : j / s * s + j % s = j := Nat.div_add_mod' j s
            have h1 := (World.cells?_some (hV (j / s) hq).1).2.2 (j % s) (by rw [hC]; exact hr)
            rw [hadd, hadd, hC] at h1
            have h2 := get_cellsOf f s hs ((List.range len).map V) (j / s) (j % s) hr (V (j / s)) (by simp [hq])
            rw [he] at h2
            rw [← he, ← Nat.add_assoc, h1, ← h2, hu]
    · obtain ⟨i, hi, rfl⟩ := List.mem_map.1 hy
      exact (hV i (List.mem_range.1 hi)).2
/-- A slice of integers. -/
theorem open_elems_int {k : IntKind} {t e : TypeId} (ht : P.underlying t = some (.slice e)) (he : P.underlying e = some (.int k)) (hC : P.cellsOf e = 1) {fuel : Nat} {cs : List Value} {x : DataW H × List MemPlace} (h : DataW.trod enc P w base spare held fuel t cs = some x) :
    ∃ a len cap, ∃ l : List Int, cs = [.slice a len cap] ∧ l.length = len ∧ len ≤ cap ∧ RdL (fun n => [Value.int k n]) 1 w (.slice a len cap) l ∧ ∀ n ∈ l, (Lit.int k n).wf = true :=
  open_elems (fun n => [Value.int k n]) 1 ht hC (by omega) (fun _ => rfl) (fun n => (Lit.int k n).wf = true) (fun n cs y h => by obtain ⟨m, h1, _, h2⟩ := DataW.trod_int he h; exact ⟨m, h1, h2⟩) h
/-- A struct by value: its cells, one a field. -/
theorem open_agg {r : Reach} {b0 : Nat} {t : TypeId} {fs : Array Field} {v : Value} {d : DataW H} {p : List MemPlace} (ht : P.underlying t = some (.struct fs)) (hone : oneCellFields P fs = true) (hC : P.cellsOf t = fs.size)
    (hv : Value.okWide P w r b0 t v) (h : DataW.Trod enc P w base spare held t v d p) :
    ∃ cs : Array Value, v = .agg cs ∧ cs.size = fs.size ∧ ∃ n, ∀ (i : Nat) (f : Field), fs[i]? = some f → ∃ c y, cs[i]? = some c ∧ DataW.trod enc P w base spare held n f.type [c] = some y := by
  obtain ⟨cs, rfl, hsz⟩ := okWide_struct ht hv
  obtain ⟨fuel, hf⟩ := h
  obtain ⟨_, n, hh⟩ := open_fields ht hone hC hf
  exact ⟨cs, rfl, hsz.trans hC, n, fun i f hi => by obtain ⟨c, y, h1, h2⟩ := hh i f hi; exact ⟨c, y, by simpa [Value.cells] using h1, h2⟩⟩
theorem array7 {α : Type} {cs : Array α} (h : cs.size = 7) : ∃ a b c d e f g, cs = #[a, b, c, d, e, f, g] := by
  obtain ⟨l⟩ := cs
  match l, h with
  | [a, b, c, d, e, f, g], _ => exact ⟨a, b, c, d, e, f, g, rfl⟩
theorem list3 {α : Type} {l : List α} (h : l.length = 3) : ∃ a b c, l = [a, b, c] := by
  match l, h with
  | [a, b, c], _ => exact ⟨a, b, c, rfl⟩
end

theorem fields_lineO : ∃ fs, Try.prog.underlying 71 = some (.struct fs) ∧ oneCellFields Try.prog fs = true ∧ Try.prog.cellsOf 71 = fs.size ∧ fs.size = 3 ∧ (fs[0]?).map (·.type) = some 9 ∧ (fs[1]?).map (·.type) = some 22 ∧ (fs[2]?).map (·.type) = some 22 :=
  ⟨_, Try.underlying71, by kernel_rfl, by kernel_rfl, rfl, rfl, rfl, rfl⟩
theorem fields_rep : ∃ fs, Try.prog.underlying 26 = some (.struct fs) ∧ oneCellFields Try.prog fs = true ∧ Try.prog.cellsOf 26 = fs.size ∧ fs.size = 7 ∧ (fs[0]?).map (·.type) = some 3 ∧ (fs[1]?).map (·.type) = some 22 ∧ (fs[2]?).map (·.type) = some 23 ∧
    (fs[3]?).map (·.type) = some 22 ∧ (fs[4]?).map (·.type) = some 3 ∧ (fs[5]?).map (·.type) = some 22 ∧ (fs[6]?).map (·.type) = some 24 :=
  ⟨_, Try.underlying26, by kernel_rfl, by kernel_rfl, rfl, rfl, rfl, rfl, rfl, rfl, rfl, rfl⟩
theorem maxLen_lt {n : Nat} (h : n ≤ maxLen) : n ≤ 9223372036854775807 := by unfold maxLen at h; omega
section
variable {H : Type} {enc : TypeId × Value → H} {w : World} {base : Nat} {spare : Nat → Bool} {held : Bool}
instance : Inhabited Ln := ⟨⟨ByteArray.empty, 0, 0⟩⟩
theorem some_map {α β : Type} {o : Option α} {g : α → β} {b : β} (h : o.map g = some b) : ∃ x, o = some x ∧ g x = b := by
  cases o with
  | none => cases h
  | some x => exact ⟨x, rfl, by simpa using h⟩
theorem open_line {n : Nat} {cs : List Value} {y : DataW H × List MemPlace} (h : DataW.trod enc Try.prog w base spare held n 71 cs = some y) : ∃ x : Ln, cs = lnF x ∧ LnW x := by
  obtain ⟨fs, h1, h2, h3, h4, f0, f1, f2⟩ := fields_lineO
  obtain ⟨hl, m, hf⟩ := open_fields h1 h2 h3 h
  obtain ⟨a, b, c, rfl⟩ := list3 (hl.trans h4)
  obtain ⟨g0, e0, t0⟩ := some_map f0
  obtain ⟨g1, e1, t1⟩ := some_map f1
  obtain ⟨g2, e2, t2⟩ := some_map f2
  obtain ⟨c0, y0, k0, r0⟩ := hf 0 g0 e0
  obtain ⟨c1, y1, k1, r1⟩ := hf 1 g1 e1
  obtain ⟨c2, y2, k2, r2⟩ := hf 2 g2 e2
  simp at k0 k1 k2
  subst k0 k1 k2
  rw [t0] at r0; rw [t1] at r1; rw [t2] at r2
  obtain ⟨s, q0, _, s0⟩ := DataW.trod_string Try.underlying9 r0
  obtain ⟨lo, q1, _, s1⟩ := DataW.trod_int Try.underlying22 r1
  obtain ⟨hi, q2, _, s2⟩ := DataW.trod_int Try.underlying22 r2
  simp at q0 q1 q2
  subst q0 q1 q2
  exact ⟨⟨s, lo, hi⟩, rfl, w64_wf s1, w64_wf s2, maxLen_lt s0⟩
-- A report that came in.
set_option maxRecDepth 100000 in
theorem open_rep {r : Reach} {b0 : Nat} {v : Value} {d : DataW H} {p : List MemPlace} (hv : Value.okWide Try.prog w r b0 26 v) (h : DataW.Trod enc Try.prog w base spare held 26 v d p) :
    ∃ x : Rep, v = repV x.win x.tot x.vl x.over x.trk x.rest x.vr ∧ RepRd w x ∧ RepW x := by
  obtain ⟨fs, h1, h2, h3, h4, f0, f1, f2, f3, f4, f5, f6⟩ := fields_rep
  obtain ⟨cs, rfl, hl, m, hf⟩ := open_agg h1 h2 h3 hv h
  obtain ⟨a0, a1, a2, a3, a4, a5, a6, rfl⟩ := array7 (hl.trans h4)
  obtain ⟨g0, e0, t0⟩ := some_map f0
  obtain ⟨g1, e1, t1⟩ := some_map f1
  obtain ⟨g2, e2, t2⟩ := some_map f2
  obtain ⟨g3, e3, t3⟩ := some_map f3
  obtain ⟨g4, e4, t4⟩ := some_map f4
  obtain ⟨g5, e5, t5⟩ := some_map f5
  obtain ⟨g6, e6, t6⟩ := some_map f6
  obtain ⟨c0, y0, k0, r0⟩ := hf 0 g0 e0
  obtain ⟨c1, y1, k1, r1⟩ := hf 1 g1 e1
  obtain ⟨c2, y2, k2, r2⟩ := hf 2 g2 e2
  obtain ⟨c3, y3, k3, r3⟩ := hf 3 g3 e3
  obtain ⟨c4, y4, k4, r4⟩ := hf 4 g4 e4
  obtain ⟨c5, y5, k5, r5⟩ := hf 5 g5 e5
  obtain ⟨c6, y6, k6, r6⟩ := hf 6 g6 e6
  clear hf
  simp at k0 k1 k2 k3 k4 k5 k6
  subst k0 k1 k2 k3 k4 k5 k6
  rw [t0] at r0; rw [t1] at r1; rw [t2] at r2; rw [t3] at r3; rw [t4] at r4; rw [t5] at r5; rw [t6] at r6
  obtain ⟨win, q0, _, s0⟩ := DataW.trod_int Try.underlying3 r0
  obtain ⟨tot, q1, _, s1⟩ := DataW.trod_int Try.underlying22 r1
  obtain ⟨la, ln, lc, ls, q2, hln, hlc, hlr, hlw⟩ := open_elems lnF 3 Try.underlying23 (by kernel_rfl) (by omega) lnF_len LnW (fun n cs y h => open_line h) r2
  obtain ⟨ov, q3, _, s3⟩ := DataW.trod_int Try.underlying22 r3
  obtain ⟨trk, q4, _, s4⟩ := DataW.trod_int Try.underlying3 r4
  obtain ⟨rst, q5, _, s5⟩ := DataW.trod_int Try.underlying22 r5
  obtain ⟨ra, rn, rc, rj, q6, hrn, hrc, hrr, hrw⟩ := open_elems_int (k := .u64) Try.underlying24 Try.underlying22 (by kernel_rfl) r6
  simp at q0 q1 q2 q3 q4 q5 q6
  subst q0 q1 q2 q3 q4 q5 q6
  refine ⟨⟨win, tot, _, ov, trk, rst, _, ls, rj⟩, rfl, ⟨hlr, hrr, fun a n c e => by cases e; exact hlc, fun a n c e => by cases e; exact hrc⟩, ?_, w64_wf s1, w64_wf s3, ?_, w64_wf s5, hlw, fun n hn => w64_wf (hrw n hn)⟩
  · have := bounds_i64 s0; unfold I64; simp only; omega
  · have := bounds_i64 s4; unfold I64; simp only; omega
end
end Go.Proofs.Ytiagjiaahnkefaa

/- Bytes that come in, opened. -/
namespace Go.Proofs.Ytiagjiaahnkefaa
open Go.RowKit Go.WideShapes Go.ChangeShapes Go.Deep

theorem byte_of {n : Int} (h : (Lit.int .u8 n).wf = true) : ∃ b : UInt8, n = (b.toNat : Int) := by
  have := bounds_u8 h
  exact ⟨UInt8.ofNat n.toNat, by rw [UInt8.toNat_ofNat']; omega⟩
section
variable {H : Type} {enc : TypeId × Value → H} {P : Program} {w : World} {base : Nat} {spare : Nat → Bool} {held : Bool}
theorem open_bytes {t e : TypeId} (ht : P.underlying t = some (.slice e)) (he : P.underlying e = some (.int .u8)) (hC : P.cellsOf e = 1) {fuel : Nat} {cs : List Value} {x : DataW H × List MemPlace} (h : DataW.trod enc P w base spare held fuel t cs = some x) :
    ∃ a len cap, ∃ l : List UInt8, cs = [.slice a len cap] ∧ l.length = len ∧ len ≤ cap ∧ RdL byF 1 w (.slice a len cap) l := by
  obtain ⟨a, len, cap, l, h1, h2, h3, h4, _⟩ := open_elems byF 1 ht hC (by omega) byF_len (fun _ => True) (fun n cs y h => by obtain ⟨m, h1, _, h2⟩ := DataW.trod_int he h; obtain ⟨b, rfl⟩ := byte_of h2; exact ⟨b, h1, trivial⟩) h
  exact ⟨a, len, cap, l, h1, h2, h3, h4⟩
end
end Go.Proofs.Ytiagjiaahnkefaa
