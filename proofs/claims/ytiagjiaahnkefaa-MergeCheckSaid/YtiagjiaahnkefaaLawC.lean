/- The walk of the law MergeContains. -/
import Derived.Test.YtiagjiaahnkefaaLaw22
import Derived.Test.YtiagjiaahnkefaaArgs
import Derived.Test.YtiagjiaahnkefaaLawO
namespace Go.Proofs.Ytiagjiaahnkefaa
open Go.RowKit
attribute [local go_sem ↓] exec_load_cfg
attribute [local go_sem] run_loadCfgS

def u16F (n : Int) : List Value := [.int .u16 n]
theorem u16_one (x : Int) : u16F x = [Value.int .u16 x] := rfl

set_option maxHeartbeats 600000 in
set_option maxRecDepth 100000 in
theorem contains_w (sv pv wv : Value) (xs P W : List Int) (n : Nat) (key : ByteArray) (w : World) (hsv : Rd w 1 sv n (xs.map (fun x => Value.int .i64 x))) (hpv : RdL intF 1 w pv P) (hwv : RdL u16F 1 w wv W) (hW : ∀ x ∈ W, 0 ≤ x ∧ x < 65536) :
    Calls Try.prog 7 #[sv, pv, wv, .string key] w (RetBool true w) := by
  have HS := Lib.hid hsv
  have HP := Lib.hid hpv
  obtain ⟨sa, sc, rfl⟩ := hsv.shape
  obtain ⟨pa, pc, rfl⟩ := hpv.shape
  obtain ⟨wa, wc, rfl⟩ := hwv.shape
  have HW := Lib.hid hwv
  have HW16 := Lib.hid hW
  have hwm := hwv.2.1
  clear hsv hpv hwv hW
  by_cases hk : 300 < key.size
  · go_enter Try.func7, Try.ntmps7
    go_wp2_with (go_at_call 27; refine (awake_c _).mono ?_; rintro e w6 ⟨rfl, G6⟩)
    go_ret
    exact retBool rfl G6
  · have hk2 : (key.size : Int) ≤ 300 := by omega
    go_enter Try.func7, Try.ntmps7
    go_upto_region 6 with (first | (go_at_call 28; refine (new_c _ _ _ _ HS.out).mono ?_; rintro e w1 ⟨rfl, D1, G1⟩) | (go_at_call 29; refine (config2_c _ _ D1 (Nat.le_refl _)).mono ?_; rintro e w2 ⟨c, lc, t, rfl, N2, M2, D2, G2, T2, C2⟩; have z12 := G2.size; replace G2 := grownBy_new G1 G2 (Nat.le_refl _); have oc1 := M2.one1; have oc2 := M2.one2) | (refine alloc_cfg rfl rfl ?_; intro w3 B3 G3 z3) | (refine store_cfg rfl _ _ rfl _ rfl c rfl oc1 oc2 Cfg.zero (by assumption) ?_; intro w4 B4 G4; have D4 := D2.kept (grownBy_new G3 G4 (Nat.le_refl _)) (by simp); have M4 := M2.same (grownBy_new G3 G4 (Nat.le_refl _)); have z14 := Nat.le_trans z12 (grownBy_new G3 G4 (Nat.le_refl _)).size; replace G4 := grownBy_new (grownBy_trans G2 G3) G4 G2.size) | (refine load_cfg rfl _ rfl _ rfl c (by assumption) ?_) | (go_at_call 30; refine (dsums_c _ c _ D4 z14 ⟨N2.shards.1, by have := N2.shards.2; omega⟩ ⟨by have := N2.depth.1; omega, by have := N2.depth.2; omega⟩ ⟨by have := N2.width.1; omega, by have := N2.width.2; omega⟩).mono ?_; rintro e w5 ⟨lv, l, rfl, S5, hl5, D5, G5⟩; have F5 : Few c lc t lv l w5 := ⟨N2, M4.off G5 (fun k e => by cases e; exact D1.below) T2 C2, S5.rd, fun s hs => (S5.all s hs).2.2.1, hl5⟩; have B5 := B4.kept G5 (by have := D1.below; simp; omega); have K5 := grownBy_new G4 G5 (Nat.le_refl _)))
    obtain ⟨la, lcp, rfl⟩ := F5.sums.rd.shape
    have hsh := N2.shards
    have hspr := N2.spread
    have hlm := F5.sums.rd.2.1
    have HF := Lib.hid F5
    have Hlen := Lib.hid hl5
    clear S5 hl5 D5 G5 F5 B4 D4 M4 z14 G4 oc1 oc2 B3 G3 z3 M2 D2 T2 C2 z12 G2 D1 G1 N2
    generalize w2.heap.size = cb at *
    go_upto_region 7 with fail
    have B6 := B5.same (World.grownBy_alloc w5 (.cells #[.string key, .string ⟨#[98]⟩, .string ⟨#[100]⟩] 9) none)
    have Z6 := Blk.new w5 #[.string key, .string ⟨#[98]⟩, .string ⟨#[100]⟩] 9
    have K6 := grownBy_new_block K5 (.cells #[.string key, .string ⟨#[98]⟩, .string ⟨#[100]⟩] 9)
    have F6 := Lib.hid (HF.out.same (World.grownBy_alloc w5 (.cells #[.string key, .string ⟨#[98]⟩, .string ⟨#[100]⟩] 9) none))
    have P6 := Lib.hid (RdL.same HP.out K6)
    have W6 := Lib.hid (RdL.same HW.out K6)
    clear HF HP HW K5 B5 HS
    generalize w5.alloc (.cells #[.string key, .string ⟨#[98]⟩, .string ⟨#[100]⟩] 9) = w6 at *
    generalize w5.heap.size = kb at *
    go_loopw [35] (fun s35 wk => ∃ j : Nat, j ≤ 3 ∧ s35 = .int .i64 j ∧ w6.grownBy wk none) (fun s35 _ => 3 - (intOf s35).toNat)
    case atStart => exact ⟨0, by omega, rfl, grownBy_refl _ _⟩
    case round =>
      obtain ⟨j, hj, rfl, hg⟩ := hrel
      have F7 := Lib.hid (F6.out.same hg)
      have P7 := Lib.hid (P6.out.same hg)
      have W7 := Lib.hid (W6.out.same hg)
      have B7 := B6.same hg
      have Z7 := Z6.same hg
      by_cases hjl : j < 3
      · obtain ⟨kk, hkk, hks⟩ : ∃ kk : ByteArray, wr.cell? ⟨kb, j, none⟩ = some (.string kk) ∧ kk.size ≤ 300 := by
          rw [Z7.cell j]
          have : j = 0 ∨ j = 1 ∨ j = 2 := by omega
          rcases this with rfl | rfl | rfl
          · exact ⟨key, rfl, by omega⟩
          · exact ⟨⟨#[98]⟩, rfl, by show 1 ≤ 300; omega⟩
          · exact ⟨⟨#[100]⟩, rfl, by show 1 ≤ 300; omega⟩
        have hc1 := Lib.hid fun w' (h : wr.grownBy w' none) => set_c c t kk w' (F7.out.same h).rcfg (by omega)
        have hLb : ∀ x ∈ setF c t kk, 0 ≤ x ∧ x < c.Shards := setN_in hsh.1
        have hLl : (setF c t kk).length = c.Spread.toNat := setN_len _ _ _
        have hall := Lib.hid (lineF_all (t := t) (k := kk) hsh.1 Hlen.out)
        generalize setF c t kk = L at *
        have HLb := Lib.hid hLb
        have HLl := Lib.hid hLl
        clear hLb hLl
        go_upto_region 11 with (first | (refine load_cfg rfl _ rfl _ rfl c (by assumption) ?_) | (go_at_call 31; refine (hc1.out _ (grownBy_refl _ _)).mono ?_; rintro e w7 ⟨v7, rfl, R7, G7⟩; obtain ⟨oa, oc, rfl⟩ := R7.shape))
        have B8 := B7.same G7
        have R8 := Lib.hid R7
        have hLm := R7.2.1
        clear R7 B7 hc1
        go_loopw [14, 43] (fun s14 s43 wk => ∃ (m : Nat) (f : Int), m ≤ L.length ∧ s43 = .int .i64 m ∧ s14 = .int .u64 f ∧ Mid c t l kk (L.take m) f ∧ w7.grownBy wk none) (fun _ s43 _ => L.length - (intOf s43).toNat)
        case atStart => exact ⟨0, 0, Nat.zero_le _, rfl, rfl, Mid.nil _ _ _ _, grownBy_refl _ _⟩
        case round =>
          obtain ⟨m, f, hm, rfl, rfl, hMid, hg2⟩ := hrel
          have HM := Lib.hid hMid
          clear hMid
          have B9 := B8.same hg2
          have F8 := F7.out.same (grownBy_trans G7 hg2)
          have W8 := W7.out.same (grownBy_trans G7 hg2)
          by_cases hml : m < L.length
          · obtain ⟨gx, ox, cx, hv, hgx, cx0⟩ := (R8.out.same hg2).one int_one hml
            cases hv
            obtain ⟨hx0, hx1⟩ := HLb.out L[m] (List.getElem_mem hml)
            obtain ⟨i, hi⟩ : ∃ i : Nat, L[m] = i := ⟨L[m].toNat, by omega⟩
            have hil : i < l.length := by have := Hlen.out; omega
            have hil2 : (i : Int) < (l.length : Int) := by omega
            have hi0 : (0 : Int) ≤ (i : Int) := by omega
            have hts := Lib.hid (show L.take (m + 1) = L.take m ++ [(i : Int)] by rw [take_succ hml, hi])
            rw [hi] at cx0
            have HS9 := Lib.hid fun (w' : World) (h : _root_.Go.World.grownBy wr w' none) => (F8.same h).sums.at_ hil
            have hmem := List.getElem_mem hil
            obtain ⟨_, _, _, _, _, _, _, _, _, hR, hWs⟩ := F8.sums.at_ hil
            have hV : boundsV c t l[i] kk = .tuple #[bndV (bP c t l kk i).1 (bP c t l kk i).2, .bool (bndHas l[i].es kk)] := by rw [bP_get hil]; rfl
            have hbn := Lib.hid fun w' (h : _root_.Go.World.grownBy wr w' none) => bounds_c c t l[i] kk w' (F8.rcfg.same h) (hR.same h) hWs (F8.ok.rows _ hmem) (F8.ok.len _ hmem) (by omega)
            obtain ⟨hc1, hc2⟩ := bP_cap (t := t) (k := kk) hil (F8.good _ hmem) hsh.1
            obtain ⟨hw1, hw2⟩ := bP_w (c := c) (t := t) F8.ok kk (i : Int)
            have hsn := Lib.hid fun x h1 h2 h0 => HM.out.snoc (x := x) hil (F8.good _ hmem) hsh.1 (by have := HLl.out; rw [List.length_take]; omega) h1 h2 h0
            rw [hV] at hbn
            have hf0 := HM.out.pos
            generalize (bP c t l kk ↑i).1 = lo at *
            generalize (bP c t l kk ↑i).2 = hi2 at *
            generalize bndHas l[i].es kk = bh at *
            clear hi hx0 hx1 hV hmem hR hWs
            generalize l[i] = s at *
            unfold W64 at hw1 hw2
            have hcap := (hsn.out hi2 hc1 (Int.le_refl _) hw2.1).2
            go_upto_region 15 with fail
            have B10 := B9.same (w' := wr.drew) (by (repeat (first | exact grownBy_refl _ _ | assumption | refine grownBy_new_block ?_ _ | refine grownBy_drew ?_ | refine grownBy_drewN ?_ _ | refine grownBy_setNew ?_ (by first | (simp; done) | omega | (simp; omega)) _)))
            (refine Rg.wp_region_rgZ 11 #[false, false, false, false, false, false, false, false, false, true] (fun w w' => World.grownBy w w' none) (fun _ _ w v w' => v = .tuple #[bndV lo hi2, .bool bh] ∧ World.grownBy w w' none) (by kernel_rfl) (by kernel_rfl) (fun w => grownBy_refl w none) (fun _ _ _ h k => grownBy_trans h k) (fun _ _ _ _ _ h => h) ?_; simp only [List.take, List.drop])
            have hG10 : World.grownBy wr wr.drew none := (by (repeat (first | exact grownBy_refl _ _ | assumption | refine grownBy_new_block ?_ _ | refine grownBy_drew ?_ | refine grownBy_drewN ?_ _ | refine grownBy_setNew ?_ (by first | (simp; done) | omega | (simp; omega)) _)))
            generalize wr.drew = w10 at *
            (refine Rg.tree_op rfl rfl ?_; intro w11 mw11 dw11)
            clear dw11
            have B11 := B10.same mw11
            go_wp2_with (refine load_cfg rfl _ rfl _ rfl c (by assumption) ?_)
            refine ⟨grownBy_refl _ _, ?_⟩
            clear B11
            (refine Rg.tree_quiet 3 rfl (by first | exact Or.inl rfl | exact Or.inr rfl) ?_; simp only [List.take, List.drop, List.length_cons, List.length_nil, List.replicate, Nat.reduceAdd]; (try simp only [List.cons_append]); (try simp only [List.nil_append]); (repeat (go_big_quiet_step (fail))); refine wpQuiet_nil ?_)
            (refine Rg.tree_op rfl rfl ?_; intro w12 mw12 dw12)
            clear dw12
            obtain ⟨ga, oa2, ca2, hva, hga, s0, s1, s2, s3, _, _⟩ := HS9.out w12 (grownBy_trans hG10 mw12)
            cases hva
            go_wp2_with fail
            refine ⟨grownBy_refl _ _, ?_⟩
            clear s0 s1 s2 s3 hga
            (refine Rg.tree_quiet 1 rfl (by first | exact Or.inl rfl | exact Or.inr rfl) ?_; simp only [List.take, List.drop, List.length_cons, List.length_nil, List.replicate, Nat.reduceAdd]; (try simp only [List.cons_append]); (try simp only [List.nil_append]); (repeat (go_big_quiet_step (fail))); refine wpQuiet_nil ?_)
            (refine Rg.tree_call rfl rfl rfl ?_; intro w13 mw13 dw13; refine ⟨?_, ?_⟩; · (unfold Rg.callSpec; go_simp; (refine (hbn.out w13 (grownBy_trans hG10 mw13)).mono ?_; rintro e w' ⟨rfl, h⟩; exact ⟨_, rfl, rfl, h⟩)))
            clear dw13
            rintro v w13' ⟨hv, G13⟩
            subst hv
            refine ⟨G13, ?_⟩
            simp only [Act.put, List.setIfInBounds_toArray, List.set_cons_zero, List.set_cons_succ]
            (refine Rg.tree_quiet 3 rfl (by first | exact Or.inl rfl | exact Or.inr rfl) ?_; simp only [List.take, List.drop, List.length_cons, List.length_nil, List.replicate, Nat.reduceAdd]; (try simp only [List.cons_append]); (try simp only [List.nil_append]); (repeat (go_big_quiet_step (fail))); refine wpQuiet_nil ?_)
            (refine Rg.tree_op rfl rfl ?_; intro w14 mw14 dw14)
            clear dw14
            go_wp2_with fail
            refine ⟨World.grownBy_alloc _ _ _, ?_⟩
            have A14 := Blk.new w14 #[.int .u64 0, .int .u64 0] 62
            have L14 : w10.heap.size ≤ w14.heap.size := mw14.size
            generalize w14.alloc (.cells #[.int .u64 0, .int .u64 0] 62) = e14 at *
            generalize w14.heap.size = gb at *
            (refine Rg.tree_nil ?_; intro w15 mw15 dw15 cw15)
            have A15 := A14.same (dw15.out 10 (by omega))
            have K15 := grownBy_trans hG10 mw15
            have hgb : wr.heap.size ≤ gb := Nat.le_trans hG10.size L14
            clear dw15 cw15 mw15 mw14 mw13 mw12 mw11 G13 A14 L14 hG10 B10 HS9 hbn
            have a15 := A15.cell
            have f15 := A15.free
            go_upto_region 17 with fail
            have A16 : Blk ((w15.setCell ⟨gb, 0, none⟩ (.int .u64 lo)).setCell ⟨gb, 1, none⟩ (.int .u64 hi2)) gb #[.int .u64 lo, .int .u64 hi2] := (A15.set_ 0 _ rfl).set_ 1 _ rfl
            have K16 : World.grownBy wr ((w15.setCell ⟨gb, 0, none⟩ (.int .u64 lo)).setCell ⟨gb, 1, none⟩ (.int .u64 hi2)) none := grownBy_setNew (grownBy_setNew K15 hgb _) hgb _
            generalize (w15.setCell ⟨gb, 0, none⟩ (.int .u64 lo)).setCell ⟨gb, 1, none⟩ (.int .u64 hi2) = w16 at *
            clear a15 f15 A15 K15
            have a16 := A16.cell
            have hcap2 : ∀ x : Int, x ≤ hi2 → 0 ≤ x → f + x ≤ 4611686018427387904 := fun x h1 h2 => by omega
            have Hcap2 := Lib.hid hcap2
            clear hcap2
            by_cases hwi : i < W.length
            · by_cases hlh : lo < hi2
              · obtain ⟨gw, ow, cw, hvw, hgw, cw0⟩ := (W8.same K16).one u16_one hwi
                cases hvw
                obtain ⟨hx0, hx1⟩ := HW16.out W[i] (List.getElem_mem hwi)
                generalize W[i] = x at *
                have hwi2 : (i : Int) < (W.length : Int) := by omega
                have hz1 : (hi2 - lo + 1 == 0) = false := beq_eq_false_iff_ne.2 (by omega)
                have hz2 : ¬ (hi2 - lo + 1 = 0) := by omega
                have htm : x.tmod (hi2 - lo + 1) = x % (hi2 - lo + 1) := Int.tmod_eq_emod_of_nonneg hx0
                have hm0 : 0 ≤ x % (hi2 - lo + 1) := Int.emod_nonneg x hz2
                have hm1 : x % (hi2 - lo + 1) < hi2 - lo + 1 := Int.emod_lt_of_pos x (by omega)
                have hcp := Hcap2.out (lo + x % (hi2 - lo + 1)) (by omega) (by omega)
                go_upto_region 18 with fail
                go_quiet (fail)
                go_wp2_with fail
                generalize x % (hi2 - lo + 1) = q at *
                exact ⟨⟨m + 1, f + (lo + q), by omega, by go_num, rfl, by rw [hts.out]; exact (hsn.out _ (by omega) (by omega) (by omega)).1, grownBy_trans hg2 (grownBy_drewN K16 _)⟩, by simp [intOf]; omega⟩
              · have hcp := Hcap2.out lo (by omega) (by omega)
                have hwi2 : (i : Int) < (W.length : Int) := by omega
                go_wp2_with fail
                exact ⟨⟨m + 1, f + lo, by omega, by go_num, rfl, by rw [hts.out]; exact (hsn.out _ (by omega) (by omega) (by omega)).1, grownBy_trans hg2 K16⟩, by simp [intOf]; omega⟩
            · have hcp := Hcap2.out lo (by omega) (by omega)
              go_wp2_with fail
              exact ⟨⟨m + 1, f + lo, by omega, by go_num, rfl, by rw [hts.out]; exact (hsn.out _ (by omega) (by omega) (by omega)).1, grownBy_trans hg2 K16⟩, by simp [intOf]; omega⟩
          · have hl : L.take m = L := List.take_of_length_le (by omega)
            have hM2 := HM.out
            rw [hl] at hM2
            have hln := Lib.hid fun (w' : World) (h : World.grownBy wr w' none) => line_c c t _ l kk _ P w' (F8.rcfg.same h) (F8.sums.same h) F8.ok (RdL.same P7.out (grownBy_trans G7 (grownBy_trans hg2 h))) (by omega)
            rw [hall.out] at hln
            have h1 := hM2.lo
            have h2 := hM2.hi
            generalize (foldB c t l kk L).1 = lo at *
            generalize (foldB c t l kk L).2 = hi2 at *
            clear hl hM2 HM
            go_wp2_with (first | (refine load_cfg rfl _ rfl _ rfl c (by assumption) ?_) | (go_at_call 33; refine (hln.out _ (grownBy_refl _ _)).mono ?_; rintro e w8 ⟨rfl, G8⟩))
            exact ⟨⟨j + 1, by omega, by go_num, grownBy_new_block (grownBy_trans hg (grownBy_trans G7 (grownBy_trans hg2 G8))) _⟩, by simp [intOf]; omega⟩
      · go_wp2_with (go_at_call 27; refine (awake_c _).mono ?_; rintro e w6 ⟨rfl, G6⟩)
        go_ret
        exact retBool rfl (grownBy_trans K6 (grownBy_trans hg G6))
theorem IsRow.rd16 {w : World} {a : Option Addr} {len cap : Nat} {zs : List Int} (h : IsRow .u16 w a len cap zs) : RdL u16F 1 w (.slice a len cap) (zs.take len) ∧ ∀ x ∈ zs.take len, 0 ≤ x ∧ x < 65536 := by
  have e : (zs.take len).length = len := by
    rcases h with ⟨_, rfl, _, rfl⟩ | ⟨x, _, h1, _, h3, _⟩
    · rfl
    · rw [List.length_take]; omega
  have hc : ∀ l : List Int, cellsOf u16F l = l.map (fun x => Value.int .u16 x) := fun l => by
    induction l with
    | nil => rfl
    | cons x l ih => simp only [cellsOf, List.flatMap_cons, List.map_cons] at *; rw [ih]; rfl
  refine ⟨by
    have h2 := h.rd
    unfold RdL
    rw [e, hc]
    exact h2, fun x hx => ?_⟩
  rcases h with ⟨_, rfl, _, rfl⟩ | ⟨_, _, _, _, _, _, h5⟩
  · simp at hx
  · have := h5 x (List.mem_of_mem_take hx)
    simp only [Lit.wf, Bool.and_eq_true, decide_eq_true_eq] at this
    have h6 : IntKind.u16.min = 0 := by decide
    have h7 : IntKind.u16.max = 65535 := by decide
    omega
end Go.Proofs.Ytiagjiaahnkefaa
