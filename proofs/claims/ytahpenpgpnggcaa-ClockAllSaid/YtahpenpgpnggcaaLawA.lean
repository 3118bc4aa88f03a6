/- The walk of the law ClockAll. -/
import Derived.Test.YtahpenpgpnggcaaLaw25
import Derived.Test.YtahpenpgpnggcaaBlk
import Derived.Deep.MidRow
namespace Go.Proofs.Ytahpenpgpnggcaa
open Go.RowKit
attribute [local go_sem ↓] exec_load_cfg
attribute [local go_sem] run_loadCfgS

theorem newRd (w : World) {cs : Array Value} (t : TypeId) {l : List Int} (hcs : cs = (l.map (fun x => Value.int .i64 x)).toArray) (hl : l.length ≤ 9223372036854775807) (c : Nat) : RdL intF 1 (w.alloc (.cells cs t)) (.slice (some ⟨w.heap.size, 0, none⟩) l.length c) l :=
  ⟨length_cellsOf _ 1 intF_len _, hl, .inr ⟨w.heap.size, 0, c, rfl, by simp, fun j u hu => by
    rw [show cellsOf intF l = l.map (fun x => Value.int .i64 x) from cells_int l] at hu
    rw [Nat.zero_add, (Blk.new w cs t).cell, hcs]; simpa using hu⟩⟩
def timesF (n : Int) : List Int := [n, bits .and .i64 n 1023, bits .and .i64 n 1099511627775, 0, 1099511627776]
def RetInts (l : List Int) (w : World) (e : Ending) (w' : World) : Prop := ∃ v, e = .returned v ∧ RdL intF 1 w' v l ∧ w.grownBy w' none
theorem times_c (n : Int) (w : World) : Calls Try.prog 14 #[.int .i64 n] w (RetInts (timesF n) w) := by
  go_enter Try.func14, Try.ntmps14
  go_wp2
  go_ret
  exact ⟨_, rfl, newRd w _ (l := timesF n) rfl (show 5 ≤ 9223372036854775807 by decide) 5, World.grownBy_alloc _ _ _⟩

theorem load_cfg_mid {ops : Array Oper} {rest : List Oper} {o : Oper} {a : Act} {w : World} {Q : Exit → Act → World → Prop} (hgd : o.guard = none) (x : Operand) (ho : o.op = .load 28 x)
    (b f : Nat) (hx : a.eval x = .pointer (some ⟨b, f, none⟩)) (c : Cfg) (hb : w.rangeAt b f c.arr.toList) (h : wpList Try.prog ops Q rest (a.put o.dst c.val) w) : wpList Try.prog ops Q (o :: rest) a w :=
  wpList_load_mid hgd _ x ho b f hx c.arr.toList _ hb Try.underlying28 rfl size_cfg h
def mkC (x y z : Int) : Cfg := ⟨x, y, z, 0, 0, 0, 0, 0, 0, 0, 0, 0, 0, 0, .slice none 0 0, .slice none 0 0, 0⟩
theorem range3 {w : World} {g : Nat} {c1 c2 c3 : Cfg} (h : Blk w g (c1.arr ++ c2.arr ++ c3.arr)) (i : Nat) (hi : i < 3) : w.rangeAt g (i * 17) ([c1, c2, c3][i]).arr.toList := by
  intro j v hv
  rw [h.cell]
  have hj : j < 17 := by
    have := (List.getElem?_eq_some_iff.1 hv).1
    match i, hi with
    | 0, _ => exact this
    | 1, _ => exact this
    | 2, _ => exact this
  match i, hi with
  | 0, _ => rw [Array.getElem?_append_left (by simp; omega), Array.getElem?_append_left (by simp; omega)]; simpa using hv
  | 1, _ => rw [Array.getElem?_append_left (by simp; omega), Array.getElem?_append_right (by simp)]; simpa using hv
  | 2, _ => rw [Array.getElem?_append_right (by simp)]; simpa using hv

theorem arr3 (c : Cfg) (x y z x3 y3 z3 : Int) : (#[.int .i64 c.Length, .int .i64 c.Lateness, .int .i64 c.Windows, .int .i64 c.Shards, .int .i64 c.Spread, .int .i64 c.Queue, .int .i64 c.Mode, .int .i64 c.Slots, .int .i64 c.Exact, .int .u64 c.Promote, .int .i64 c.Depth, .int .i64 c.Width, .int .i64 c.Top, .int .i64 c.Key, c.Classes, c.Table, .int .u64 c.Seed, .int .i64 x, .int .i64 y, .int .i64 z, .int .i64 0, .int .i64 0, .int .i64 0, .int .i64 0, .int .i64 0, .int .i64 0, .int .u64 0, .int .i64 0, .int .i64 0, .int .i64 0, .int .i64 0, .slice none 0 0, .slice none 0 0, .int .u64 0, .int .i64 x3, .int .i64 y3, .int .i64 z3, .int .i64 0, .int .i64 0, .int .i64 0, .int .i64 0, .int .i64 0, .int .i64 0, .int .u64 0, .int .i64 0, .int .i64 0, .int .i64 0, .int .i64 0, .slice none 0 0, .slice none 0 0, .int .u64 0] : Array Value) = c.arr ++ (mkC x y z).arr ++ (mkC x3 y3 z3).arr := by
  simp [Cfg.arr, mkC]

set_option maxHeartbeats 400000 in
set_option maxRecDepth 100000 in
theorem all_w (x y z p q : Int) (sv : Value) (n : Nat) (xs : List Int) (w : World) (hsv : Rd w 1 sv n (xs.map (fun x => Value.int .i64 x))) :
    Calls Try.prog 4 #[.int .i64 x, .int .i64 y, .int .i64 z, .int .i64 p, .int .i64 q, sv] w (RetBool true w) := by
  go_enter Try.func4, Try.ntmps4
  go_upto_region 2 with (first | (go_at_call 7; refine (new_c sv n xs _ hsv).mono ?_; rintro e w1 ⟨rfl, D1, G1⟩) | (go_at_call 8; refine (config_c _ _ D1 (Nat.le_refl _)).mono ?_; rintro e w2 ⟨c, l, t, rfl, N2, M2, _, G2⟩; replace G2 := grownBy_new G1 G2 (Nat.le_refl _); have oc1 := M2.one1; have oc2 := M2.one2) | (refine alloc_cfg rfl rfl ?_; intro w3 B3 G3 z3) | (refine store_cfg rfl _ _ rfl _ rfl c rfl oc1 oc2 Cfg.zero (by assumption) ?_; intro w4 B4 G4; replace G4 := grownBy_new (grownBy_trans G2 G3) G4 G2.size))
  simp only [Act.put, List.setIfInBounds_toArray, List.set_cons_zero, List.set_cons_succ]
  go_upto_region 3 with (first | (refine load_cfg rfl _ rfl _ rfl c (by assumption) ?_))
  generalize wrap64 (1 + bits BinOp.and IntKind.i64 x 1023) = x3 at *
  generalize wrap64 (1 + bits BinOp.and IntKind.i64 z 7) = z3 at *
  generalize bits BinOp.and IntKind.i64 y 1023 = y3 at *
  have G5 : w.grownBy (w4.alloc (.cells #[.int .i64 c.Length, .int .i64 c.Lateness, .int .i64 c.Windows, .int .i64 c.Shards, .int .i64 c.Spread, .int .i64 c.Queue, .int .i64 c.Mode, .int .i64 c.Slots, .int .i64 c.Exact, .int .u64 c.Promote, .int .i64 c.Depth, .int .i64 c.Width, .int .i64 c.Top, .int .i64 c.Key, c.Classes, c.Table, .int .u64 c.Seed, .int .i64 x, .int .i64 y, .int .i64 z, .int .i64 0, .int .i64 0, .int .i64 0, .int .i64 0, .int .i64 0, .int .i64 0, .int .u64 0, .int .i64 0, .int .i64 0, .int .i64 0, .int .i64 0, .slice none 0 0, .slice none 0 0, .int .u64 0, .int .i64 x3, .int .i64 y3, .int .i64 z3, .int .i64 0, .int .i64 0, .int .i64 0, .int .i64 0, .int .i64 0, .int .i64 0, .int .u64 0, .int .i64 0, .int .i64 0, .int .i64 0, .int .i64 0, .slice none 0 0, .slice none 0 0, .int .u64 0] 28)) none := grownBy_new_block G4 _
  have E5 : Blk (w4.alloc (.cells #[.int .i64 c.Length, .int .i64 c.Lateness, .int .i64 c.Windows, .int .i64 c.Shards, .int .i64 c.Spread, .int .i64 c.Queue, .int .i64 c.Mode, .int .i64 c.Slots, .int .i64 c.Exact, .int .u64 c.Promote, .int .i64 c.Depth, .int .i64 c.Width, .int .i64 c.Top, .int .i64 c.Key, c.Classes, c.Table, .int .u64 c.Seed, .int .i64 x, .int .i64 y, .int .i64 z, .int .i64 0, .int .i64 0, .int .i64 0, .int .i64 0, .int .i64 0, .int .i64 0, .int .u64 0, .int .i64 0, .int .i64 0, .int .i64 0, .int .i64 0, .slice none 0 0, .slice none 0 0, .int .u64 0, .int .i64 x3, .int .i64 y3, .int .i64 z3, .int .i64 0, .int .i64 0, .int .i64 0, .int .i64 0, .int .i64 0, .int .i64 0, .int .u64 0, .int .i64 0, .int .i64 0, .int .i64 0, .int .i64 0, .slice none 0 0, .slice none 0 0, .int .u64 0] 28)) w4.heap.size (c.arr ++ (mkC x y z).arr ++ (mkC x3 y3 z3).arr) := arr3 c x y z x3 y3 z3 ▸ Blk.new w4 _ _
  generalize w4.alloc (.cells #[.int .i64 c.Length, .int .i64 c.Lateness, .int .i64 c.Windows, .int .i64 c.Shards, .int .i64 c.Spread, .int .i64 c.Queue, .int .i64 c.Mode, .int .i64 c.Slots, .int .i64 c.Exact, .int .u64 c.Promote, .int .i64 c.Depth, .int .i64 c.Width, .int .i64 c.Top, .int .i64 c.Key, c.Classes, c.Table, .int .u64 c.Seed, .int .i64 x, .int .i64 y, .int .i64 z, .int .i64 0, .int .i64 0, .int .i64 0, .int .i64 0, .int .i64 0, .int .i64 0, .int .u64 0, .int .i64 0, .int .i64 0, .int .i64 0, .int .i64 0, .slice none 0 0, .slice none 0 0, .int .u64 0, .int .i64 x3, .int .i64 y3, .int .i64 z3, .int .i64 0, .int .i64 0, .int .i64 0, .int .i64 0, .int .i64 0, .int .i64 0, .int .u64 0, .int .i64 0, .int .i64 0, .int .i64 0, .int .i64 0, .slice none 0 0, .slice none 0 0, .int .u64 0] 28) = w5 at *
  generalize w4.heap.size = g5 at *
  have HH : Hid (∀ i, i < 3 → ∃ ci : Cfg, ci.Classes.oneCell' = true ∧ ci.Table.oneCell' = true ∧ ∀ w', w5.grownBy w' none → w'.rangeAt g5 (i * 17) ci.arr.toList) := Lib.hid fun i hi => ⟨_, by
    match i, hi with
    | 0, _ => exact oc1
    | 1, _ => rfl
    | 2, _ => rfl, by
    match i, hi with
    | 0, _ => exact oc2
    | 1, _ => rfl
    | 2, _ => rfl, fun w' hg => range3 (E5.same hg) i hi⟩
  have g5l := E5.lt
  clear D1 N2 M2 G1 G2 G3 B3 B4 G4 E5 hsv oc1 oc2
  go_loopw [43] (fun s43 wr => ∃ i : Nat, i ≤ 3 ∧ s43 = .int .i64 i ∧ w5.grownBy wr none) (fun s43 _ => 3 - (intOf s43).toNat)
  case atStart => exact ⟨0, by omega, rfl, grownBy_refl _ _⟩
  case round =>
    obtain ⟨i, hi, rfl, hgr⟩ := hrel
    by_cases hlt : i < 3
    · obtain ⟨ci, p1, p2, p3⟩ := HH.out i hlt
      have hrg := p3 wr hgr
      have hg5 := Nat.lt_of_lt_of_le g5l hgr.size
      have P3 := Lib.hid p3
      clear p3
      go_upto_region 5 with (first | (refine load_cfg_mid rfl _ rfl g5 (i * 17) rfl ci hrg ?_) | (refine alloc_cfg rfl rfl ?_; intro w6 B6 G6 z6) | (refine store_cfg rfl _ _ rfl _ rfl ci rfl p1 p2 Cfg.zero (by assumption) ?_; intro w7 B7 G7))
      simp only [Act.put, List.setIfInBounds_toArray, List.set_cons_zero, List.set_cons_succ]
      have K7 : w5.grownBy w7 none := grownBy_new (grownBy_trans hgr G6) G7 hgr.size
      generalize wr.heap.size = b7 at *
      clear hrg p1 p2 G6 G7 B6
      obtain ⟨r1, r2, r3⟩ := B7.re
      have r4 := call_re (w := w7) fun w' _ => ccheck_c ci w'
      have r5 := call_re (w := w7) fun w' _ => rcheck_c ci w'
      generalize checkV ci = cv at *
      (refine Tail.wp_region_tail_grown 5 (by kernel_rfl) (by kernel_rfl) ?_; simp only [List.take, List.drop]; (repeat (go_big_quiet_step (first | (with_reducible exact r4 _ _) | (with_reducible exact r5 _ _)))); refine wpQuiet_nil ?_; rintro _ ⟨⟨d5, os5⟩, rfl⟩)
      have B8 := B7.same (grown_re w7 d5 os5)
      have K8 := grownBy_trans K7 (grown_re w7 d5 os5)
      clear r1 r2 r3 r4 r5 B7 K7
      generalize Go.Sort.grow (redrawn w7 d5) os5 = w8 at *
      have hcv : (cv != cv) = false := by simp
      go_wp2_with (go_at_call 14; refine (times_c p _).mono ?_; rintro e w9 ⟨tv, rfl, ht, G9⟩; obtain ⟨ta, tc, rfl⟩ := ht.shape)
      have B9 := B8.same G9
      have K9 := grownBy_trans K8 G9
      have hL5 : (timesF p).length ≤ 5 := Nat.le_refl 5
      generalize timesF p = L at *
      have HT := Lib.hid ht
      clear ht B8 K8 G9 hcv
      go_loopw [55] (fun s55 wr => ∃ j : Nat, j ≤ L.length ∧ s55 = .int .i64 j ∧ w9.grownBy wr none) (fun s55 _ => L.length - (intOf s55).toNat)
      case atStart => exact ⟨0, Nat.zero_le _, rfl, grownBy_refl _ _⟩
      case round =>
        obtain ⟨j, hj, rfl, hg9⟩ := hrel
        by_cases hjl : j < L.length
        · obtain ⟨gl, offl, capl, hv, hgl, c0⟩ := (HT.out.same hg9).one int_one hjl
          cases hv
          generalize L[j] = tt at *
          have BA := B9.same hg9
          have KA := hg9
          go_upto_region 12 with (first | (refine load_cfg rfl _ rfl _ rfl ci (by assumption) ?_) | (go_at_call 15; refine (cspan_c ci tt _).mono ?_; rintro e wB ⟨rfl, GB⟩; have BB := BA.same GB; have KB := grownBy_trans KA GB) | (go_at_call 16; refine (rspan_c ci tt _).mono ?_; rintro e wC ⟨rfl, GC⟩; have BC := BB.same GC; have KC := grownBy_trans KB GC))
          generalize fromV ci tt = f1 at *
          generalize toV ci tt = t1 at *
          clear BA BB GB GC KB c0 hgl
          obtain ⟨r1, r2, r3⟩ := BC.re
          have r4 := call_re (w := wC) fun w' _ => cwin_c ci tt w'
          have r5 := call_re (w := wC) fun w' _ => rwin_c ci tt w'
          have r6 := call_re (w := wC) fun w' _ => clow_c ci tt w'
          have r7 := call_re (w := wC) fun w' _ => rlow_c ci tt w'
          generalize winV ci tt = wv at *
          generalize lowV ci tt = lv at *
          (refine Tail.wp_region_tail_grown 26 (by kernel_rfl) (by kernel_rfl) ?_; simp only [List.take, List.drop]; (repeat (go_big_quiet_step (first | (with_reducible exact r4 _ _) | (with_reducible exact r5 _ _) | (with_reducible exact r6 _ _) | (with_reducible exact r7 _ _)))); refine wpQuiet_nil ?_; rintro _ ⟨⟨d5, os5⟩, rfl⟩)
          have BD := BC.same (grown_re wC d5 os5)
          have KD := grownBy_trans KC (grown_re wC d5 os5)
          clear r1 r2 r3 r4 r5 r6 r7 BC KC
          generalize Go.Sort.grow (redrawn wC d5) os5 = wD at *
          go_wp2_with (go_at_call 14; refine (times_c q _).mono ?_; rintro e wE ⟨tv2, rfl, ht2, GE⟩; obtain ⟨ta2, tc2, rfl⟩ := ht2.shape)
          have BE := BD.same GE
          have KE := grownBy_trans KD GE
          have hM5 : (timesF q).length ≤ 5 := Nat.le_refl 5
          generalize timesF q = M at *
          have HM := Lib.hid ht2
          clear ht2 BD KD GE
          go_loopw [100] (fun s100 wr => ∃ k : Nat, k ≤ M.length ∧ s100 = .int .i64 k ∧ wE.grownBy wr none) (fun s100 _ => M.length - (intOf s100).toNat)
          case atStart => exact ⟨0, Nat.zero_le _, rfl, grownBy_refl _ _⟩
          case round =>
            obtain ⟨k, hk, rfl, hgE⟩ := hrel
            by_cases hkl : k < M.length
            · obtain ⟨gm, offm, capm, hvm, hgm, cm⟩ := (HM.out.same hgE).one int_one hkl
              cases hvm
              generalize M[k] = uu at *
              have BF := BE.same hgE
              go_upto_region 17 with fail
              clear cm hgm
              obtain ⟨r1, r2, r3⟩ := BF.re
              have r4 := call_re (w := wr) fun w' _ => cver_c ci tt uu w'
              have r5 := call_re (w := wr) fun w' _ => rver_c ci tt uu w'
              generalize verV ci tt uu = vv at *
              (refine Tail.wp_region_tail_grown 9 (by kernel_rfl) (by kernel_rfl) ?_; simp only [List.take, List.drop]; (repeat (go_big_quiet_step (first | (with_reducible exact r4 _ _) | (with_reducible exact r5 _ _)))); refine wpQuiet_nil ?_; rintro _ ⟨⟨d5, os5⟩, rfl⟩)
              have KF := grownBy_trans hgE (grown_re wr d5 os5)
              clear r1 r2 r3 r4 r5 BF
              generalize Go.Sort.grow (redrawn wr d5) os5 = wF at *
              go_wp2_with fail
              exact ⟨⟨k + 1, by omega, by go_num, KF⟩, by simp [intOf]; omega⟩
            · go_wp2_with fail
              exact ⟨⟨j + 1, by omega, by go_num, grownBy_trans KE hgE⟩, by simp [intOf]; omega⟩
        · go_wp2_with fail
          exact ⟨⟨i + 1, by omega, by go_num, grownBy_trans K9 hg9⟩, by simp [intOf]; omega⟩
    · have hie : i = 3 := by omega
      subst hie
      go_wp2_with (go_at_call 11; refine (awake25_c _).mono ?_; rintro e w11 ⟨rfl, G11⟩)
      go_ret
      exact ⟨rfl, grownBy_trans G5 (grownBy_trans hgr G11)⟩
end Go.Proofs.Ytahpenpgpnggcaa
