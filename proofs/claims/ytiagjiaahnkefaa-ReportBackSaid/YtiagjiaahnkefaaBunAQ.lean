/- Several texts in one file; each begins with a comment that says what is proved in it. -/
import Derived.Test.YtiagjiaahnkefaaBunAP
import Derived.Test.YtiagjiaahnkefaaBunAL
import Derived.Test.YtiagjiaahnkefaaBunAA
import Derived.Test.YtiagjiaahnkefaaBunAN
import Derived.Test.YtiagjiaahnkefaaBunAB
import Derived.Deep.RegionWith
import Derived.Deep.RegionLaw
import Derived.Maps.OwnSet
import Derived.Test.YtiagjiaahnkefaaBunAC

/- The report of bytes: the reference's DecodeReport. -/
namespace Go.Proofs.Ytiagjiaahnkefaa
open Go.RowKit Go.Sort

set_option maxHeartbeats 2000000 in
set_option maxRecDepth 100000 in
theorem rdec_c (v : Value) (l : List UInt8) (w : World) (h : RdL byF 1 w v l) (hc : ∀ a n c, v = .slice a n c → n ≤ c) : Calls Try.prog 22 #[v] w (DecPost l w) := by
  obtain ⟨a, c, rfl⟩ := h.shape
  have hlc := hc _ _ _ rfl
  obtain ⟨n1, l1, e1, X1⟩ : ∃ n r e, numF 1099511627776 1 l 0 = (n, r, e) := ⟨_, _, _, rfl⟩
  obtain ⟨n2, l2, e2, X2⟩ : ∃ n r e, weiF l1 e1 = (n, r, e) := ⟨_, _, _, rfl⟩
  obtain ⟨n3, l3, e3, X3⟩ : ∃ n r e, weiF l2 e2 = (n, r, e) := ⟨_, _, _, rfl⟩
  obtain ⟨n4, l4, e4, X4⟩ : ∃ n r e, numF 1099511627776 1 l3 e3 = (n, r, e) := ⟨_, _, _, rfl⟩
  obtain ⟨n5, l5, e5, X5⟩ : ∃ n r e, weiF l4 e4 = (n, r, e) := ⟨_, _, _, rfl⟩
  obtain ⟨n7, l7, e7, X7⟩ : ∃ n r e, numF 64 7 (wordsD 6 l5 e5).2.1 (wordsD 6 l5 e5).2.2 = (n, r, e) := ⟨_, _, _, rfl⟩
  have HD := Lib.hid (show decD l = (⟨n1, n2, .slice none 0 0, n3, n4, n5, .slice none 0 0, (linesD n7 l7 e7).1, 0 :: (wordsD 6 l5 e5).1⟩, (linesD n7 l7 e7).2) by unfold decD; simp only [X1, X2, X3, X4, X5, X7])
  have C1 := Lib.hid fun (g : Nat) w' (h : Rdr w.heap.size w' g l 0) => X1 ▸ rupto_c w.heap.size g 1099511627776 1 l 0 w' h (by omega) (by omega)
  have C2 := Lib.hid fun (g : Nat) w' (h : Rdr w.heap.size w' g l1 e1) => X2 ▸ rnumber_c w.heap.size g l1 e1 w' h
  have C3 := Lib.hid fun (g : Nat) w' (h : Rdr w.heap.size w' g l2 e2) => X3 ▸ rnumber_c w.heap.size g l2 e2 w' h
  have C4 := Lib.hid fun (g : Nat) w' (h : Rdr w.heap.size w' g l3 e3) => X4 ▸ rupto_c w.heap.size g 1099511627776 1 l3 e3 w' h (by omega) (by omega)
  have C5 := Lib.hid fun (g : Nat) w' (h : Rdr w.heap.size w' g l4 e4) => X5 ▸ rnumber_c w.heap.size g l4 e4 w' h
  have C7 := Lib.hid fun (g : Nat) w' (h : Rdr w.heap.size w' g (wordsD 6 l5 e5).2.1 (wordsD 6 l5 e5).2.2) => X7 ▸ rupto_c w.heap.size g 64 7 _ _ w' h (by omega) (by omega)
  have hn1 : n1 ≤ 1099511627776 := by have := (numF_w (most := 1099511627776) (over := 1) (l := l) (e := 0)).2; rw [X1] at this; exact this
  have hn4 : n4 ≤ 1099511627776 := by have := (numF_w (most := 1099511627776) (over := 1) (l := l3) (e := e3)).2; rw [X4] at this; exact this
  have hn7 : n7 ≤ 64 := by have := (numF_w (most := 64) (over := 7) (l := (wordsD 6 l5 e5).2.1) (e := (wordsD 6 l5 e5).2.2)).2; rw [X7] at this; exact this
  clear X1 X2 X3 X4 X5 X7
  have H := Lib.hid h
  clear h hc
  go_enter Try.func22, Try.ntmps22
  go_upto_region 1 with (refine alloc_rep rfl rfl ?_; intro wa Aa ga za)
  (try simp only [Act.put, List.setIfInBounds_toArray, List.set_cons_zero, List.set_cons_succ])
  go_upto_region 2 with fail
  have Bb := Blk.new wa #[.slice a l.length c, .int .i64 0] 116
  have gb := World.grownBy_alloc wa (.cells #[.slice a l.length c, .int .i64 0] 116) none
  have zb : wa.heap.size < (wa.alloc (.cells #[.slice a l.length c, .int .i64 0] 116)).heap.size := by simp
  generalize wa.alloc (.cells #[.slice a l.length c, .int .i64 0] 116) = wb at *
  generalize wa.heap.size = g at *
  go_upto_region 3 with (refine alloc_rep rfl rfl ?_; intro wc Ac gc zc)
  simp only [Act.put, List.setIfInBounds_toArray, List.set_cons_zero, List.set_cons_succ]
  have D0 := Lib.hid (show DecS w.heap.size g wb.heap.size w ⟨0, 0, .slice none 0 0, 0, 0, 0, .slice none 0 0, [], []⟩ l 0 wc from
    ⟨(Aa.same gb).same gc, Ac, (Rdr.new H.out hlc Bb (grownBy_trans ga gb) (by omega)).same gc, Own.nil _ _ _ _ _, Own.nil _ _ _ _ _, apart_nil _, grownBy_trans (grownBy_trans ga gb) gc, rfl, za, zb⟩)
  clear Aa ga za Bb gb zb Ac gc zc H
  generalize wb.heap.size = bx at *
  go_upto_region 4 with (go_at_call 61; refine ((C1).out _ _ (D0).out.rdr).mono ?_; rintro en wx ⟨rfl, Rx, gx⟩; have Dx := (D0).out.call Rx gx; have ac := Dx.box.cell; have af := Dx.box.free)
  have D1 := Lib.hid (Dx.set ⟨n1, 0, .slice none 0 0, 0, 0, 0, .slice none 0 0, [], []⟩ 0 (.int .i64 n1) rfl Dx.ol Dx.oj Dx.ap)
  clear Dx Rx gx ac af C1 D0
  generalize wx.setCell ⟨bx, 0, none⟩ (.int .i64 n1) = w1 at *
  clear wx
  go_upto_region 5 with (go_at_call 62; refine ((C2).out _ _ (D1).out.rdr).mono ?_; rintro en wx ⟨rfl, Rx, gx⟩; have Dx := (D1).out.call Rx gx; have ac := Dx.box.cell; have af := Dx.box.free)
  have D2 := Lib.hid (Dx.set ⟨n1, n2, .slice none 0 0, 0, 0, 0, .slice none 0 0, [], []⟩ 1 (.int .u64 n2) rfl Dx.ol Dx.oj Dx.ap)
  clear Dx Rx gx ac af C2 D1
  generalize wx.setCell ⟨bx, 1, none⟩ (.int .u64 n2) = w2 at *
  clear wx
  go_upto_region 6 with (go_at_call 62; refine ((C3).out _ _ (D2).out.rdr).mono ?_; rintro en wx ⟨rfl, Rx, gx⟩; have Dx := (D2).out.call Rx gx; have ac := Dx.box.cell; have af := Dx.box.free)
  have D3 := Lib.hid (Dx.set ⟨n1, n2, .slice none 0 0, n3, 0, 0, .slice none 0 0, [], []⟩ 3 (.int .u64 n3) rfl Dx.ol Dx.oj Dx.ap)
  clear Dx Rx gx ac af C3 D2
  generalize wx.setCell ⟨bx, 3, none⟩ (.int .u64 n3) = w3 at *
  clear wx
  go_upto_region 7 with (go_at_call 61; refine ((C4).out _ _ (D3).out.rdr).mono ?_; rintro en wx ⟨rfl, Rx, gx⟩; have Dx := (D3).out.call Rx gx; have ac := Dx.box.cell; have af := Dx.box.free)
  have D4 := Lib.hid (Dx.set ⟨n1, n2, .slice none 0 0, n3, n4, 0, .slice none 0 0, [], []⟩ 4 (.int .i64 n4) rfl Dx.ol Dx.oj Dx.ap)
  clear Dx Rx gx ac af C4 D3
  generalize wx.setCell ⟨bx, 4, none⟩ (.int .i64 n4) = w4 at *
  clear wx
  go_upto_region 8 with (go_at_call 62; refine ((C5).out _ _ (D4).out.rdr).mono ?_; rintro en wx ⟨rfl, Rx, gx⟩; have Dx := (D4).out.call Rx gx; have ac := Dx.box.cell; have af := Dx.box.free)
  have D5 := Lib.hid (Dx.set ⟨n1, n2, .slice none 0 0, n3, n4, n5, .slice none 0 0, [], []⟩ 5 (.int .u64 n5) rfl Dx.ol Dx.oj Dx.ap)
  clear Dx Rx gx ac af C5 D4
  generalize wx.setCell ⟨bx, 5, none⟩ (.int .u64 n5) = w5 at *
  clear wx
  have gm := World.grownBy_alloc w5 (.cells #[.int .u64 0] 22) none
  have Dm := D5.out.same gm
  have ac := Dm.box.cell
  have af := Dm.box.free
  have om : Own wordF 1 22 (bx + 1) (w5.alloc (.cells #[.int .u64 0] 22)) (.slice (some ⟨w5.heap.size, 0, none⟩) 1 1) [0] :=
    ⟨by simp [cellsOf, wordF], .inr ⟨w5.heap.size, 1, _, rfl, D5.out.box.lt, heap_alloc_new w5 _, by simp, by unfold maxLen; omega, by simp, by simp [cellsOf, wordF]⟩⟩
  go_upto_region 10 with fail
  have D6 := Lib.hid (Dm.set ⟨n1, n2, .slice none 0 0, n3, n4, n5, .slice (some ⟨w5.heap.size, 0, none⟩) 1 1, [], [0]⟩ 6 (.slice (some ⟨w5.heap.size, 0, none⟩) 1 1) rfl Dm.ol om (apart_nil _))
  clear ac af om Dm gm D5
  generalize (w5.alloc (.cells #[.int .u64 0] 22)).setCell ⟨bx, 6, none⟩ (.slice (some ⟨w5.heap.size, 0, none⟩) 1 1) = w6 at *
  generalize w5.heap.size = q at *
  go_loopw [6] (fun s6 wk => ∃ (k : Nat) (vr : Value), k ≤ 6 ∧ s6 = .int .i64 ((k + 1 : Nat) : Int) ∧ DecS w.heap.size g bx w ⟨n1, n2, .slice none 0 0, n3, n4, n5, vr, [], 0 :: (wordsD k l5 e5).1⟩ (wordsD k l5 e5).2.1 (wordsD k l5 e5).2.2 wk) (fun s6 _ => 7 - (intOf s6).toNat)
  case atStart => exact ⟨0, _, by omega, rfl, D6.out⟩
  case round =>
    clear D6
    obtain ⟨k, vr, hk, rfl, hD⟩ := hrel
    have HDk := Lib.hid hD
    clear hD
    by_cases hlt : k < 6
    · have hlen := words_len k l5 e5
      have HS := Lib.hid (show ((wordsD k l5 e5).1 ++ [((weiF (wordsD k l5 e5).2.1 (wordsD k l5 e5).2.2).1 : Int)], (weiF (wordsD k l5 e5).2.1 (wordsD k l5 e5).2.2).2) = wordsD (k + 1) l5 e5 from rfl)
      generalize wordsD k l5 e5 = WD at *
      obtain ⟨nk, lk, ek, hXk⟩ : ∃ n r e, weiF WD.2.1 WD.2.2 = (n, r, e) := ⟨_, _, _, rfl⟩
      have Ck := Lib.hid fun w' (h : Rdr w.heap.size w' g WD.2.1 WD.2.2) => hXk ▸ rnumber_c w.heap.size g _ _ w' h
      rw [hXk] at HS
      clear hXk
      have Dd := HDk.out.same (w' := wr.drew) (by (repeat (first | exact grownBy_refl _ _ | assumption | refine grownBy_new_block ?_ _ | refine grownBy_drew ?_ | refine grownBy_drewN ?_ _ | refine grownBy_setNew ?_ (by first | (simp; done) | omega | (simp; omega)) _)))
      have ac := Dd.box.cell
      have hk1 : ((k + 1 : Nat) : Int) ≤ 6 := by omega
      have HDd := Lib.hid Dd
      have hb3 : ((0 :: WD.1).length + 1) * 8 ≤ 140737488355328 := by rw [List.length_cons]; omega
      have hb4 : (0 :: WD.1).length + 1 ≤ 9223372036854775807 := by rw [List.length_cons]; omega
      have Hcs := Lib.hid (show (#[Value.int .u64 (nk : Int)] : Array Value).toList = wordF nk from rfl)
      have tok := Lib.hid hk1
      have Hlen := Lib.hid hlen
      clear Dd HDk hlen
      go_wp2_with fail
      go_region_law (first
        | (have _t := tok; refine step_app_one elt_word one_word (fun _ => rfl) Dx.oj (nk : Int) hb3 hb4 hbase Hcs.out (by rfl) _ _ (by rfl) (by rfl) (by rfl) ?_; intro v3 w3 o3 g3 l3; clear tok; obtain ⟨a3, c3, rfl⟩ := o3.shape; obtain ⟨b3, D3⟩ := Dx.appw o3 g3 l3; have ac3 := b3.cell; have af3 := b3.free)
        | (go_simp; go_at_call 62; refine (Ck.out _ HDd.out.rdr).mono ?_; rintro en wx ⟨rfl, Rx, gx⟩; have Dx := HDd.out.call Rx gx; have axc := Dx.box.cell; have axd := (Dx.same (World.grownBy_alloc wx (.cells #[.int .u64 (nk : Int)] 22) none)).box.cell; have hbase : bx + 1 ≤ wx.heap.size := Dx.box.lt))
      all_goals
        have HD3 := Lib.hid D3
        clear D3 ac3 af3 b3 l3 o3 g3 axc axd Rx gx Dx ac HDd Ck
        go_wp2_with fail
        have D4 := HD3.out
        simp only [List.length_append, List.length_cons, List.length_nil, Nat.zero_add] at D4
        refine ⟨⟨k + 1, _, by omega, by go_num, by rw [← HS.out]; exact D4⟩, by simp [intOf]; omega⟩
    · obtain rfl : k = 6 := by omega
      clear hlt hk
      generalize wordsD 6 l5 e5 = W6 at *
      go_upto_region 14 with (go_at_call 61; refine (C7.out _ _ HDk.out.rdr).mono ?_; rintro en wy ⟨rfl, Ry, gy⟩)
      have Dy := Lib.hid (HDk.out.call Ry gy)
      clear Ry gy HDk C7
      generalize 0 :: W6.1 = RJ at *
      go_loopw [7] (fun s7 wk => ∃ (j : Nat) (vl vr : Value), j ≤ n7 ∧ s7 = .int .i64 ((n7 : Int) - j) ∧ DecS w.heap.size g bx w ⟨n1, n2, vl, n3, n4, n5, vr, (linesD j l7 e7).1, RJ⟩ (linesD j l7 e7).2.1 (linesD j l7 e7).2.2 wk) (fun s7 _ => (intOf s7).toNat)
      case atStart => exact ⟨0, _, _, by omega, by go_num, Dy.out⟩
      case round =>
        clear Dy
        obtain ⟨j, vl, vr2, hj, rfl, hD⟩ := hrel
        have HDk := Lib.hid hD
        clear hD
        by_cases hlt : j < n7
        · have hlen := lines_len j l7 e7
          have HS := Lib.hid (show ((linesD j l7 e7).1 ++ [(lineD (linesD j l7 e7).2.1 (linesD j l7 e7).2.2).1], (lineD (linesD j l7 e7).2.1 (linesD j l7 e7).2.2).2) = linesD (j + 1) l7 e7 from rfl)
          generalize linesD j l7 e7 = LD at *
          obtain ⟨ky, lk, ek, Xk⟩ : ∃ n r e, keyD LD.2.1 LD.2.2 = (n, r, e) := ⟨_, _, _, rfl⟩
          obtain ⟨na, la, ea, Xa⟩ : ∃ n r e, weiF lk ek = (n, r, e) := ⟨_, _, _, rfl⟩
          obtain ⟨nb, lb, eb, Xb⟩ : ∃ n r e, weiF la ea = (n, r, e) := ⟨_, _, _, rfl⟩
          have hwa : W64 (na : Int) := by have := wei_w lk ek; rw [Xa] at this; exact this
          have hwb : W64 (nb : Int) := by have := wei_w la ea; rw [Xb] at this; exact this
          have Ck := Lib.hid fun w' (h : Rdr w.heap.size w' g LD.2.1 LD.2.2) => Xk ▸ rtext_c w.heap.size g _ _ w' h
          have Ca := Lib.hid fun w' (h : Rdr w.heap.size w' g lk ek) => Xa ▸ rnumber_c w.heap.size g _ _ w' h
          have Cb := Lib.hid fun w' (h : Rdr w.heap.size w' g la ea) => Xb ▸ rnumber_c w.heap.size g _ _ w' h
          have HY := Lib.hid (show lineD LD.2.1 LD.2.2 = lineR ky (na, la, ea) (nb, lb, eb) by unfold lineD; simp only [Xk, Xa, Xb])
          clear Xk Xa Xb
          obtain ⟨sm, hsm⟩ : ∃ sm, satA (na : Int) nb = sm := ⟨_, rfl⟩
          obtain ⟨ft, hft⟩ : ∃ ft, fitA (na : Int) nb = ft := ⟨_, rfl⟩
          have Cs := Lib.hid fun w' => radd_c (na : Int) (nb : Int) w' hwa hwb
          rw [hsm, hft] at Cs
          have HSM := Lib.hid hsm
          have HFT := Lib.hid (show ft = decide ((na : Int) + nb ≤ 18446744073709551615) by rw [← hft]; rfl)
          clear hsm hft hwa hwb
          have hj1 : (0 : Int) < (n7 : Int) - (j : Int) := by omega
          have hb3 : (LD.1.length + 1) * 32 ≤ 140737488355328 := by omega
          have hb4 : LD.1.length + 1 ≤ 9223372036854775807 := by omega
          have Hlen := Lib.hid hlen
          clear hlen
          go_upto_region 17 with fail
          have by0 : bx < wr.heap.size := HDk.out.box.lt
          have ol0 : ∀ q, vl.ownBlock = some q → q < wr.heap.size := fun q hq => (HDk.out.ol.lt q hq).2
          have or0 : ∀ q, vr2.ownBlock = some q → q < wr.heap.size := fun q hq => (HDk.out.oj.lt q hq).2
          have Ay := Lib.hid (Blk.new wr #[.string ⟨#[]⟩, .int .u64 0, .int .u64 0] 71)
          have Dy := Lib.hid (HDk.out.same (World.grownBy_alloc wr (.cells #[.string ⟨#[]⟩, .int .u64 0, .int .u64 0] 71) none))
          generalize wr.alloc (.cells #[.string ⟨#[]⟩, .int .u64 0, .int .u64 0] 71) = wy at *
          generalize wr.heap.size = by' at *
          have hgb : g < bx := HDk.out.hb
          clear HDk
          go_upto_region 18 with (go_at_call 63; refine (Ck.out _ Dy.out.rdr).mono ?_; rintro en wx ⟨rfl, Rx, gx⟩; have Dx := Dy.out.call Rx gx; have Ax := Ay.out.kept gx (by simp; omega); have ac := Ax.cell; have af := Ax.free)
          have g1 : wx.grownBy (wx.setCell ⟨by', 0, none⟩ (.string ⟨ky.toArray⟩)) (some by') := grownBy_set (grownBy_refl wx (some by')) 0 _
          have D1 := Lib.hid (Dx.other g1 by0 ol0 or0)
          have A1 := Lib.hid (Ax.set_ 0 (.string ⟨ky.toArray⟩) rfl)
          clear Dx Ax ac af Rx gx g1 Dy Ay Ck
          generalize wx.setCell ⟨by', 0, none⟩ (.string ⟨ky.toArray⟩) = z1 at *
          clear wx
          go_upto_region 19 with (go_at_call 62; refine (Ca.out _ D1.out.rdr).mono ?_; rintro en wx ⟨rfl, Rx, gx⟩; have Dx := D1.out.call Rx gx; have Ax := A1.out.kept gx (by simp; omega); have ac := Ax.cell; have af := Ax.free)
          have g1 : wx.grownBy (wx.setCell ⟨by', 1, none⟩ (.int .u64 na)) (some by') := grownBy_set (grownBy_refl wx (some by')) 1 _
          have D2 := Lib.hid (Dx.other g1 by0 ol0 or0)
          have A2 := Lib.hid (Ax.set_ 1 (.int .u64 na) rfl)
          clear Dx Ax ac af Rx gx g1 D1 A1 Ca
          generalize wx.setCell ⟨by', 1, none⟩ (.int .u64 na) = z2 at *
          clear wx
          go_upto_region 20 with (go_at_call 62; refine (Cb.out _ D2.out.rdr).mono ?_; rintro en wx ⟨rfl, Rx, gx⟩)
          have Dx := D2.out.call Rx gx
          have Ax := A2.out.kept gx (by simp; omega)
          have ac := Ax.cell
          have af := Ax.free
          clear D2 A2 Rx gx Cb
          go_upto_region 22 with (go_at_call 54; refine (Cs.out _).mono ?_; rintro en wz ⟨rfl, rfl⟩)
          have g1 : wx.grownBy (wx.setCell ⟨by', 2, none⟩ (.int .u64 sm)) (some by') := grownBy_set (grownBy_refl wx (some by')) 2 _
          have D3 := Lib.hid (Dx.other g1 by0 ol0 or0)
          have A3 := Lib.hid (Ax.set_ 2 (.int .u64 sm) rfl)
          clear Dx Ax ac af g1 Cs
          generalize wx.setCell ⟨by', 2, none⟩ (.int .u64 sm) = z3 at *
          clear wx
          obtain ⟨az, cz, hbz, -, -, -⟩ := D3.out.rdr.ex
          have bc := hbz.cell
          have bf := hbz.free
          cases ft
          · by_cases heb : eb = 0
            · subst heb
              have HL := Lib.hid (show lineD LD.2.1 LD.2.2 = (⟨⟨ky.toArray⟩, na, sm⟩, lb, 1) by
                rw [HY.out]; unfold lineR; simp only [HSM.out]
                have := HFT.out
                rw [if_pos ⟨trivial, by simpa using this⟩])
              have D4 := D3.out.setE 1
              have A4 := A3.out.kept (D3.out.rdr.setE 1).2 (by simp; omega)
              go_upto_region 24 with fail
              clear bc bf hbz HY HFT D3 A3
              generalize z3.setCell ⟨g, 1, none⟩ (.int .i64 1) = z4 at *
              have HDq := Lib.hid (D4)
              have bq := HDq.out.box.cell
              have bqf := HDq.out.box.free
              have ayc := (A4).cell
              have hbase : bx + 1 ≤ (z4).heap.size := HDq.out.box.lt
              have Hcs := Lib.hid (show (#[Value.string ⟨ky.toArray⟩, .int .u64 (na : Int), .int .u64 sm] : Array Value).toList = lnF ⟨⟨ky.toArray⟩, na, sm⟩ from rfl)
              go_wp2_with (at_builtin; refine app_one elt_ln one_ln lnF_len HDq.out.ol ⟨⟨ky.toArray⟩, na, sm⟩ hb3 hb4 hbase Hcs.out (by rfl) _ _ (by rfl) (by rfl) (by rfl) ?_; intro v3 w3 o3 g3 l3; obtain ⟨a3, c3, rfl⟩ := o3.shape; obtain ⟨b3, D3⟩ := HDq.out.app o3 g3 l3; have ac3 := b3.cell; have af3 := b3.free)
              simp only [List.length_append, List.length_singleton] at D3
              exact ⟨⟨j + 1, _, _, by omega, congrArg _ (by omega), by rw [← HS.out, HL.out]; exact D3⟩, by simp [intOf]; omega⟩
            · have heb2 : (eb == 0) = false := by simp [heb]
              have HL := Lib.hid (show lineD LD.2.1 LD.2.2 = (⟨⟨ky.toArray⟩, na, sm⟩, lb, eb) by
                rw [HY.out]; unfold lineR; simp only [HSM.out]
                rw [if_neg (fun h => heb h.1)])
              clear heb HY HFT
              go_upto_region 24 with fail
              clear bc bf hbz
              have HDq := Lib.hid (D3.out)
              have bq := HDq.out.box.cell
              have bqf := HDq.out.box.free
              have ayc := (A3.out).cell
              have hbase : bx + 1 ≤ (z3).heap.size := HDq.out.box.lt
              have Hcs := Lib.hid (show (#[Value.string ⟨ky.toArray⟩, .int .u64 (na : Int), .int .u64 sm] : Array Value).toList = lnF ⟨⟨ky.toArray⟩, na, sm⟩ from rfl)
              go_wp2_with (at_builtin; refine app_one elt_ln one_ln lnF_len HDq.out.ol ⟨⟨ky.toArray⟩, na, sm⟩ hb3 hb4 hbase Hcs.out (by rfl) _ _ (by rfl) (by rfl) (by rfl) ?_; intro v3 w3 o3 g3 l3; obtain ⟨a3, c3, rfl⟩ := o3.shape; obtain ⟨b3, D3⟩ := HDq.out.app o3 g3 l3; have ac3 := b3.cell; have af3 := b3.free)
              simp only [List.length_append, List.length_singleton] at D3
              exact ⟨⟨j + 1, _, _, by omega, congrArg _ (by omega), by rw [← HS.out, HL.out]; exact D3⟩, by simp [intOf]; omega⟩
          · have HL := Lib.hid (show lineD LD.2.1 LD.2.2 = (⟨⟨ky.toArray⟩, na, sm⟩, lb, eb) by
              rw [HY.out]; unfold lineR; simp only [HSM.out]
              have := HFT.out
              rw [if_neg (by simp at this; omega)])
            clear HY HFT
            go_upto_region 24 with fail
            clear bc bf hbz
            have HDq := Lib.hid (D3.out)
            have bq := HDq.out.box.cell
            have bqf := HDq.out.box.free
            have ayc := (A3.out).cell
            have hbase : bx + 1 ≤ (z3).heap.size := HDq.out.box.lt
            have Hcs := Lib.hid (show (#[Value.string ⟨ky.toArray⟩, .int .u64 (na : Int), .int .u64 sm] : Array Value).toList = lnF ⟨⟨ky.toArray⟩, na, sm⟩ from rfl)
            go_wp2_with (at_builtin; refine app_one elt_ln one_ln lnF_len HDq.out.ol ⟨⟨ky.toArray⟩, na, sm⟩ hb3 hb4 hbase Hcs.out (by rfl) _ _ (by rfl) (by rfl) (by rfl) ?_; intro v3 w3 o3 g3 l3; obtain ⟨a3, c3, rfl⟩ := o3.shape; obtain ⟨b3, D3⟩ := HDq.out.app o3 g3 l3; have ac3 := b3.cell; have af3 := b3.free)
            simp only [List.length_append, List.length_singleton] at D3
            exact ⟨⟨j + 1, _, _, by omega, congrArg _ (by omega), by rw [← HS.out, HL.out]; exact D3⟩, by simp [intOf]; omega⟩
        · obtain rfl : j = n7 := by omega
          clear hlt hj
          generalize linesD j l7 e7 = LD at *
          obtain ⟨LS, lz, ez⟩ := LD
          dsimp only at HDk HD
          have hjz : ¬ (0 : Int) < (j : Int) - (j : Int) := by omega
          have Ce := Lib.hid (rend_c w.heap.size g lz ez wr HDk.out.rdr)
          have hjj : (j : Int) - (j : Int) = 0 := by omega
          rw [hjj]
          clear hjj hjz
          obtain ⟨E0, hE0⟩ : ∃ E0, endE lz ez = E0 := ⟨_, rfl⟩
          rw [hE0] at Ce
          by_cases hz : E0 = 0
          · subst hz
            have he : ez = 0 ∧ lz = [] := by
              unfold endE at hE0
              by_cases h1 : ez ≠ 0
              · rw [if_pos h1] at hE0; exact absurd hE0 h1
              · rw [if_neg h1] at hE0
                by_cases h2 : lz ≠ []
                · rw [if_pos h2] at hE0; cases hE0
                · exact ⟨by omega, Decidable.byContradiction h2⟩
            obtain ⟨rfl, rfl⟩ := he
            have hW0 := decD_w l
            rw [HD.out] at hW0
            have hW : RepW ⟨n1, n2, vl, n3, n4, n5, vr2, LS, RJ⟩ := ⟨hW0.win, hW0.tot, hW0.over, hW0.trk, hW0.rest, hW0.lines, hW0.rej⟩
            obtain ⟨E, hE⟩ : ∃ E, repErr ⟨n1, n2, vl, n3, n4, n5, vr2, LS, RJ⟩ = E := ⟨_, rfl⟩
            have HE := Lib.hid (show decE l = E by unfold decE; rw [HD.out]; rw [if_neg (by simp), if_neg (by simp), ← hE]; rfl)
            have hc2 : ∀ w', DecS w.heap.size g bx w ⟨n1, n2, vl, n3, n4, n5, vr2, LS, RJ⟩ [] 0 w' → Calls Try.prog 17 #[repV n1 n2 vl n3 n4 n5 vr2] w' (RetInt E w') := fun w' h => hE ▸ rrepcheck_c _ w' h.rd hW
            have HC2 := Lib.hid hc2
            clear hc2 hE hE0 hW hW0
            by_cases hEz : E = 0
            · subst hEz
              have hov : vl.oneCell' = true := by
                obtain ⟨_, _, hv⟩ := HDk.out.ol.shape
                dsimp only at hv
                rw [hv]; rfl
              have hor : vr2.oneCell' = true := by
                obtain ⟨_, _, hv⟩ := HDk.out.oj.shape
                dsimp only at hv
                rw [hv]; rfl
              go_wp2_with (first
                | (go_at_call 64; refine Ce.out.mono ?_; rintro en ws ⟨rfl, rs, gs⟩; have Ds := HDk.out.call rs gs)
                | (refine load_rep rfl _ rfl _ rfl Ds.box ?_)
                | (go_at_call 17; refine (HC2.out _ Ds).mono ?_; rintro en wt ⟨rfl, gt⟩; have Dt := Ds.same gt)
                | (refine load_rep rfl _ rfl _ rfl Dt.box ?_)
                | (refine store_rep rfl _ _ rfl _ rfl rfl hov hor _ rfl Dt.res ?_; intro wh Ah Gh))
              have rc := Ah.cell
              refine bodyPost_ret (v := .tuple #[repV n1 n2 vl n3 n4 n5 vr2, .int .i64 0]) (by simp [results, Try.results22, go_sem, rc]) rfl ?_
              exact decPost_ok (x := ⟨n1, n2, vl, n3, n4, n5, vr2, LS, RJ⟩) HE.out (by rw [HD.out]) (RepRd.kept_own Dt.ol Dt.oj Gh (by have h1 := Dt.hg; have h2 := Dt.hb; omega)) (grownBy_new Dt.G Gh (Nat.le_refl _))
            · have hE2 : (E != 0) = true := by simp [hEz]
              have hE3 : (E == 0) = false := by simp [hEz]
              have HE0 := Lib.hid hEz
              clear hEz
              go_wp2_with (first
                | (go_at_call 64; refine Ce.out.mono ?_; rintro en ws ⟨rfl, rs, gs⟩; have Ds := HDk.out.call rs gs)
                | (refine load_rep rfl _ rfl _ rfl Ds.box ?_)
                | (go_at_call 17; refine (HC2.out _ Ds).mono ?_; rintro en wt ⟨rfl, gt⟩; have Dt := Ds.same gt)
                | (refine store_rep rfl _ _ rfl _ rfl rfl rfl rfl _ rfl Dt.res ?_; intro wh Ah Gh))
              have rc := Ah.cell
              refine bodyPost_ret (v := .tuple #[repV 0 0 (.slice none 0 0) 0 0 0 (.slice none 0 0), .int .i64 (E)]) (by simp [results, Try.results22, go_sem, rc]) rfl ?_
              exact decPost_zero HE.out HE0.out (grownBy_new (Dt).G Gh (Nat.le_refl _))
          · have hz2 : (E0 == 0) = false := by simp [hz]
            have hz3 : (E0 != 0) = true := by simp [hz]
            have HE0 := Lib.hid hz
            have HE := Lib.hid (show decE l = E0 by
              unfold decE; rw [HD.out, ← hE0]; unfold endE
              by_cases h1 : ez ≠ 0
              · rw [if_pos h1, if_pos h1]
              · rw [if_neg h1, if_neg h1]
                by_cases h2 : lz ≠ []
                · rw [if_pos h2, if_pos h2]
                · exfalso; apply hz; rw [← hE0]; unfold endE; rw [if_neg h1, if_neg h2])
            clear hz hE0
            go_wp2_with (first
              | (go_at_call 64; refine Ce.out.mono ?_; rintro en ws ⟨rfl, -, gs⟩; have Rs := HDk.out.res.kept gs (by have := HDk.out.hg; simp; omega))
              | (refine store_rep rfl _ _ rfl _ rfl rfl rfl rfl _ rfl Rs ?_; intro wh Ah Gh))
            have rc := Ah.cell
            refine bodyPost_ret (v := .tuple #[repV 0 0 (.slice none 0 0) 0 0 0 (.slice none 0 0), .int .i64 E0]) (by simp [results, Try.results22, go_sem, rc]) rfl ?_
            exact decPost_zero HE.out HE0.out (grownBy_new (grownBy_new HDk.out.G gs (Nat.le_of_lt HDk.out.hg)) Gh (Nat.le_refl _))
end Go.Proofs.Ytiagjiaahnkefaa

/- Worlds that have changed in some blocks (S) and have grown. -/
namespace Go.Proofs.Ytiagjiaahnkefaa
open Go.RowKit

structure GrownS (S : Nat → Prop) (w w' : World) : Prop where
  os : w'.os = w.os
  tape : w'.tape = w.tape
  output : w'.output = w.output
  size : w.heap.size ≤ w'.heap.size
  block : ∀ i, i < w.heap.size → ¬ S i → w'.heap[i]? = w.heap[i]?
theorem GrownS.refl (S : Nat → Prop) (w : World) : GrownS S w w := ⟨rfl, rfl, rfl, Nat.le_refl _, fun _ _ _ => rfl⟩
/-- The second step may touch what the first has made. -/
theorem GrownS.trans {S T : Nat → Prop} {a b c : World} (h : GrownS S a b) (k : GrownS T b c) (hT : ∀ i, T i → i < a.heap.size → S i) : GrownS S a c :=
  ⟨k.os.trans h.os, k.tape.trans h.tape, k.output.trans h.output, Nat.le_trans h.size k.size, fun i hi hn => (k.block i (Nat.lt_of_lt_of_le hi h.size) (fun ht => hn (hT i ht hi))).trans (h.block i hi hn)⟩
theorem GrownS.mono {S T : Nat → Prop} {a b : World} (h : GrownS S a b) (hT : ∀ i, S i → i < a.heap.size → T i) : GrownS T a b := ⟨h.os, h.tape, h.output, h.size, fun i hi hn => h.block i hi (fun hs => hn (hT i hs hi))⟩
theorem GrownS.of {S : Nat → Prop} {w w' : World} {r : Option Nat} (h : w.grownBy w' r) (hr : ∀ k, r = some k → S k) : GrownS S w w' :=
  ⟨h.os, h.tape, h.output, h.size, fun i hi hn => h.block i hi (fun e => hn (hr i e.symm))⟩
theorem GrownS.none_ {S : Nat → Prop} {w w' : World} (h : w.grownBy w' none) : GrownS S w w' := GrownS.of h (by simp)
theorem GrownS.base {S : Nat → Prop} {w0 w w' : World} (h : w0.grownBy w none) (k : GrownS S w w') (hS : ∀ i, S i → w0.heap.size ≤ i) : w0.grownBy w' none :=
  ⟨k.os.trans h.os, k.tape.trans h.tape, k.output.trans h.output, Nat.le_trans h.size k.size, fun i hi hn => (k.block i (Nat.lt_of_lt_of_le hi h.size) (fun hs => by have := hS i hs; omega)).trans (h.block i hi hn)⟩
theorem GrownS.back {S : Nat → Prop} {w w' : World} (k : GrownS S w w') (hS : ∀ i, i < w.heap.size → ¬ S i) : w.grownBy w' none := ⟨k.os, k.tape, k.output, k.size, fun i hi _ => k.block i hi (hS i hi)⟩
theorem Blk.keptS {S : Nat → Prop} {w w' : World} {g : Nat} {cs : Array Value} (h : Blk w g cs) (k : GrownS S w w') (hS : ¬ S g) : Blk w' g cs := by
  have hl := h.lt
  obtain ⟨t, h⟩ := h.blk
  exact ⟨t, (k.block g hl hS).trans h⟩
theorem Own.keptS {α : Type} {f : α → List Value} {s : Nat} {e : TypeId} {B : Nat} {w w' : World} {v : Value} {l : List α} {S : Nat → Prop} (h : Own f s e B w v l) (k : GrownS S w w') (hS : ∀ g, v.ownBlock = some g → ¬ S g) : Own f s e B w' v l := by
  refine ⟨h.1, ?_⟩
  rcases h.2 with h0 | ⟨g, cap, cur, rfl, h1, h2, h3⟩
  · exact .inl h0
  · exact .inr ⟨g, cap, cur, rfl, h1, (k.block g (Array.getElem?_eq_some_iff.1 h2).1 (hS g rfl)).trans h2, h3⟩
theorem Rd.keptS {w w' : World} {size : Nat} {v : Value} {n : Nat} {xs : List Value} {S : Nat → Prop} (h : Rd w size v n xs) (k : GrownS S w w') (hS : 0 < n → ∀ a n' c, v = .slice (some a) n' c → ¬ S a.block) : Rd w' size v n xs := by
  obtain ⟨h1, h0, h2⟩ := h
  refine ⟨h1, h0, ?_⟩
  rcases h2 with h2 | ⟨g, off, cap, hv, hlt, hc⟩
  · exact .inl h2
  · rcases Nat.eq_zero_or_pos n with hn | hn
    · exact .inl ⟨hn, some ⟨g, off, none⟩, cap, by rw [hv, hn]⟩
    · refine .inr ⟨g, off, cap, hv, Nat.lt_of_lt_of_le hlt k.size, fun j u hu => ?_⟩
      rw [World.cell?_of_block (a := ⟨g, off + j, none⟩) (k.block g hlt (hS hn _ _ _ hv))]
      exact hc j u hu
theorem RdL.keptS {α : Type} {f : α → List Value} {s : Nat} {w w' : World} {v : Value} {l : List α} {S : Nat → Prop} (h : RdL f s w v l) (k : GrownS S w w') (hS : 0 < l.length → ∀ a n' c, v = .slice (some a) n' c → ¬ S a.block) : RdL f s w' v l := Rd.keptS h k hS
theorem ownsMap_keptS {H : Type} {P : Program} {kt : TypeId} {R : Value → Option (DataW H × List MemPlace)} {w w' : World} {b n : Nat} {D : DataW H} {S : Nat → Prop} (h : w.ownsMap P kt R b n D) (k : GrownS S w w') (hS : ¬ S b) : w'.ownsMap P kt R b n D := by
  have hl := h.lt
  obtain ⟨es, clock, hb, h⟩ := h
  exact ⟨es, clock, (k.block b hl hS).trans hb, h⟩
end Go.Proofs.Ytiagjiaahnkefaa

/- append that keeps what lies there: a class of worlds for regions that make a slice anew by several appends. -/
namespace Go.Proofs.Ytiagjiaahnkefaa
open Go.RowKit

/-- In place, or in a new block. -/
theorem run_app2 {w : World} {st e ty : TypeId} {z : Value} {size bytes : Nat} (E : Elt st e z size bytes) {base : Nat} {v : Value} {n : Nat} {xs : List Value} (hown : w.ownsRow base e size v n xs)
    {A : Option Addr} {m c : Nat} {news : List Value} (hr : Rd w size (.slice A m c) m news) (h1 : ∀ u ∈ news, u.oneCell' = true) (h63 : n + m ≤ maxLen) (hb : (n + m) * bytes ≤ 140737488355328) (hbase : base ≤ w.heap.size) :
    ∃ v' w', (Builtin.append_ #[st, st] ty #[v, .slice A m c]).run Try.prog w = .ok v' w' ∧ w'.ownsRow base e size v' (n + m) (xs ++ news) ∧ w.grownBy w' v.ownBlock ∧
      ((∃ g cap cur, v = .slice (some ⟨g, 0, none⟩) n cap ∧ v' = .slice (some ⟨g, 0, none⟩) (n + m) cap ∧ w.heap[g]? = some (.cells cur e (0, 0)) ∧ w'.heap[g]? = some (.cells (cur.toList.take (n * size) ++ news ++ cur.toList.drop (n * size + news.length)).toArray e (0, 0))) ∨ w.grownBy w' none) := by
  obtain ⟨i, hi, hz0, hz1, hz2⟩ := info_parts E.info
  obtain ⟨v', w', hrun, h2, h3, h4⟩ := run_app (ty := ty) E hown hr h1 h63 hb hbase
  refine ⟨v', w', hrun, h2, h3, ?_⟩
  have key : ∀ ad : Addr, (∀ j u, news[j]? = some u → w.cell? (ad.add j) = some u) → A = some ad → (∃ g cap cur, v = .slice (some ⟨g, 0, none⟩) n cap ∧ v' = .slice (some ⟨g, 0, none⟩) (n + m) cap ∧ w.heap[g]? = some (.cells cur e (0, 0)) ∧ w'.heap[g]? = some (.cells (cur.toList.take (n * size) ++ news ++ cur.toList.drop (n * size + news.length)).toArray e (0, 0))) ∨ w.grownBy w' none := by
    intro ad hc e
    subst e
    have hl := hr.1
    rcases hown.2 with ⟨rfl, rfl⟩ | ⟨g, cap, cur, rfl, hbg, hg, hnc, hcm, hcs, htake⟩
    · exact .inr h3
    · by_cases hroom : n + m ≤ cap
      · have hfit : n * i.size + news.length ≤ cur.size := by rw [hz1, hl, hcs, ← Nat.add_mul]; exact Nat.mul_le_mul_right _ hroom
        have hr2 := run_append_room (P := Try.prog) w st ty e i E.ht hi g n cap cur hg ad m c news (by rw [hz1]; exact hl) hc h1 hroom hfit
        rw [hr2] at hrun
        cases hrun
        rw [hz1]
        exact .inl ⟨g, cap, cur, rfl, rfl, hg, setRow_heap w g cur _ e _ hg⟩
      · have holds : ∀ j u, xs[j]? = some u → w.cell? ((⟨g, 0, none⟩ : Addr).add j) = some u := hown.cells (g := g) rfl
        have hr2 := run_append_grow (P := Try.prog) w st ty e i z E.ht hi hz0 ⟨g, 0, none⟩ n cap xs (by rw [hz1]; exact hown.1) holds ad m c news (by rw [hz1]; exact hl) hc (by omega) (by unfold maxLen at h63; omega) (growslice_fits (by omega) (by rw [hz2]; exact hb))
        rw [hr2] at hrun
        cases hrun
        exact .inr (grownBy_new_block (grownBy_drew (grownBy_refl _ _)) _)
  rcases hr.2.2 with ⟨rfl, a, cap, hv⟩ | ⟨g, off, cap, hv, _, hc⟩
  · have hn : news = [] := List.eq_nil_of_length_eq_zero (by simpa using hr.1)
    subst hn
    cases A with
    | none =>
      have hr2 := run_app_nil (ty := ty) E hown c
      rw [hr2] at hrun
      cases hrun
      exact .inr (grownBy_refl _ _)
    | some ad => exact key ad (by simp) rfl
  · cases hv
    refine key _ (fun j u hu => ?_) rfl
    have e : (⟨g, off, none⟩ : Addr).add j = ⟨g, off + j, none⟩ := by unfold Addr.add; split <;> simp_all
    rw [e]; exact hc j u hu

section
variable {α : Type} {f : α → List Value} {st e : TypeId} {z : Value} {size bytes : Nat}
/-- Blocks below N stand; so do the rows from N on that hold what P allows. -/
structure Keep (f : α → List Value) (size : Nat) (e : TypeId) (N : Nat) (P : List α → Prop) (w w' : World) : Prop where
  grown : GrownS (fun i => N ≤ i) w w'
  own : ∀ T v, P T → Own f size e N w v T → Own f size e N w' v T
variable {N : Nat} {P : List α → Prop} {w w' w'' : World}
theorem Keep.refl (f : α → List Value) (size : Nat) (e : TypeId) (N : Nat) (P : List α → Prop) (w : World) : Keep f size e N P w w := ⟨GrownS.refl _ _, fun _ _ _ h => h⟩
theorem Keep.trans (h : Keep f size e N P w w') (k : Keep f size e N P w' w'') : Keep f size e N P w w'' := ⟨h.grown.trans k.grown (fun _ hi _ => hi), fun T v hp ho => k.own T v hp (h.own T v hp ho)⟩
theorem Keep.of (h : w.grownBy w' none) : Keep f size e N P w w' := ⟨GrownS.none_ h, fun _ _ _ ho => ho.same h⟩
theorem Keep.rd {β : Type} {g : β → List Value} {s : Nat} {v : Value} {l : List β} (h : Keep f size e N P w w') (hr : RdL g s w v l) (hv : 0 < l.length → ∀ a n c, v = .slice (some a) n c → a.block < N) : RdL g s w' v l :=
  hr.keptS h.grown fun h0 a n c e h1 => by have := hv h0 a n c e; omega
theorem Keep.blk {g : Nat} {cs : Array Value} (h : Keep f size e N P w w') (hb : Blk w g cs) (hg : g < N) : Blk w' g cs := hb.keptS h.grown (by omega)
/-- What append keeps. -/
theorem own_keeps {v v' : Value} {l l2 T : List α} (hf : ∀ x, (f x).length = size) (hpos : 0 < size) (ho : Own f size e N w v l) (ho' : Own f size e N w' v' (l ++ l2)) (hg : w.grownBy w' v.ownBlock)
    (hc : (∃ g cap cur, v = .slice (some ⟨g, 0, none⟩) l.length cap ∧ v' = .slice (some ⟨g, 0, none⟩) (l.length + l2.length) cap ∧ w.heap[g]? = some (.cells cur e (0, 0)) ∧ w'.heap[g]? = some (.cells (cur.toList.take (l.length * size) ++ cellsOf f l2 ++ cur.toList.drop (l.length * size + (cellsOf f l2).length)).toArray e (0, 0))) ∨ w.grownBy w' none)
    (hT : T.length ≤ l.length ∨ T <+: l ++ l2 ∨ l ++ l2 <+: T)
    {u : Value} (hu : Own f size e N w u T) : Own f size e N w' u T := by
  rcases hc with ⟨g, cap, cur, rfl, rfl, hc1, hc2⟩ | hc
  · by_cases hub : u.ownBlock = some g
    · rcases hu.2 with ⟨rfl, h0⟩ | ⟨g', cap', cur', rfl, hb', hg', hn', hm', hs', ht'⟩
      · simp [Value.ownBlock] at hub
      · have e1 : g' = g := by simpa [Value.ownBlock] using hub
        subst e1
        rw [hc1] at hg'
        cases hg'
        rcases ho.2 with ⟨h0, _⟩ | ⟨g1, cap1, cur1, e1, _, hg1, hn1, _, hs1, ht1⟩
        · cases h0
        · cases e1
          rw [hc1] at hg1
          cases hg1
          rcases ho'.2 with ⟨h0, _⟩ | ⟨g2, cap2, cur2, e2, _, hg2, hn2, hm2, hs2, ht2⟩
          · cases h0
          · obtain ⟨e3, _, e4⟩ := Value.slice.inj e2
            cases e3
            subst e4
            rw [hc2] at hg2
            cases hg2
            have hl2 : (cellsOf f l2).length = l2.length * size := length_cellsOf f size hf l2
            have hroom : l.length * size + l2.length * size ≤ cap * size := by
              rw [← Nat.add_mul, ← List.length_append]; exact Nat.mul_le_mul_right _ hn2
            have hcc : cap' = cap := Nat.eq_of_mul_eq_mul_right hpos (by rw [← hs', hs1])
            subst hcc
            refine ⟨hu.1, .inr ⟨g', cap', _, rfl, hb', hc2, hn', hm', hs2, ?_⟩⟩
            rcases hT with h | ⟨r, hr⟩ | ⟨r, hr⟩
            · have hle : T.length * size ≤ l.length * size := Nat.mul_le_mul_right _ h
              have e9 : cur.toList.length = cur.size := Array.length_toList (xs := cur)
              have hA : l.length * size ≤ cur.toList.length := by omega
              show List.take _ (cur.toList.take _ ++ _ ++ _) = _
              rw [List.append_assoc, List.take_append_of_le_length (by rw [List.length_take]; omega), List.take_take, Nat.min_eq_left hle]
              exact ht'
            · have hlen : (cellsOf f T).length = T.length * size := length_cellsOf f size hf T
              have hle : T.length * size ≤ (cellsOf f l ++ cellsOf f l2).length := by
                rw [← cellsOf_append, ← hr, cellsOf_append, List.length_append, hlen]; omega
              show List.take _ (cur.toList.take _ ++ _ ++ _) = _
              rw [ht1, List.take_append_of_le_length hle, ← cellsOf_append, ← hr, cellsOf_append, ← hlen, List.take_left]
            · have h1 : cur.toList.take (l.length * size + (cellsOf f l2).length) = cellsOf f l ++ cellsOf f l2 := by
                have hle : l.length * size + (cellsOf f l2).length ≤ T.length * size := by
                  rw [hl2, ← Nat.add_mul, ← hr, List.length_append, List.length_append]; exact Nat.mul_le_mul_right _ (by omega)
                have : (cur.toList.take (T.length * size)).take (l.length * size + (cellsOf f l2).length) = cellsOf f l ++ cellsOf f l2 := by
                  rw [ht', ← hr, cellsOf_append, cellsOf_append]
                  have e5 : l.length * size + (cellsOf f l2).length = (cellsOf f l ++ cellsOf f l2).length := by rw [List.length_append, length_cellsOf f size hf l]
                  rw [e5, List.take_left]
                rwa [List.take_take, Nat.min_eq_left hle] at this
              show List.take _ (cur.toList.take _ ++ _ ++ _) = _
              rw [ht1, ← h1, List.take_append_drop]
              exact ht'
    · exact hu.kept hg (fun k hk e => hub (by rw [hk]; simpa [Value.ownBlock] using e.symm))
  · exact hu.same hc
section
variable {v : Value} {l l2 : List α} {A : Option Addr} {m c : Nat}
variable {o : Oper} {a : Act} {ops : Array Oper} {rest : List Oper} {Q : Exit → Act → World → Prop}
theorem app_keep (E : Elt st e z size bytes) (h1 : OneF f) (hf : ∀ x, (f x).length = size) (hown : Own f size e N w v l) (hr : RdL f size w (.slice A m c) l2) (hm : m = l2.length) (hb : (l.length + l2.length) * bytes ≤ 140737488355328) (h63 : l.length + l2.length ≤ 9223372036854775807) (hbase : N ≤ w.heap.size)
    (hP : ∀ T, P T → T.length ≤ l.length ∨ T <+: l ++ l2 ∨ l ++ l2 <+: T)
    (hgd : o.guard = none) (s x : Operand) (ho : o.op = .call { callee := .builtin .append, args := #[s, x], argTypes := #[st, st] }) (hs : a.eval s = v) (hx : a.eval x = .slice A m c)
    (h : ∀ v' w', Own f size e N w' v' (l ++ l2) → Keep f size e N P w w' → wpList Try.prog ops Q rest (a.put o.dst v') w') : wpList Try.prog ops Q (o :: rest) a w := by
  refine wpList_plain hgd fun _ hK => ?_
  subst hm
  obtain ⟨v', w', hrun, h2, h3, h4⟩ := run_app2 (ty := o.type) E hown hr (h1.cells l2) (by unfold maxLen; exact h63) hb hbase
  have h2' : Own f size e N w' v' (l ++ l2) := by unfold Own; rw [cellsOf_append, List.length_append]; exact h2
  unfold Oper.wp execOp
  simp only [ho, resolve, invoke, builtin, Sem.run_bind, Sem.run_pure, Result.andThen_ok, List.map_toArray, List.map_cons, List.map_nil, hs, hx, hrun]
  exact hK _ _ (h v' w' h2' ⟨GrownS.of h3 (fun k hk => (hown.lt k hk).1), fun T u hp hu => own_keeps hf E.pos hown h2' h3 h4 (hP T hp) hu⟩)
end
/-- One element in a new block. -/
theorem own_one' (hf : ∀ x, (f x).length = size) (w0 : World) (hN : N ≤ w0.heap.size) (y : α) (cs : Array Value) (hcs : cs.toList = f y) : Own f size e N (w0.alloc (.cells cs e)) (.slice (some ⟨w0.heap.size, 0, none⟩) 1 1) [y] := by
  have hl : cs.size = size := by rw [← Array.length_toList, hcs, hf]
  refine ⟨by simp [cellsOf, hf], .inr ⟨w0.heap.size, 1, cs, rfl, hN, heap_alloc_new w0 _, Nat.le_refl _, by unfold maxLen; omega, by omega, ?_⟩⟩
  rw [hcs]
  simp only [cellsOf, List.flatMap_cons, List.flatMap_nil, List.append_nil, List.length_cons, List.length_nil, Nat.zero_add, Nat.one_mul]
  rw [← hf y, List.take_length]
end
theorem Blk.manyK {α : Type} {f : α → List Value} {size : Nat} {w : World} {g : Nat} {cs : Array Value} (h : Blk w g cs) (hf : ∀ x, (f x).length = size) (l : List α) (hcs : cs.toList = cellsOf f l) (hl : l.length ≤ 9223372036854775807) : RdL f size w (.slice (some ⟨g, 0, none⟩) l.length l.length) l := by
  refine ⟨length_cellsOf f size hf l, hl, .inr ⟨g, 0, l.length, rfl, h.lt, fun j u hu => ?_⟩⟩
  rw [Nat.zero_add, h.cell j]
  rw [← hcs] at hu
  simpa using hu
end Go.Proofs.Ytiagjiaahnkefaa
