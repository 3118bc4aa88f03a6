/- The program's reader of operations: one operation. -/
import Derived.Test.YtniokdflljchgaaScrS
import Derived.Test.YtniokdflljchgaaConv
import Derived.Deep.RegionWith
import Derived.Deep.RegionLaw
namespace Go.Proofs.Ytniokdflljchgaa
open Go.RowKit Go.Sort

theorem one_intI : OneF intF := by intro x u hu; simp [intF] at hu; subst hu; rfl
theorem elt_intI : Elt 23 3 (.int .i64 0) 1 8 := ⟨Try.underlying23, by kernel_rfl, rfl, by decide⟩
theorem numF_0 {most : Nat} {over : Int} {l : List UInt8} {e : Int} (h : (numF most over l e).2.2 ≠ 0) : (numF most over l e).1 = 0 := by
  unfold numF at h ⊢
  by_cases h1 : e ≠ 0
  · rw [if_pos h1]
  rw [if_neg h1] at h ⊢
  by_cases h2 : (readF l).2.2 ≠ 0
  · rw [if_pos h2]
  rw [if_neg h2] at h ⊢
  by_cases h3 : most < (readF l).1
  · rw [if_pos h3]
  · rw [if_neg h3] at h; exact absurd rfl h

set_option maxHeartbeats 2000000 in
set_option maxRecDepth 100000 in
theorem sop_c (B g : Nat) (l : List UInt8) (e : Int) (w : World) (h : Rdr B w g l e) :
    Calls Try.prog 50 #[.pointer (some ⟨g, 0, none⟩)] w (OpP B g w (opD l e)) := by
  have hgl : g < w.heap.size := by obtain ⟨a, c, hb, -⟩ := h.ex; exact hb.lt
  obtain ⟨k, l1, e1, X⟩ : ∃ k l1 e1, numF 5 3 l e = (k, l1, e1) := ⟨_, _, _, rfl⟩
  have hk5 : k ≤ 5 := by have := (numF_w (most := 5) (over := 3) (l := l) (e := e)).2; rw [X] at this; exact this
  have HZ := Lib.hid (p := e1 ≠ 0 → k = 0) (fun h => by have := numF_0 (most := 5) (over := 3) (l := l) (e := e); rw [X] at this; exact this h)
  have HD := Lib.hid (show opD l e = if e1 ≠ 0 then (opZ 0, l1, e1) else opK k l1 by unfold opD; rw [X])
  have C1 := Lib.hid fun w' (h : Rdr B w' g l e) => X ▸ snum_c B g 5 3 l e w' h (by omega) (by omega)
  have H := Lib.hid h
  obtain ⟨κ, hκ⟩ : ∃ κ : Int, (k : Int) = κ := ⟨_, rfl⟩
  have Hκ := Lib.hid hκ
  clear h X hκ
  go_enter Try.func50, Try.ntmps50
  go_upto_region 1 with (refine alloc_op rfl rfl ?_; intro wa Aa ga za)
  (try simp only [Act.put, List.setIfInBounds_toArray, List.set_cons_zero, List.set_cons_succ])
  have HRa := Lib.hid (H.out.same ga)
  go_upto_region 2 with (first
    | (go_at_call 49; refine (C1.out _ HRa.out).mono ?_; rintro en wb ⟨hen, Rb, gb⟩; obtain rfl : en = .returned (.int .i64 κ) := hen.trans (by rw [← Hκ.out]); have Ab := Aa.kept gb (by simp; omega); have zb := Nat.lt_of_lt_of_le za gb.size)
    | (refine alloc_op rfl rfl ?_; intro wc Ac gc zc; have Bc := Ab.same gc; have Rc := Rb.same gc)
    | (refine store_op rfl _ _ rfl _ rfl rfl rfl rfl _ rfl Ac ?_; intro wd Ad gd))
  have D0 := Lib.hid (show OpS B g wb.heap.size [w.heap.size] w ⟨κ, .slice none 0 0, 0, 0, ⟨#[]⟩, .slice none 0 0, [], []⟩ l1 e1 wd from
    ⟨fun b hb => by
      rw [List.mem_singleton] at hb
      subst hb
      exact ⟨Bc.kept gd (by simp; omega), by omega, by omega⟩, Ad, Rc.kept gd (by simp; omega) (fun k e => by cases e; have := Rb.hg; omega), (Own.nil byF 1 5 0 wd).rd, inB_nil _ _ _ _, fun a n c e => by cases e; omega, Own.nil _ _ _ _ _, fun k hk => by simp [Value.ownBlock] at hk, grownBy_new (grownBy_trans (grownBy_trans (grownBy_some ga (some g)) gb) (grownBy_some gc _)) gd (by omega), by omega, by omega⟩)
  clear Aa ga za HRa Ab zb Rb gb Ac gc zc Bc Rc Ad gd C1 H
  have hgb : g < wb.heap.size := D0.out.hb
  have hwb : w.heap.size ≤ wb.heap.size := D0.out.hw
  generalize wb.heap.size = bx at *
  obtain ⟨az, cz, hbz, -, -, -⟩ := D0.out.rdr.ex
  have bc := hbz.cell
  have bf := hbz.free
  clear hbz
  by_cases he : e1 = 0
  · subst he
    have HD2 := Lib.hid (HD.out.trans (if_neg (by simp)))
    clear HD HZ
    have bxc := D0.out.box.cell
    rcases (show k = 0 ∨ k = 1 ∨ k = 2 ∨ k = 3 ∨ k = 4 ∨ k = 5 by omega) with rfl | rfl | rfl | rfl | rfl | rfl
    · obtain rfl : κ = 0 := Hκ.out.symm
      go_upto_region 20 with fail
      have D1 := Lib.hid (D0.out.setE 3)
      clear bc bf bxc D0
      generalize wd.setCell ⟨g, 1, none⟩ (.int .i64 3) = w1 at *
      have HBx := Lib.hid (D1).out.box
      have HRs := Lib.hid ((D1).out.res w.heap.size (by simp)).1
      go_wp2_with (first
        | (refine load_op rfl _ rfl _ rfl HBx.out ?_)
        | (refine store_op rfl _ _ rfl _ rfl rfl rfl rfl _ rfl HRs.out ?_; intro wh Ah Gh))
      have rc := Ah.cell
      refine bodyPost_ret (v := opV 0 (.slice none 0 0) 0 0 ⟨#[]⟩ (.slice none 0 0)) (by simp [results, Try.results50, go_sem, rc]) rfl ?_
      exact (D1).out.fin (b2 := w.heap.size) (by simp) Gh (Nat.le_refl _) HD2.out
    · obtain rfl : κ = 1 := Hκ.out.symm
      obtain ⟨tx, l2, e2, X1⟩ : ∃ tx l2 e2, textD 4096 l1 0 = (tx, l2, e2) := ⟨_, _, _, rfl⟩
      have HF := Lib.hid (show opD l e = (⟨1, .slice none 0 0, 0, 0, ⟨#[]⟩, .slice none 0 0, tx, []⟩, l2, e2) by rw [HD2.out, opK1, X1]; rfl)
      have Ct := Lib.hid fun w' (h : Rdr B w' g l1 0) => X1 ▸ stext_c B g 4096 l1 0 w' h (by omega)
      have htl : tx.length ≤ 4096 := by have := textD_len (most := 4096) (l := l1) (e := 0); rw [X1] at this; exact this
      have hsz : (⟨tx.toArray⟩ : ByteArray).size ≤ 9223372036854775807 := by simp [ByteArray.size]; omega
      clear X1 HD2
      go_upto_region 20 with (first
        | (go_at_call 73; refine (Ct.out _ D0.out.rdr).mono ?_; rintro en wx ⟨rfl, Rx, gx⟩; have Dx := D0.out.call Rx gx)
        | (refine conv_arm hsz rfl _ rfl rfl ?_; intro cc wy ry hc gy zy; have Dy := Dx.same gy; have yc := Dy.box.cell; have yf := Dy.box.free))
      have hxl := Dx.box.lt
      have D1 := Lib.hid (Dy.set ⟨1, .slice (some ⟨wx.heap.size, 0, none⟩) tx.length cc, 0, 0, ⟨#[]⟩, .slice none 0 0, tx, []⟩ 1 (.slice (some ⟨wx.heap.size, 0, none⟩) tx.length cc) rfl ry (fun a n c e => by cases e; show bx + 1 ≤ wx.heap.size ∧ wx.heap.size < wy.heap.size; omega) (fun a n c e => by cases e; exact hc) Dy.op (fun k hk => by simp [Value.ownBlock] at hk))
      clear bc bf bxc D0 Ct Rx gx Dx ry hc gy zy Dy yc yf
      generalize wy.setCell ⟨bx, 1, none⟩ (.slice (some ⟨wx.heap.size, 0, none⟩) tx.length cc) = w1 at *
      have HBx := Lib.hid (D1).out.box
      have HRs := Lib.hid ((D1).out.res w.heap.size (by simp)).1
      go_wp2_with (first
        | (refine load_op rfl _ rfl _ rfl HBx.out ?_)
        | (refine store_op rfl _ _ rfl _ rfl rfl rfl rfl _ rfl HRs.out ?_; intro wh Ah Gh))
      have rc := Ah.cell
      refine bodyPost_ret (v := opV 1 (.slice (some ⟨wx.heap.size, 0, none⟩) tx.length cc) 0 0 ⟨#[]⟩ (.slice none 0 0)) (by simp [results, Try.results50, go_sem, rc]) rfl ?_
      exact (D1).out.fin (b2 := w.heap.size) (by simp) Gh (Nat.le_refl _) HF.out
    · obtain rfl : κ = 2 := Hκ.out.symm
      obtain ⟨t, l2, e2, X1⟩ : ∃ t l2 e2, numF 1099511627776 1 l1 0 = (t, l2, e2) := ⟨_, _, _, rfl⟩
      obtain ⟨n, l3, e3, X2⟩ : ∃ n l3 e3, numF 8 4 l2 e2 = (n, l3, e3) := ⟨_, _, _, rfl⟩
      have HF := Lib.hid (show opD l e = (⟨2, .slice none 0 0, t, 0, ⟨#[]⟩, .slice none 0 0, [], (picksD n l3 e3).1⟩, (picksD n l3 e3).2) by rw [HD2.out, opK2]; simp only [timeF, X1, X2]; rfl)
      have Ct := Lib.hid fun w' (h : Rdr B w' g l1 0) => X1 ▸ snum_c B g 1099511627776 1 l1 0 w' h (by omega) (by omega)
      have Cn := Lib.hid fun w' (h : Rdr B w' g l2 e2) => X2 ▸ snum_c B g 8 4 l2 e2 w' h (by omega) (by omega)
      have hn8 : n ≤ 8 := by have := (numF_w (most := 8) (over := 4) (l := l2) (e := e2)).2; rw [X2] at this; exact this
      clear X1 X2 HD2
      go_upto_region 10 with (go_at_call 49; refine ((Ct).out _ (D0).out.rdr).mono ?_; rintro en wx ⟨rfl, Rx, gx⟩; have Dx := (D0).out.call Rx gx; have ac := Dx.box.cell; have af := Dx.box.free)
      have D1 := Lib.hid (Dx.set ⟨2, .slice none 0 0, t, 0, ⟨#[]⟩, .slice none 0 0, [], []⟩ 2 (.int .i64 t) rfl Dx.od Dx.oi Dx.oc Dx.op Dx.ap)
      clear Dx Rx gx ac af Ct D0
      generalize wx.setCell ⟨bx, 2, none⟩ (.int .i64 t) = w1 at *
      clear wx
      clear bxc bc bf
      go_upto_region 11 with (go_at_call 49; refine (Cn.out _ D1.out.rdr).mono ?_; rintro en wy ⟨rfl, Ry, gy⟩)
      have D2 := Lib.hid (D1.out.call Ry gy)
      clear Ry gy D1 Cn
      go_loopw [31] (fun s31 wk => ∃ (j : Nat) (vp : Value), j ≤ n ∧ s31 = .int .i64 j ∧ OpS B g bx [w.heap.size] w ⟨2, .slice none 0 0, t, 0, ⟨#[]⟩, vp, [], (picksD j l3 e3).1⟩ (picksD j l3 e3).2.1 (picksD j l3 e3).2.2 wk) (fun s31 _ => n - (intOf s31).toNat)
      case atStart => exact ⟨0, _, by omega, rfl, D2.out⟩
      case round =>
        clear D2
        obtain ⟨j, vp, hj, rfl, hD⟩ := hrel
        have HDk := Lib.hid hD
        clear hD
        by_cases hlt : j < n
        · have hlen := picks_len j l3 e3
          have HS := Lib.hid (show ((picksD j l3 e3).1 ++ [((numF 1099511627776 1 (picksD j l3 e3).2.1 (picksD j l3 e3).2.2).1 : Int)], (numF 1099511627776 1 (picksD j l3 e3).2.1 (picksD j l3 e3).2.2).2) = picksD (j + 1) l3 e3 from rfl)
          generalize picksD j l3 e3 = LD at *
          obtain ⟨y, ly, ey, hXk⟩ : ∃ y r e, numF 1099511627776 1 LD.2.1 LD.2.2 = (y, r, e) := ⟨_, _, _, rfl⟩
          have Ck := Lib.hid fun w' (h : Rdr B w' g LD.2.1 LD.2.2) => hXk ▸ snum_c B g 1099511627776 1 _ _ w' h (by omega) (by omega)
          rw [hXk] at HS
          clear hXk
          have Dd := HDk.out.same (w' := wr.drew) (by (repeat (first | exact grownBy_refl _ _ | assumption | refine grownBy_new_block ?_ _ | refine grownBy_drew ?_ | refine grownBy_drewN ?_ _ | refine grownBy_setNew ?_ (by first | (simp; done) | omega | (simp; omega)) _)))
          have ac := Dd.box.cell
          have hj1 : (j : Int) < (n : Int) := by omega
          have HDd := Lib.hid Dd
          have hb3 : (LD.1.length + 1) * 8 ≤ 140737488355328 := by omega
          have hb4 : LD.1.length + 1 ≤ 9223372036854775807 := by omega
          have Hcs := Lib.hid (show (#[Value.int .i64 (y : Int)] : Array Value).toList = intF y from rfl)
          have tok := Lib.hid hj1
          have Hlen := Lib.hid hlen
          clear Dd HDk hlen
          go_wp2_with fail
          go_region_law (first
            | (have _t := tok; refine step_app_one elt_intI one_intI intF_len Dx.op (y : Int) hb3 hb4 hbase Hcs.out (by rfl) _ _ (by rfl) (by rfl) (by rfl) ?_; intro v3 w3 o3 g3 l3'; clear tok; obtain ⟨a3, c3, rfl⟩ := o3.shape; obtain ⟨b3, D3⟩ := Dx.app o3 g3 l3'; have ac3 := b3.cell; have af3 := b3.free)
            | (go_simp; go_at_call 49; refine (Ck.out _ HDd.out.rdr).mono ?_; rintro en wx ⟨rfl, Rx, gx⟩; have Dx := HDd.out.call Rx gx; have axc := Dx.box.cell; have axd := (Dx.same (World.grownBy_alloc wx (.cells #[.int .i64 (y : Int)] 3) none)).box.cell; have hbase : bx + 1 ≤ wx.heap.size := Dx.box.lt))
          all_goals
            have HD3 := Lib.hid D3
            clear D3 ac3 af3 b3 l3' o3 g3 axc axd Rx gx Dx ac HDd Ck
            go_wp2_with fail
            have D4 := HD3.out
            simp only [List.length_append, List.length_singleton] at D4
            exact ⟨⟨j + 1, _, by omega, by go_num, by rw [← HS.out]; exact D4⟩, by simp [intOf]; omega⟩
        · obtain rfl : j = n := by omega
          clear hlt hj
          generalize picksD j l3 e3 = LD at *
          have hsh := HDk.out.op.shape
          dsimp only at hsh
          obtain ⟨pa, pc, rfl⟩ := hsh
          have HBx := Lib.hid (HDk).out.box
          have HRs := Lib.hid ((HDk).out.res w.heap.size (by simp)).1
          go_wp2_with (first
            | (refine load_op rfl _ rfl _ rfl HBx.out ?_)
            | (refine store_op rfl _ _ rfl _ rfl rfl rfl rfl _ rfl HRs.out ?_; intro wh Ah Gh))
          have rc := Ah.cell
          refine bodyPost_ret (v := opV 2 (.slice none 0 0) t 0 ⟨#[]⟩ (.slice pa LD.1.length pc)) (by simp [results, Try.results50, go_sem, rc]) rfl ?_
          exact (HDk).out.fin (b2 := w.heap.size) (by simp) Gh (Nat.le_refl _) HF.out
    · obtain rfl : κ = 3 := Hκ.out.symm
      obtain ⟨t, l2, e2, X1⟩ : ∃ t l2 e2, numF 1099511627776 1 l1 0 = (t, l2, e2) := ⟨_, _, _, rfl⟩
      have HF := Lib.hid (show opD l e = (⟨3, .slice none 0 0, 0, t, ⟨#[]⟩, .slice none 0 0, [], []⟩, l2, e2) by rw [HD2.out, opK3]; simp only [timeF, X1]; rfl)
      have Ct := Lib.hid fun w' (h : Rdr B w' g l1 0) => X1 ▸ snum_c B g 1099511627776 1 l1 0 w' h (by omega) (by omega)
      clear X1 HD2
      go_upto_region 20 with (go_at_call 49; refine ((Ct).out _ (D0).out.rdr).mono ?_; rintro en wx ⟨rfl, Rx, gx⟩; have Dx := (D0).out.call Rx gx; have ac := Dx.box.cell; have af := Dx.box.free)
      have D1 := Lib.hid (Dx.set ⟨3, .slice none 0 0, 0, t, ⟨#[]⟩, .slice none 0 0, [], []⟩ 3 (.int .i64 t) rfl Dx.od Dx.oi Dx.oc Dx.op Dx.ap)
      clear Dx Rx gx ac af Ct D0
      generalize wx.setCell ⟨bx, 3, none⟩ (.int .i64 t) = w1 at *
      clear wx
      clear bxc bc bf
      have HBx := Lib.hid (D1).out.box
      have HRs := Lib.hid ((D1).out.res w.heap.size (by simp)).1
      go_wp2_with (first
        | (refine load_op rfl _ rfl _ rfl HBx.out ?_)
        | (refine store_op rfl _ _ rfl _ rfl rfl rfl rfl _ rfl HRs.out ?_; intro wh Ah Gh))
      have rc := Ah.cell
      refine bodyPost_ret (v := opV 3 (.slice none 0 0) 0 t ⟨#[]⟩ (.slice none 0 0)) (by simp [results, Try.results50, go_sem, rc]) rfl ?_
      exact (D1).out.fin (b2 := w.heap.size) (by simp) Gh (Nat.le_refl _) HF.out
    · obtain rfl : κ = 4 := Hκ.out.symm
      have HF := Lib.hid (show opD l e = (⟨4, .slice none 0 0, 0, 0, ⟨#[]⟩, .slice none 0 0, [], []⟩, l1, 0) by rw [HD2.out, opK4]; rfl)
      clear HD2
      have HBx := Lib.hid (D0).out.box
      have HRs := Lib.hid ((D0).out.res w.heap.size (by simp)).1
      go_wp2_with (first
        | (refine load_op rfl _ rfl _ rfl HBx.out ?_)
        | (refine store_op rfl _ _ rfl _ rfl rfl rfl rfl _ rfl HRs.out ?_; intro wh Ah Gh))
      have rc := Ah.cell
      refine bodyPost_ret (v := opV 4 (.slice none 0 0) 0 0 ⟨#[]⟩ (.slice none 0 0)) (by simp [results, Try.results50, go_sem, rc]) rfl ?_
      exact (D0).out.fin (b2 := w.heap.size) (by simp) Gh (Nat.le_refl _) HF.out
    · obtain rfl : κ = 5 := Hκ.out.symm
      obtain ⟨tx, l2, e2, X1⟩ : ∃ tx l2 e2, textD 255 l1 0 = (tx, l2, e2) := ⟨_, _, _, rfl⟩
      obtain ⟨t, l3, e3, X2⟩ : ∃ t l3 e3, numF 1099511627776 1 l2 e2 = (t, l3, e3) := ⟨_, _, _, rfl⟩
      have HF := Lib.hid (show opD l e = (⟨5, .slice none 0 0, t, 0, ⟨tx.toArray⟩, .slice none 0 0, [], []⟩, l3, e3) by rw [HD2.out, opK5]; simp only [timeF, X1, X2]; rfl)
      have Ct := Lib.hid fun w' (h : Rdr B w' g l1 0) => X1 ▸ stext_c B g 255 l1 0 w' h (by omega)
      have Cn := Lib.hid fun w' (h : Rdr B w' g l2 e2) => X2 ▸ snum_c B g 1099511627776 1 l2 e2 w' h (by omega) (by omega)
      clear X1 X2 HD2
      go_upto_region 19 with (go_at_call 73; refine ((Ct).out _ (D0).out.rdr).mono ?_; rintro en wx ⟨rfl, Rx, gx⟩; have Dx := (D0).out.call Rx gx; have ac := Dx.box.cell; have af := Dx.box.free)
      have D1 := Lib.hid (Dx.set ⟨5, .slice none 0 0, 0, 0, ⟨tx.toArray⟩, .slice none 0 0, [], []⟩ 4 (.string ⟨tx.toArray⟩) rfl Dx.od Dx.oi Dx.oc Dx.op Dx.ap)
      clear Dx Rx gx ac af Ct D0
      generalize wx.setCell ⟨bx, 4, none⟩ (.string ⟨tx.toArray⟩) = w1 at *
      clear wx
      go_upto_region 20 with (go_at_call 49; refine ((Cn).out _ (D1).out.rdr).mono ?_; rintro en wx ⟨rfl, Rx, gx⟩; have Dx := (D1).out.call Rx gx; have ac := Dx.box.cell; have af := Dx.box.free)
      have D2 := Lib.hid (Dx.set ⟨5, .slice none 0 0, t, 0, ⟨tx.toArray⟩, .slice none 0 0, [], []⟩ 2 (.int .i64 t) rfl Dx.od Dx.oi Dx.oc Dx.op Dx.ap)
      clear Dx Rx gx ac af Cn D1
      generalize wx.setCell ⟨bx, 2, none⟩ (.int .i64 t) = w2 at *
      clear wx
      clear bxc bc bf
      have HBx := Lib.hid (D2).out.box
      have HRs := Lib.hid ((D2).out.res w.heap.size (by simp)).1
      go_wp2_with (first
        | (refine load_op rfl _ rfl _ rfl HBx.out ?_)
        | (refine store_op rfl _ _ rfl _ rfl rfl rfl rfl _ rfl HRs.out ?_; intro wh Ah Gh))
      have rc := Ah.cell
      refine bodyPost_ret (v := opV 5 (.slice none 0 0) t 0 ⟨tx.toArray⟩ (.slice none 0 0)) (by simp [results, Try.results50, go_sem, rc]) rfl ?_
      exact (D2).out.fin (b2 := w.heap.size) (by simp) Gh (Nat.le_refl _) HF.out
  · have he2 : (e1 != 0) = true := by simpa using he
    have he3 : (e1 == 0) = false := by simpa using he
    obtain rfl := HZ.out he
    obtain rfl : κ = 0 := Hκ.out.symm
    have HD2 := Lib.hid (HD.out.trans (if_pos he))
    clear HD HZ he
    have HBx := Lib.hid (D0).out.box
    have HRs := Lib.hid ((D0).out.res w.heap.size (by simp)).1
    go_wp2_with (first
      | (refine load_op rfl _ rfl _ rfl HBx.out ?_)
      | (refine store_op rfl _ _ rfl _ rfl rfl rfl rfl _ rfl HRs.out ?_; intro wh Ah Gh))
    have rc := Ah.cell
    refine bodyPost_ret (v := opV 0 (.slice none 0 0) 0 0 ⟨#[]⟩ (.slice none 0 0)) (by simp [results, Try.results50, go_sem, rc]) rfl ?_
    exact (D0).out.fin (b2 := w.heap.size) (by simp) Gh (Nat.le_refl _) HD2.out
end Go.Proofs.Ytniokdflljchgaa
