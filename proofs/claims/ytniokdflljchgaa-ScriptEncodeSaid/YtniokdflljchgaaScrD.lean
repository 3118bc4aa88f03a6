/- The program's reader of operations: numbers, texts. -/
import Derived.Test.YtniokdflljchgaaRdr
import Derived.Test.YtniokdflljchgaaScrP
namespace Go.Proofs.Ytniokdflljchgaa
open Go.RowKit Go.Sort

def NumPI (B g : Nat) (w : World) (F : Nat × List UInt8 × Int) (en : Ending) (w' : World) : Prop :=
  en = .returned (.int .i64 F.1) ∧ Rdr B w' g F.2.1 F.2.2 ∧ w.grownBy w' (some g)
def TextP (B g : Nat) (w : World) (F : List UInt8 × List UInt8 × Int) (en : Ending) (w' : World) : Prop :=
  en = .returned (.string ⟨F.1.toArray⟩) ∧ Rdr B w' g F.2.1 F.2.2 ∧ w.grownBy w' (some g)

set_option maxHeartbeats 1000000 in
set_option maxRecDepth 100000 in
theorem snum_c (B g most : Nat) (over : Int) (l : List UInt8) (e : Int) (w : World) (h : Rdr B w g l e) (hm : most < 4611686018427387904) (ho : 0 < over) :
    Calls Try.prog 49 #[.pointer (some ⟨g, 0, none⟩), .int .i64 most, .int .i64 over] w (NumPI B g w (numF most over l e)) := by
  obtain ⟨a, c, hb, hr, hlc, hab⟩ := h.ex
  have hgB := h.hg
  have hbl := hb.cell
  by_cases he : e ≠ 0
  · have hF := Lib.hid (show numF most over l e = (0, l, e) from if_pos he)
    have he2 : (e != 0) = true := by simp [he]
    have H := Lib.hid h
    clear h hr he hb
    go_enter Try.func49, Try.ntmps49
    go_wp2
    go_ret
    exact ⟨by rw [hF.out]; rfl, by rw [hF.out]; exact H.out, grownBy_refl _ _⟩
  · obtain rfl : e = 0 := by omega
    have C := Lib.hid fun w' (k : World.grownBy w w' none) => read_c _ l w' (hr.same k)
    have hu := readF_used l
    have hw := readF_w l
    have HE := Lib.hid (readF_err l)
    have HN := Lib.hid (show numF most over l 0 = if (readF l).2.2 ≠ 0 then (0, l, (readF l).2.2) else if most < (readF l).1 then (0, l.drop (readF l).2.1, over) else ((readF l).1, l.drop (readF l).2.1, 0) from if_neg he)
    have hfr := hb.free
    have HR := Lib.hid hr
    have HB := Lib.hid hb
    have HA := Lib.hid hab
    clear h hr he hb hab
    obtain ⟨n, u, f, hF⟩ : ∃ n u f, readF l = (n, u, f) := ⟨_, _, _, rfl⟩
    rw [hF] at C hu hw HE HN
    clear hF
    dsimp only at hu hw
    have hwm : IntKind.u64.wrap (most : Int) = (most : Int) := IntWalk.u64_in _ (by omega)
    have hu0 : (0 : Int) ≤ (u : Int) := by omega
    have hu1 : (u : Int) ≤ (c : Int) := by omega
    have hu2 : (u : Int) ≤ (l.length : Int) := by omega
    have hl2 : (l.length : Int) ≤ (c : Int) := by omega
    go_enter Try.func49, Try.ntmps49
    go_upto_region 4 with (go_at_call 72; refine (C.out _ (grownBy_refl _ _)).mono ?_; rintro en w1 ⟨rfl, g1⟩)
    clear hbl hfr
    have HB1 := Lib.hid (HB.out.same g1)
    have K6 : World.grownBy w1 w1.drew none := (by (repeat (first | exact grownBy_refl _ _ | assumption | refine grownBy_new_block ?_ _ | refine grownBy_drew ?_ | refine grownBy_drewN ?_ _ | refine grownBy_setNew ?_ (by first | (simp; done) | omega | (simp; omega)) _)))
    (refine Rg.wp_region_rgZ 9 #[false, true, false, true, true, true, false, true, true] (fun w w' => World.grownBy w w' none) (fun _ _ _ _ _ => False) (by kernel_rfl) (by kernel_rfl) (fun w => grownBy_refl w none) (fun _ _ _ h k => grownBy_trans h k) (fun _ _ _ _ _ h => h) ?_; simp only [List.take, List.drop])
    generalize w1.drew = w2 at *
    (refine Rg.tree_quiet 6 rfl (by first | exact Or.inl rfl | exact Or.inr rfl) ?_; simp only [List.take, List.drop, List.length_cons, List.length_nil, List.replicate, Nat.reduceAdd]; (try simp only [List.cons_append]); (try simp only [List.nil_append]); (repeat (go_big_quiet_step (fail))); refine wpQuiet_nil ?_)
    (refine Rg.tree_op rfl rfl ?_; intro x6 mx6 dx6)
    clear dx6
    have ax := (HB1.out.same (grownBy_trans K6 mx6)).cell
    go_wp2_with fail
    refine ⟨grownBy_refl _ _, ?_⟩
    clear ax
    (refine Rg.tree_quiet 2 rfl (by first | exact Or.inl rfl | exact Or.inr rfl) ?_; simp only [List.take, List.drop, List.length_cons, List.length_nil, List.replicate, Nat.reduceAdd]; (try simp only [List.cons_append]); (try simp only [List.nil_append]); (repeat (go_big_quiet_step (fail))); refine wpQuiet_nil ?_)
    (refine Rg.tree_nil ?_; intro z mz dz cz)
    have KZ := grownBy_trans g1 (grownBy_trans K6 mz)
    have HBz := HB.out.same KZ
    have HRz := HR.out.same KZ
    have X1 := HBz.set_ (cs' := #[.slice a l.length c, .int .i64 f]) 1 (.int .i64 f) rfl
    have g2 : z.grownBy (z.setCell ⟨g, 1, none⟩ (.int .i64 f)) (some g) := grownBy_set (grownBy_refl z (some g)) 1 (.int .i64 f)
    have X2 := rd_kept HRz g2 HA.out (fun k e => by cases e; exact hgB)
    obtain ⟨R2, g3⟩ := Rdr.setB X1 X2 hlc HA.out hgB hu
    have hfr := HBz.free
    have hbz := HBz.cell
    have KW := Lib.hid (grownBy_trans (grownBy_some KZ (some g)) (grownBy_trans g2 g3))
    have R3 := Lib.hid (R2.setE over)
    have R4 := Lib.hid R2
    clear dz cz mx6 mz K6 g1 HB1 X1 X2 R2 g2 g3 HBz HRz KZ HB HR HA
    generalize (if c = u then a else a.map (·.add u)) = od at *
    by_cases hf : f = 0
    · subst hf
      by_cases hn : most < n
      · have hn2 : (most : Int) < (n : Int) := by omega
        have HF := Lib.hid (HN.out.trans ((if_neg (by simp)).trans (if_pos hn)))
        have ho2 : (over != 0) = true := by simp; omega
        clear HN HE hn C
        go_wp2_with fail
        go_ret
        exact ⟨by rw [HF.out]; rfl, by rw [HF.out]; exact R3.out.1, grownBy_trans KW.out R3.out.2⟩
      · have hn2 : (n : Int) ≤ (most : Int) := by omega
        have hwn : IntKind.i64.wrap (n : Int) = (n : Int) := IntWalk.i64_in _ (by omega)
        have HF := Lib.hid (HN.out.trans ((if_neg (by simp)).trans (if_neg hn)))
        clear HN HE hn C R3
        go_wp2_with fail
        go_ret
        exact ⟨by rw [HF.out]; rfl, by rw [HF.out]; exact R4.out, KW.out⟩
    · have hf1 : (f != 0) = true := by simp [hf]
      have hf2 : (f == 0) = false := by simp [hf]
      have HF := Lib.hid (HN.out.trans (if_pos hf))
      obtain ⟨e1, e2, e3⟩ := HE.out hf
      have E2 := Lib.hid e2
      clear HN HE hf C R3 e1 e2 e3
      go_wp2_with fail
      go_ret
      exact ⟨by rw [HF.out]; rfl, by rw [HF.out]; have := R4.out; rw [E2.out] at this; rw [E2.out]; simpa using this, KW.out⟩
set_option maxHeartbeats 1000000 in
set_option maxRecDepth 100000 in
theorem stext_c (B g most : Nat) (l : List UInt8) (e : Int) (w : World) (h : Rdr B w g l e) (hm : most < 4611686018427387904) :
    Calls Try.prog 73 #[.pointer (some ⟨g, 0, none⟩), .int .i64 most] w (TextP B g w (textD most l e)) := by
  have C := Lib.hid (snum_c B g most 4 l e w h (by omega) (by omega))
  have HN := Lib.hid (show textD most l e = if (numF most 4 l e).2.2 ≠ 0 then ([], (numF most 4 l e).2.1, (numF most 4 l e).2.2) else if (numF most 4 l e).2.1.length < (numF most 4 l e).1 then ([], (numF most 4 l e).2.1, 2) else ((numF most 4 l e).2.1.take (numF most 4 l e).1, (numF most 4 l e).2.1.drop (numF most 4 l e).1, 0) from rfl)
  have hw := (numF_w (most := most) (over := 4) (l := l) (e := e)).2
  clear h
  obtain ⟨n, r, f, hF⟩ : ∃ n r f, numF most 4 l e = (n, r, f) := ⟨_, _, _, rfl⟩
  rw [hF] at C HN hw
  clear hF
  dsimp only at hw
  go_enter Try.func73, Try.ntmps73
  go_upto_region 2 with (go_at_call 49; refine C.out.mono ?_; rintro en w1 ⟨rfl, R, g1⟩)
  have R2 := Lib.hid (R.setE 2)
  have R4 := Lib.hid R
  have KW := Lib.hid g1
  obtain ⟨a, c, hb, hr, hlc, hab⟩ := R.ex
  have hgB := R.hg
  have hbl := hb.cell
  have hfr := hb.free
  have HB := Lib.hid hb
  have HR := Lib.hid hr
  have HA := Lib.hid hab
  clear R hb g1 C hr hab
  by_cases hf : f = 0
  · subst hf
    by_cases hn : r.length < n
    · have hn2 : (r.length : Int) < (n : Int) := by omega
      have HF := Lib.hid (HN.out.trans ((if_neg (by simp)).trans (if_pos hn)))
      clear HN hn R4 HB HR HA
      go_wp2_with fail
      go_ret
      exact ⟨by rw [HF.out]; rfl, by rw [HF.out]; exact R2.out.1, grownBy_trans KW.out R2.out.2⟩
    · have hn2 : (n : Int) ≤ (r.length : Int) := by omega
      have hn3 : (n : Int) ≤ (c : Int) := by omega
      have hn0 : (0 : Int) ≤ (n : Int) := by omega
      have hlc2 : (r.length : Int) ≤ (c : Int) := by omega
      have HF := Lib.hid (HN.out.trans ((if_neg (by simp)).trans (if_neg hn)))
      have hcv := conv_by (RdL.take byF_len HR.out (k := n) (by omega) c)
      obtain ⟨R5, g2⟩ := Rdr.setB HB.out HR.out hlc HA.out hgB (k := n) (by omega)
      have HR5 := Lib.hid R5
      have HG2 := Lib.hid g2
      have HHn := Lib.hid hn
      clear HN R2 R4 HB HR HA R5 g2 hn
      go_wp2_with fail
      · go_ret
        have r4 := HR5.out
        have kw := HG2.out
        rw [if_pos h, show c - n = 0 by omega] at r4 kw
        exact ⟨by rw [HF.out]; rfl, by rw [HF.out]; exact r4, grownBy_trans KW.out kw⟩
      · go_ret
        have r4 := HR5.out
        have kw := HG2.out
        rw [if_neg h] at r4 kw
        exact ⟨by rw [HF.out]; rfl, by rw [HF.out]; exact r4, grownBy_trans KW.out kw⟩
  · have hf1 : (f != 0) = true := by simp [hf]
    have hf2 : (f == 0) = false := by simp [hf]
    have HF := Lib.hid (HN.out.trans (if_pos hf))
    clear HN hf R2 HB HR HA
    go_wp2_with fail
    go_ret
    exact ⟨by rw [HF.out]; rfl, by rw [HF.out]; exact R4.out, KW.out⟩

end Go.Proofs.Ytniokdflljchgaa
