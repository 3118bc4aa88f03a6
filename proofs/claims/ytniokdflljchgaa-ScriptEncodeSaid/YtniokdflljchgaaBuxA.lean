/- Several texts in one file; each begins with a comment that says what is proved in it. -/
import Derived.Test.YtniokdflljchgaaSl
import Derived.Test.YtniokdflljchgaaRet
import Derived.Test.YtniokdflljchgaaOpS
import Derived.Test.YtniokdflljchgaaSameB
import Derived.Test.YtniokdflljchgaaScr
import Derived.Test.YtniokdflljchgaaScr5
import Derived.Test.YtniokdflljchgaaRenc
import Derived.Test.YtniokdflljchgaaRrd
import Derived.Test.YtniokdflljchgaaRdr
import Derived.Test.YtniokdflljchgaaScrD

/- Lists that are compared. -/
namespace Go.Proofs.Ytniokdflljchgaa
open Go.RowKit

set_option maxHeartbeats 400000 in
theorem sameInts_c (v v' : Value) (l l' : List Int) (w : World) (h : RdL intF 1 w v l) (h' : RdL intF 1 w v' l') : Calls Try.prog 34 #[v, v'] w (RetBool (decide (l = l')) w) := by
  obtain ⟨a, c, rfl⟩ := h.shape
  obtain ⟨a', c', rfl⟩ := h'.shape
  have hm := h.2.1
  have H := Lib.hid h
  have H' := Lib.hid h'
  clear h h'
  by_cases hl : l.length = l'.length
  · have hne : ((l.length : Int) != (l'.length : Int)) = false := by rw [hl]; simp
    have Hl := Lib.hid hl
    have hle : l'.length ≤ l.length := by omega
    have hle2 : l.length ≤ l'.length := by omega
    clear hl
    go_enter Try.func34, Try.ntmps34
    go_wp2_with fail
    go_loopw [13] (fun s13 wr => ∃ k : Nat, k ≤ l.length ∧ s13 = .int .i64 k ∧ l.take k = l'.take k ∧ w.grownBy wr none) (fun s13 _ => l.length - (intOf s13).toNat)
    case atStart => exact ⟨0, Nat.zero_le _, rfl, by simp, grownBy_refl _ _⟩
    case round =>
      obtain ⟨k, hk, rfl, htk, hg⟩ := hrel
      have Htk := Lib.hid htk
      clear htk
      by_cases hlt : k < l.length
      · have hlt' : k < l'.length := by omega
        obtain ⟨g, off, cap, hv, hgl, hc⟩ := (H.out.same hg).one int_one hlt
        obtain ⟨g', off', cap', hv', hgl', hc'⟩ := (H'.out.same hg).one int_one hlt'
        cases hv
        cases hv'
        have HS := Lib.hid (List.take_succ_eq_append_getElem hlt)
        have HS' := Lib.hid (List.take_succ_eq_append_getElem hlt')
        have hx : (l.getD k 0) = l[k] := by simp [List.getD_eq_getElem?_getD, List.getElem?_eq_getElem hlt]
        have hx' : (l'.getD k 0) = l'[k] := by simp [List.getD_eq_getElem?_getD, List.getElem?_eq_getElem hlt']
        have Hx := Lib.hid (p := l = l' → l[k] = l'[k]) (fun e => by subst e; rfl)
        clear hx hx'
        generalize l[k] = x at *
        generalize l'[k] = x' at *
        have hk0 : (0 : Int) ≤ (k : Int) := by omega
        have hk1 : (k : Int) < (l.length : Int) := by omega
        have hk2 : (k : Int) < (l'.length : Int) := by omega
        by_cases he : x = x'
        · have hb : (x != x') = false := by rw [he]; simp
          have He := Lib.hid he
          clear he
          go_wp2_with fail
          go_quiet (fail)
          go_wp2_with fail
          exact ⟨⟨k + 1, by omega, by go_num, by rw [HS.out, HS'.out, Htk.out, He.out], grownBy_drewN hg _⟩, by simp [intOf]; omega⟩
        · have hb : (x != x') = true := by simp [he]
          have Hd := Lib.hid (p := decide (l = l') = false) (decide_eq_false fun e => he (Hx.out e))
          clear he
          go_wp2_with fail
          go_quiet (fail)
          go_wp2_with fail
          go_ret
          exact retBool Hd.out (grownBy_drewN hg _)
      · have hd : decide (l = l') = true := decide_eq_true (by have h1 := Htk.out; have h2 := Hl.out; rw [List.take_of_length_le (by omega), List.take_of_length_le (by omega)] at h1; exact h1)
        have Hd := Lib.hid hd
        clear hd
        go_wp2_with fail
        go_ret
        exact retBool Hd.out hg
  · have hd : decide (l = l') = false := decide_eq_false fun e => hl (by rw [e])
    have Hd := Lib.hid hd
    have hne : ((l.length : Int) != (l'.length : Int)) = true := by simp; omega
    clear hd
    go_enter Try.func34, Try.ntmps34
    go_wp2_with fail
    go_ret
    exact retBool Hd.out (grownBy_refl _ _)

set_option maxHeartbeats 400000 in
theorem sameWords_c (v v' : Value) (l l' : List Int) (w : World) (h : RdL wordF 1 w v l) (h' : RdL wordF 1 w v' l') : Calls Try.prog 38 #[v, v'] w (RetBool (decide (l = l')) w) := by
  obtain ⟨a, c, rfl⟩ := h.shape
  obtain ⟨a', c', rfl⟩ := h'.shape
  have hm := h.2.1
  have H := Lib.hid h
  have H' := Lib.hid h'
  clear h h'
  by_cases hl : l.length = l'.length
  · have hne : ((l.length : Int) != (l'.length : Int)) = false := by rw [hl]; simp
    have Hl := Lib.hid hl
    have hle : l'.length ≤ l.length := by omega
    have hle2 : l.length ≤ l'.length := by omega
    clear hl
    go_enter Try.func38, Try.ntmps38
    go_wp2_with fail
    go_loopw [13] (fun s13 wr => ∃ k : Nat, k ≤ l.length ∧ s13 = .int .i64 k ∧ l.take k = l'.take k ∧ w.grownBy wr none) (fun s13 _ => l.length - (intOf s13).toNat)
    case atStart => exact ⟨0, Nat.zero_le _, rfl, by simp, grownBy_refl _ _⟩
    case round =>
      obtain ⟨k, hk, rfl, htk, hg⟩ := hrel
      have Htk := Lib.hid htk
      clear htk
      by_cases hlt : k < l.length
      · have hlt' : k < l'.length := by omega
        obtain ⟨g, off, cap, hv, hgl, hc⟩ := (H.out.same hg).one word_one hlt
        obtain ⟨g', off', cap', hv', hgl', hc'⟩ := (H'.out.same hg).one word_one hlt'
        cases hv
        cases hv'
        have HS := Lib.hid (List.take_succ_eq_append_getElem hlt)
        have HS' := Lib.hid (List.take_succ_eq_append_getElem hlt')
        have hx : (l.getD k 0) = l[k] := by simp [List.getD_eq_getElem?_getD, List.getElem?_eq_getElem hlt]
        have hx' : (l'.getD k 0) = l'[k] := by simp [List.getD_eq_getElem?_getD, List.getElem?_eq_getElem hlt']
        have Hx := Lib.hid (p := l = l' → l[k] = l'[k]) (fun e => by subst e; rfl)
        clear hx hx'
        generalize l[k] = x at *
        generalize l'[k] = x' at *
        have hk0 : (0 : Int) ≤ (k : Int) := by omega
        have hk1 : (k : Int) < (l.length : Int) := by omega
        have hk2 : (k : Int) < (l'.length : Int) := by omega
        by_cases he : x = x'
        · have hb : (x != x') = false := by rw [he]; simp
          have He := Lib.hid he
          clear he
          go_wp2_with fail
          go_quiet (fail)
          go_wp2_with fail
          exact ⟨⟨k + 1, by omega, by go_num, by rw [HS.out, HS'.out, Htk.out, He.out], grownBy_drewN hg _⟩, by simp [intOf]; omega⟩
        · have hb : (x != x') = true := by simp [he]
          have Hd := Lib.hid (p := decide (l = l') = false) (decide_eq_false fun e => he (Hx.out e))
          clear he
          go_wp2_with fail
          go_quiet (fail)
          go_wp2_with fail
          go_ret
          exact retBool Hd.out (grownBy_drewN hg _)
      · have hd : decide (l = l') = true := decide_eq_true (by have h1 := Htk.out; have h2 := Hl.out; rw [List.take_of_length_le (by omega), List.take_of_length_le (by omega)] at h1; exact h1)
        have Hd := Lib.hid hd
        clear hd
        go_wp2_with fail
        go_ret
        exact retBool Hd.out hg
  · have hd : decide (l = l') = false := decide_eq_false fun e => hl (by rw [e])
    have Hd := Lib.hid hd
    have hne : ((l.length : Int) != (l'.length : Int)) = true := by simp; omega
    clear hd
    go_enter Try.func38, Try.ntmps38
    go_wp2_with fail
    go_ret
    exact retBool Hd.out (grownBy_refl _ _)
end Go.Proofs.Ytniokdflljchgaa

/- Operations that are compared: equal ones are found equal. -/
namespace Go.Proofs.Ytniokdflljchgaa
open Go.RowKit Go.Sort

theorem opC_at {L M : List OpR} (h : L.map opC = M.map opC) {i : Nat} (h1 : i < L.length) (h2 : i < M.length) : opC L[i] = opC M[i] := by
  have e1 : (L.map opC)[i]? = some (opC L[i]) := by rw [List.getElem?_map, List.getElem?_eq_getElem h1]; rfl
  have e2 : (M.map opC)[i]? = some (opC M[i]) := by rw [List.getElem?_map, List.getElem?_eq_getElem h2]; rfl
  rw [h, e2] at e1
  exact (Option.some.inj e1).symm
set_option maxHeartbeats 2000000 in
set_option maxRecDepth 100000 in
theorem sameOps_c (v v' : Value) (L M : List OpR) (w : World) (h : OpsRd w v L) (h' : OpsRd w v' M) (hE : L.map opC = M.map opC) : Calls Try.prog 18 #[v, v'] w (RetBool true w) := by
  have hl : M.length = L.length := by have := congrArg List.length hE; simpa using this.symm
  obtain ⟨a, c, rfl⟩ := h.rd.shape
  obtain ⟨a', c', rfl⟩ := h'.rd.shape
  have hm := h.rd.2.1
  have H := Lib.hid h
  have H' := Lib.hid h'
  have HE := Lib.hid hE
  have Hl := Lib.hid hl
  rw [hl]
  clear h h' hE hl
  have hne : ((L.length : Int) != (L.length : Int)) = false := by simp
  go_enter Try.func18, Try.ntmps18
  go_wp2_with fail
  go_loopw [15] (fun s15 wr => ∃ k : Nat, k ≤ L.length ∧ s15 = .int .i64 k ∧ w.grownBy wr none) (fun s15 _ => L.length - (intOf s15).toNat)
  case atStart => exact ⟨0, Nat.zero_le _, rfl, grownBy_refl _ _⟩
  case round =>
    obtain ⟨i, hi, rfl, hg⟩ := hrel
    by_cases hlt : i < L.length
    · have hlt2 : i < M.length := by rw [Hl.out]; exact hlt
      obtain ⟨gv, off, cap, hv, hgl, hc⟩ := (H.out.rd.same hg).at_ opF_len hlt
      obtain ⟨gv', off', cap', hv', hgl', hc'⟩ := (H'.out.rd.same hg).at_ opF_len hlt2
      rw [Hl.out] at hv'
      cases hv
      cases hv'
      have ho := (H.out.all _ (List.getElem_mem hlt)).same hg
      have ho' := (H'.out.all _ (List.getElem_mem hlt2)).same hg
      have hC := opC_at HE.out hlt hlt2
      have Hc := Lib.hid hc
      have Hc' := Lib.hid (fun w' (h : World.grownBy wr w' none) j u hu => ((grownBy_cells h).1 gv' _ hgl' (by simp)).trans (hc' j u hu) : ∀ w', World.grownBy wr w' none → ∀ j u, (opF M[i])[j]? = some u → w'.cell? ⟨gv', off' + i * 6 + j, none⟩ = some u)
      generalize L[i] = x at *
      generalize M[i] = y at *
      clear hc hc'
      obtain ⟨k, vd, t, s, yk, vp, d, q⟩ := x
      obtain ⟨k', vd', t', s', yk', vp', d', q'⟩ := y
      simp only [opC, OpC.mk.injEq] at hC
      obtain ⟨rfl, rfl, rfl, rfl, rfl, rfl⟩ := hC
      have HC1 := Lib.hid fun w' (h : World.grownBy wr w' none) => sameBy_c vd vd' d w' (ho.data.same h) (ho'.data.same h)
      have HC2 := Lib.hid fun w' (h : World.grownBy wr w' none) => (show Calls Try.prog 34 #[vp, vp'] w' (RetBool true w') by have := sameInts_c vp vp' q q w' (ho.picks.same h) (ho'.picks.same h); rw [decide_eq_true rfl] at this; exact this)
      obtain ⟨da, dc, e1⟩ := ho.data.shape
      obtain ⟨pa, pc, e2⟩ := ho.picks.shape
      obtain ⟨da', dc', e3⟩ := ho'.data.shape
      obtain ⟨pa', pc', e4⟩ := ho'.picks.shape
      dsimp only at *
      subst e1 e2 e3 e4
      have hk1 : (k != k) = false := by simp
      have ht1 : (t != t) = false := by simp
      have hs1 : (s != s) = false := by simp
      have hy1 : (yk.toList != yk.toList) = false := by simp
      have hi0 : (0 : Int) ≤ (i : Int) := by omega
      have hi1 : (i : Int) < (L.length : Int) := by omega
      clear ho ho'
      go_upto_region 6 with (first
        | (refine load_op_at rfl _ rfl _ _ rfl Hc.out ?_)
        | (refine alloc_op rfl rfl ?_; intro wa Aa ga za)
        | (refine store_op rfl _ _ rfl _ rfl rfl rfl rfl _ rfl Aa ?_; intro wb Ab gb))
      have Kb := Lib.hid (grownBy_new ga gb (Nat.le_refl _))
      have hzb : wr.heap.size < wb.heap.size := Nat.lt_of_lt_of_le za gb.size
      have Hd := Lib.hid (Hc'.out _ Kb.out)
      have HAb := Lib.hid Ab
      clear Aa ga za gb Ab Hc Hc'
      generalize wr.heap.size = ga at *
      go_upto_region 7 with (first
        | (refine load_op_at rfl _ rfl _ _ rfl Hd.out ?_)
        | (refine alloc_op rfl rfl ?_; intro wc Ac gc zc)
        | (refine store_op rfl _ _ rfl _ rfl rfl rfl rfl _ rfl Ac ?_; intro wd Ad gd))
      have Kd := Lib.hid (grownBy_trans Kb.out (grownBy_new gc gd (Nat.le_refl _)))
      have HA := Lib.hid ((HAb.out.same gc).kept gd (by simp; omega))
      have HB := Lib.hid Ad
      clear Ac gc zc gd Ad Hd Kb HAb
      generalize wb.heap.size = gb at *
      have a1 := HA.out.cell
      have b1 := HB.out.cell
      go_wp2_with (first
        | (go_at_call 15; refine (HC1.out _ Kd.out).mono ?_; rintro e we ⟨rfl, ge⟩; have a2 := (HA.out.same ge).cell; have b2 := (HB.out.same ge).cell; have Ke := grownBy_trans Kd.out ge)
        | (go_at_call 34; refine (HC2.out _ Ke).mono ?_; rintro e wf ⟨rfl, gf⟩; have Kf := grownBy_trans Ke gf))
      exact ⟨⟨i + 1, by omega, by go_num, grownBy_trans hg Kf⟩, by simp [intOf]; omega⟩
    · go_wp2_with fail
      go_ret
      exact retBool rfl hg
end Go.Proofs.Ytniokdflljchgaa

/- The operations of a script: the reference's tests. -/
namespace Go.Proofs.Ytniokdflljchgaa
open Go.RowKit Go.Sort

set_option maxHeartbeats 4000000 in
set_option maxRecDepth 100000 in
theorem fields_c (k t s : Int) (y : ByteArray) (da pa : Option Addr) (dc pc : Nat) (d : List UInt8) (q : List Int) (w : World) :
    Calls Try.prog 47 #[opV k (.slice da d.length dc) t s y (.slice pa q.length pc)] w (RetBool (restB ⟨k, .slice da d.length dc, t, s, y, .slice pa q.length pc, d, q⟩) w) := by
  obtain ⟨R, hR⟩ : ∃ R, restB ⟨k, .slice da d.length dc, t, s, y, .slice pa q.length pc, d, q⟩ = R := ⟨_, rfl⟩
  have H := Lib.hid (p := restB ⟨k, .slice da d.length dc, t, s, y, .slice pa q.length pc, d, q⟩ = true → R = true) fun h => hR.symm.trans h
  have H2 := Lib.hid (p := restB ⟨k, .slice da d.length dc, t, s, y, .slice pa q.length pc, d, q⟩ = false → R = false) fun h => hR.symm.trans h
  rw [hR]
  clear hR
  by_cases k1 : k = 1
  · subst k1
    by_cases ht : t = 0
    · subst ht
      by_cases hs : s = 0
      · subst hs
        by_cases hy : y.size = 0
        · obtain rfl := by_empty hy
          by_cases hp : q.length = 0
          · obtain rfl : q = [] := List.eq_nil_of_length_eq_zero hp
            have HB := Lib.hid (H.out (by rfl))
            go_enter Try.func47, Try.ntmps47
            go_upto_region 1 with fail
            go_quiet (fail)
            go_wp2_with fail
            go_ret
            exact retBool (HB.out.trans (by rfl : true = true)) (by (repeat (first | exact grownBy_refl _ _ | assumption | refine grownBy_new_block ?_ _ | refine grownBy_drew ?_ | refine grownBy_drewN ?_ _ | refine grownBy_setNew ?_ (by first | (simp; done) | omega | (simp; omega)) _)))
          · have HB := Lib.hid (H2.out (by simp [restB, hp]))
            have hx : (((q.length : Nat) : Int) == 0) = false := by rw [beq_eq_false_iff_ne]; omega
            clear hp
            go_enter Try.func47, Try.ntmps47
            go_upto_region 1 with fail
            go_quiet (fail)
            go_wp2_with fail
            go_ret
            exact retBool (HB.out.trans (by rfl : false = false)) (by (repeat (first | exact grownBy_refl _ _ | assumption | refine grownBy_new_block ?_ _ | refine grownBy_drew ?_ | refine grownBy_drewN ?_ _ | refine grownBy_setNew ?_ (by first | (simp; done) | omega | (simp; omega)) _)))
        · have HB := Lib.hid (H2.out (by simp [restB, hy]))
          have hx : y.toList.isEmpty = false := ne_empty hy
          clear hy
          go_enter Try.func47, Try.ntmps47
          go_upto_region 1 with fail
          go_quiet (fail)
          go_wp2_with fail
          go_ret
          exact retBool (HB.out.trans (by rfl : false = false)) (by (repeat (first | exact grownBy_refl _ _ | assumption | refine grownBy_new_block ?_ _ | refine grownBy_drew ?_ | refine grownBy_drewN ?_ _ | refine grownBy_setNew ?_ (by first | (simp; done) | omega | (simp; omega)) _)))
      · have HB := Lib.hid (H2.out (by simp [restB, hs]))
        have hx : ((s : Int) == 0) = false := by simpa using hs
        clear hs
        go_enter Try.func47, Try.ntmps47
        go_upto_region 1 with fail
        go_quiet (fail)
        go_wp2_with fail
        go_ret
        exact retBool (HB.out.trans (by rfl : false = false)) (by (repeat (first | exact grownBy_refl _ _ | assumption | refine grownBy_new_block ?_ _ | refine grownBy_drew ?_ | refine grownBy_drewN ?_ _ | refine grownBy_setNew ?_ (by first | (simp; done) | omega | (simp; omega)) _)))
    · have HB := Lib.hid (H2.out (by simp [restB, ht]))
      have hx : ((t : Int) == 0) = false := by simpa using ht
      clear ht
      go_enter Try.func47, Try.ntmps47
      go_upto_region 1 with fail
      go_quiet (fail)
      go_wp2_with fail
      go_ret
      exact retBool (HB.out.trans (by rfl : false = false)) (by (repeat (first | exact grownBy_refl _ _ | assumption | refine grownBy_new_block ?_ _ | refine grownBy_drew ?_ | refine grownBy_drewN ?_ _ | refine grownBy_setNew ?_ (by first | (simp; done) | omega | (simp; omega)) _)))
  by_cases k2 : k = 2
  · subst k2
    by_cases hd : d.length = 0
    · obtain rfl : d = [] := List.eq_nil_of_length_eq_zero hd
      by_cases hs : s = 0
      · subst hs
        by_cases hy : y.size = 0
        · obtain rfl := by_empty hy
          have HB := Lib.hid (H.out (by rfl))
          go_enter Try.func47, Try.ntmps47
          go_upto_region 1 with fail
          go_quiet (fail)
          go_wp2_with fail
          go_ret
          exact retBool (HB.out.trans (by rfl : true = true)) (by (repeat (first | exact grownBy_refl _ _ | assumption | refine grownBy_new_block ?_ _ | refine grownBy_drew ?_ | refine grownBy_drewN ?_ _ | refine grownBy_setNew ?_ (by first | (simp; done) | omega | (simp; omega)) _)))
        · have HB := Lib.hid (H2.out (by simp [restB, hy]))
          have hx : y.toList.isEmpty = false := ne_empty hy
          clear hy
          go_enter Try.func47, Try.ntmps47
          go_upto_region 1 with fail
          go_quiet (fail)
          go_wp2_with fail
          go_ret
          exact retBool (HB.out.trans (by rfl : false = false)) (by (repeat (first | exact grownBy_refl _ _ | assumption | refine grownBy_new_block ?_ _ | refine grownBy_drew ?_ | refine grownBy_drewN ?_ _ | refine grownBy_setNew ?_ (by first | (simp; done) | omega | (simp; omega)) _)))
      · have HB := Lib.hid (H2.out (by simp [restB, hs]))
        have hx : ((s : Int) == 0) = false := by simpa using hs
        clear hs
        go_enter Try.func47, Try.ntmps47
        go_upto_region 1 with fail
        go_quiet (fail)
        go_wp2_with fail
        go_ret
        exact retBool (HB.out.trans (by rfl : false = false)) (by (repeat (first | exact grownBy_refl _ _ | assumption | refine grownBy_new_block ?_ _ | refine grownBy_drew ?_ | refine grownBy_drewN ?_ _ | refine grownBy_setNew ?_ (by first | (simp; done) | omega | (simp; omega)) _)))
    · have HB := Lib.hid (H2.out (by simp [restB, hd]))
      have hx : (((d.length : Nat) : Int) == 0) = false := by rw [beq_eq_false_iff_ne]; omega
      clear hd
      go_enter Try.func47, Try.ntmps47
      go_upto_region 1 with fail
      go_quiet (fail)
      go_wp2_with fail
      go_ret
      exact retBool (HB.out.trans (by rfl : false = false)) (by (repeat (first | exact grownBy_refl _ _ | assumption | refine grownBy_new_block ?_ _ | refine grownBy_drew ?_ | refine grownBy_drewN ?_ _ | refine grownBy_setNew ?_ (by first | (simp; done) | omega | (simp; omega)) _)))
  by_cases k3 : k = 3
  · subst k3
    by_cases hd : d.length = 0
    · obtain rfl : d = [] := List.eq_nil_of_length_eq_zero hd
      by_cases ht : t = 0
      · subst ht
        by_cases hy : y.size = 0
        · obtain rfl := by_empty hy
          by_cases hp : q.length = 0
          · obtain rfl : q = [] := List.eq_nil_of_length_eq_zero hp
            have HB := Lib.hid (H.out (by rfl))
            go_enter Try.func47, Try.ntmps47
            go_upto_region 1 with fail
            go_quiet (fail)
            go_wp2_with fail
            go_ret
            exact retBool (HB.out.trans (by rfl : true = true)) (by (repeat (first | exact grownBy_refl _ _ | assumption | refine grownBy_new_block ?_ _ | refine grownBy_drew ?_ | refine grownBy_drewN ?_ _ | refine grownBy_setNew ?_ (by first | (simp; done) | omega | (simp; omega)) _)))
          · have HB := Lib.hid (H2.out (by simp [restB, hp]))
            have hx : (((q.length : Nat) : Int) == 0) = false := by rw [beq_eq_false_iff_ne]; omega
            clear hp
            go_enter Try.func47, Try.ntmps47
            go_upto_region 1 with fail
            go_quiet (fail)
            go_wp2_with fail
            go_ret
            exact retBool (HB.out.trans (by rfl : false = false)) (by (repeat (first | exact grownBy_refl _ _ | assumption | refine grownBy_new_block ?_ _ | refine grownBy_drew ?_ | refine grownBy_drewN ?_ _ | refine grownBy_setNew ?_ (by first | (simp; done) | omega | (simp; omega)) _)))
        · have HB := Lib.hid (H2.out (by simp [restB, hy]))
          have hx : y.toList.isEmpty = false := ne_empty hy
          clear hy
          go_enter Try.func47, Try.ntmps47
          go_upto_region 1 with fail
          go_quiet (fail)
          go_wp2_with fail
          go_ret
          exact retBool (HB.out.trans (by rfl : false = false)) (by (repeat (first | exact grownBy_refl _ _ | assumption | refine grownBy_new_block ?_ _ | refine grownBy_drew ?_ | refine grownBy_drewN ?_ _ | refine grownBy_setNew ?_ (by first | (simp; done) | omega | (simp; omega)) _)))
      · have HB := Lib.hid (H2.out (by simp [restB, ht]))
        have hx : ((t : Int) == 0) = false := by simpa using ht
        clear ht
        go_enter Try.func47, Try.ntmps47
        go_upto_region 1 with fail
        go_quiet (fail)
        go_wp2_with fail
        go_ret
        exact retBool (HB.out.trans (by rfl : false = false)) (by (repeat (first | exact grownBy_refl _ _ | assumption | refine grownBy_new_block ?_ _ | refine grownBy_drew ?_ | refine grownBy_drewN ?_ _ | refine grownBy_setNew ?_ (by first | (simp; done) | omega | (simp; omega)) _)))
    · have HB := Lib.hid (H2.out (by simp [restB, hd]))
      have hx : (((d.length : Nat) : Int) == 0) = false := by rw [beq_eq_false_iff_ne]; omega
      clear hd
      go_enter Try.func47, Try.ntmps47
      go_upto_region 1 with fail
      go_quiet (fail)
      go_wp2_with fail
      go_ret
      exact retBool (HB.out.trans (by rfl : false = false)) (by (repeat (first | exact grownBy_refl _ _ | assumption | refine grownBy_new_block ?_ _ | refine grownBy_drew ?_ | refine grownBy_drewN ?_ _ | refine grownBy_setNew ?_ (by first | (simp; done) | omega | (simp; omega)) _)))
  by_cases k4 : k = 4
  · subst k4
    by_cases hd : d.length = 0
    · obtain rfl : d = [] := List.eq_nil_of_length_eq_zero hd
      by_cases ht : t = 0
      · subst ht
        by_cases hs : s = 0
        · subst hs
          by_cases hy : y.size = 0
          · obtain rfl := by_empty hy
            by_cases hp : q.length = 0
            · obtain rfl : q = [] := List.eq_nil_of_length_eq_zero hp
              have HB := Lib.hid (H.out (by rfl))
              go_enter Try.func47, Try.ntmps47
              go_upto_region 1 with fail
              go_quiet (fail)
              go_wp2_with fail
              go_ret
              exact retBool (HB.out.trans (by rfl : true = true)) (by (repeat (first | exact grownBy_refl _ _ | assumption | refine grownBy_new_block ?_ _ | refine grownBy_drew ?_ | refine grownBy_drewN ?_ _ | refine grownBy_setNew ?_ (by first | (simp; done) | omega | (simp; omega)) _)))
            · have HB := Lib.hid (H2.out (by simp [restB, hp]))
              have hx : (((q.length : Nat) : Int) == 0) = false := by rw [beq_eq_false_iff_ne]; omega
              clear hp
              go_enter Try.func47, Try.ntmps47
              go_upto_region 1 with fail
              go_quiet (fail)
              go_wp2_with fail
              go_ret
              exact retBool (HB.out.trans (by rfl : false = false)) (by (repeat (first | exact grownBy_refl _ _ | assumption | refine grownBy_new_block ?_ _ | refine grownBy_drew ?_ | refine grownBy_drewN ?_ _ | refine grownBy_setNew ?_ (by first | (simp; done) | omega | (simp; omega)) _)))
          · have HB := Lib.hid (H2.out (by simp [restB, hy]))
            have hx : y.toList.isEmpty = false := ne_empty hy
            clear hy
            go_enter Try.func47, Try.ntmps47
            go_upto_region 1 with fail
            go_quiet (fail)
            go_wp2_with fail
            go_ret
            exact retBool (HB.out.trans (by rfl : false = false)) (by (repeat (first | exact grownBy_refl _ _ | assumption | refine grownBy_new_block ?_ _ | refine grownBy_drew ?_ | refine grownBy_drewN ?_ _ | refine grownBy_setNew ?_ (by first | (simp; done) | omega | (simp; omega)) _)))
        · have HB := Lib.hid (H2.out (by simp [restB, hs]))
          have hx : ((s : Int) == 0) = false := by simpa using hs
          clear hs
          go_enter Try.func47, Try.ntmps47
          go_upto_region 1 with fail
          go_quiet (fail)
          go_wp2_with fail
          go_ret
          exact retBool (HB.out.trans (by rfl : false = false)) (by (repeat (first | exact grownBy_refl _ _ | assumption | refine grownBy_new_block ?_ _ | refine grownBy_drew ?_ | refine grownBy_drewN ?_ _ | refine grownBy_setNew ?_ (by first | (simp; done) | omega | (simp; omega)) _)))
      · have HB := Lib.hid (H2.out (by simp [restB, ht]))
        have hx : ((t : Int) == 0) = false := by simpa using ht
        clear ht
        go_enter Try.func47, Try.ntmps47
        go_upto_region 1 with fail
        go_quiet (fail)
        go_wp2_with fail
        go_ret
        exact retBool (HB.out.trans (by rfl : false = false)) (by (repeat (first | exact grownBy_refl _ _ | assumption | refine grownBy_new_block ?_ _ | refine grownBy_drew ?_ | refine grownBy_drewN ?_ _ | refine grownBy_setNew ?_ (by first | (simp; done) | omega | (simp; omega)) _)))
    · have HB := Lib.hid (H2.out (by simp [restB, hd]))
      have hx : (((d.length : Nat) : Int) == 0) = false := by rw [beq_eq_false_iff_ne]; omega
      clear hd
      go_enter Try.func47, Try.ntmps47
      go_upto_region 1 with fail
      go_quiet (fail)
      go_wp2_with fail
      go_ret
      exact retBool (HB.out.trans (by rfl : false = false)) (by (repeat (first | exact grownBy_refl _ _ | assumption | refine grownBy_new_block ?_ _ | refine grownBy_drew ?_ | refine grownBy_drewN ?_ _ | refine grownBy_setNew ?_ (by first | (simp; done) | omega | (simp; omega)) _)))
  by_cases k5 : k = 5
  · subst k5
    by_cases hd : d.length = 0
    · obtain rfl : d = [] := List.eq_nil_of_length_eq_zero hd
      by_cases hs : s = 0
      · subst hs
        by_cases hp : q.length = 0
        · obtain rfl : q = [] := List.eq_nil_of_length_eq_zero hp
          have HB := Lib.hid (H.out (by rfl))
          go_enter Try.func47, Try.ntmps47
          go_upto_region 1 with fail
          go_quiet (fail)
          go_wp2_with fail
          go_ret
          exact retBool (HB.out.trans (by rfl : true = true)) (by (repeat (first | exact grownBy_refl _ _ | assumption | refine grownBy_new_block ?_ _ | refine grownBy_drew ?_ | refine grownBy_drewN ?_ _ | refine grownBy_setNew ?_ (by first | (simp; done) | omega | (simp; omega)) _)))
        · have HB := Lib.hid (H2.out (by simp [restB, hp]))
          have hx : (((q.length : Nat) : Int) == 0) = false := by rw [beq_eq_false_iff_ne]; omega
          clear hp
          go_enter Try.func47, Try.ntmps47
          go_upto_region 1 with fail
          go_quiet (fail)
          go_wp2_with fail
          go_ret
          exact retBool (HB.out.trans (by rfl : false = false)) (by (repeat (first | exact grownBy_refl _ _ | assumption | refine grownBy_new_block ?_ _ | refine grownBy_drew ?_ | refine grownBy_drewN ?_ _ | refine grownBy_setNew ?_ (by first | (simp; done) | omega | (simp; omega)) _)))
      · have HB := Lib.hid (H2.out (by simp [restB, hs]))
        have hx : ((s : Int) == 0) = false := by simpa using hs
        clear hs
        go_enter Try.func47, Try.ntmps47
        go_upto_region 1 with fail
        go_quiet (fail)
        go_wp2_with fail
        go_ret
        exact retBool (HB.out.trans (by rfl : false = false)) (by (repeat (first | exact grownBy_refl _ _ | assumption | refine grownBy_new_block ?_ _ | refine grownBy_drew ?_ | refine grownBy_drewN ?_ _ | refine grownBy_setNew ?_ (by first | (simp; done) | omega | (simp; omega)) _)))
    · have HB := Lib.hid (H2.out (by simp [restB, hd]))
      have hx : (((d.length : Nat) : Int) == 0) = false := by rw [beq_eq_false_iff_ne]; omega
      clear hd
      go_enter Try.func47, Try.ntmps47
      go_upto_region 1 with fail
      go_quiet (fail)
      go_wp2_with fail
      go_ret
      exact retBool (HB.out.trans (by rfl : false = false)) (by (repeat (first | exact grownBy_refl _ _ | assumption | refine grownBy_new_block ?_ _ | refine grownBy_drew ?_ | refine grownBy_drewN ?_ _ | refine grownBy_setNew ?_ (by first | (simp; done) | omega | (simp; omega)) _)))
  have HB := Lib.hid (H2.out (by simp [restB, k1, k2, k3, k4, k5]))
  have m1 : ((k : Int) == 1) = false := by simpa using k1
  have m2 : ((k : Int) == 2) = false := by simpa using k2
  have m3 : ((k : Int) == 3) = false := by simpa using k3
  have m4 : ((k : Int) == 4) = false := by simpa using k4
  have m5 : ((k : Int) == 5) = false := by simpa using k5
  clear k1 k2 k3 k4 k5
  go_enter Try.func47, Try.ntmps47
  go_upto_region 1 with fail
  go_quiet (fail)
  go_wp2_with fail
  go_ret
  exact retBool (HB.out.trans (by rfl : false = false)) (by (repeat (first | exact grownBy_refl _ _ | assumption | refine grownBy_new_block ?_ _ | refine grownBy_drew ?_ | refine grownBy_drewN ?_ _ | refine grownBy_setNew ?_ (by first | (simp; done) | omega | (simp; omega)) _)))

theorem rnumR_c (n : Int) (w : World) : Calls Try.prog 48 #[.int .i64 n] w fun e w' => e = .returned (.bool (inR n)) ∧ w = w' := by
  by_cases h0 : 0 ≤ n
  · by_cases h1 : n ≤ 1099511627776
    · have HB := Lib.hid (inR_iff.2 ⟨h0, h1⟩)
      go_enter Try.func48, Try.ntmps48
      go_wp2_with fail
      go_ret
      exact ⟨by rw [HB.out]; rfl, rfl⟩
    · have HB := Lib.hid (show inR n = false by simp [inR, h1])
      have h2 : ¬ n ≤ 1099511627776 := h1
      go_enter Try.func48, Try.ntmps48
      go_wp2_with fail
      go_ret
      exact ⟨by rw [HB.out]; rfl, rfl⟩
  · have HB := Lib.hid (show inR n = false by simp [inR, h0])
    have h2 : ¬ 0 ≤ n := h0
    go_enter Try.func48, Try.ntmps48
    go_wp2_with fail
    go_ret
    exact ⟨by rw [HB.out]; rfl, rfl⟩
end Go.Proofs.Ytniokdflljchgaa

/- The bytes of operations: the reference's Encode. -/
namespace Go.Proofs.Ytniokdflljchgaa
open Go.RowKit Go.Sort

theorem rappI_c (v : Value) (l : List UInt8) (n : Int) (w : World) (h : RdL byF 1 w v l) (h0 : 0 ≤ n) (hn : n < 18446744073709551616) (hl : l.length ≤ 1000000000000) : Calls Try.prog 46 #[v, .int .u64 n] w (RetOwn byF 1 5 (l ++ vb n.toNat) w) := by
  obtain ⟨m, rfl⟩ := Int.eq_ofNat_of_zero_le h0
  exact rappend_c v l m w h (by omega) hl

set_option maxHeartbeats 4000000 in
set_option maxRecDepth 100000 in
theorem renc_c (v : Value) (l : List OpR) (w : World) (h : OpsRd w v l) (hW : ∀ o ∈ l, o.key.size ≤ 9223372036854775807) : Calls Try.prog 14 #[v] w (EncOP l w) := by
  obtain ⟨a, c, rfl⟩ := h.rd.shape
  have hm := h.rd.2.1
  have H := Lib.hid h
  have HW := Lib.hid hW
  clear h hW
  by_cases hl : 4096 < l.length
  · have HE := Lib.hid (show encE l = 4 from if_pos hl)
    have hl2 : (4096 : Int) < (l.length : Int) := by omega
    go_enter Try.func14, Try.ntmps14
    go_wp2_with fail
    go_ret2
    exact encOP_no HE.out (by decide) (grownBy_refl _ _)
  have HE := Lib.hid (show encE l = opsE l from if_neg hl)
  have hl2 : (l.length : Int) ≤ 4096 := by omega
  have hwl : IntKind.u64.wrap (l.length : Int) = (l.length : Int) := IntWalk.u64_in _ (by omega)
  have Hc := Lib.hid (rappend_c (.slice none 0 0) [] l.length w (Own.nil byF 1 5 0 w).rd (by omega) (by simp))
  go_enter Try.func14, Try.ntmps14
  go_upto_region 4 with (go_at_call 46; refine Hc.out.mono ?_; rintro e w2 ⟨v2, rfl, o2, g2⟩)
  rw [List.nil_append] at o2
  have Hb := Lib.hid o2
  have K2 := Lib.hid g2
  clear Hc o2 g2 hwl
  have hvl := vb_ten (show l.length < 18446744073709551616 by omega)
  go_wp2_with fail
  go_loopw [21, 4] (fun s21 s4 wk => ∃ i : Nat, i ≤ l.length ∧ s21 = .int .i64 i ∧ (∀ o ∈ l.take i, opE o = 0) ∧ Own byF 1 5 w.heap.size wk s4 (vb l.length ++ opsB (l.take i)) ∧ w.grownBy wk none) (fun s21 _ _ => l.length - (intOf s21).toNat)
  case atStart => exact ⟨0, Nat.zero_le _, rfl, by simp, by simpa [opsB] using Hb.out, K2.out⟩
  case round =>
    clear Hb K2
    obtain ⟨i, hi, rfl, hall, hb, hg⟩ := hrel
    have Hall := Lib.hid hall
    have HGr := Lib.hid hg
    by_cases hlt : i < l.length
    · obtain ⟨gv, off, cap, hv, hgl, hc⟩ := (H.out.rd.same hg).at_ opF_len hlt
      cases hv
      have ho := H.out.all _ (List.getElem_mem hlt)
      have hk := HW.out _ (List.getElem_mem hlt)
      have HS := Lib.hid (show vb l.length ++ opsB (l.take (i + 1)) = vb l.length ++ opsB (l.take i) ++ opB l[i] by rw [List.take_succ_eq_append_getElem hlt, opsB_snoc, List.append_assoc])
      have HN := Lib.hid (show opE l[i] = 0 → ∀ o ∈ l.take (i + 1), opE o = 0 from fun h o ho => by
        rw [List.take_succ_eq_append_getElem hlt] at ho
        rcases List.mem_append.1 ho with ho | ho
        · exact Hall.out o ho
        · rw [List.mem_singleton.1 ho]; exact h)
      have HFF := Lib.hid (show ∀ E : Int, E ≠ 0 → opE l[i] = E → encE l = E from fun E h0 h => by
        rw [HE.out, ← h]
        exact opsE_at hlt (fun j hj hji => Hall.out _ (List.mem_iff_getElem.2 ⟨j, by rw [List.length_take]; omega, by rw [List.getElem_take]⟩)) (by rw [h]; exact h0))
      have hlen := opsB_len hall
      have hll : (vb l.length ++ opsB (l.take i)).length ≤ 20000000 := by
        rw [List.length_take] at hlen
        rw [List.length_append]; omega
      obtain ⟨M, hM⟩ : ∃ M, vb l.length ++ opsB (l.take i) = M := ⟨_, rfl⟩
      rw [hM] at hb hll HS
      have HB := Lib.hid hb
      have Hor := Lib.hid (ho.same hg)
      have Hc := Lib.hid hc
      obtain ⟨va, vc, rfl⟩ := hb.shape
      clear hM hlen hall ho hc hg hb Hall
      generalize l[i] = o at *
      obtain ⟨k, vd, t, s, y, vp, d, q⟩ := o
      obtain ⟨da, dc, e1⟩ := Hor.out.data.shape
      obtain ⟨pa, pc, e2⟩ := Hor.out.picks.shape
      dsimp only at *
      subst e1 e2
      have hdl := Hor.out.data.2.1
      have hql := Hor.out.picks.2.1
      dsimp only at hdl hql
      obtain ⟨E, hE⟩ : ∃ E, opE ⟨k, .slice da d.length dc, t, s, y, .slice pa q.length pc, d, q⟩ = E := ⟨_, rfl⟩
      have HX := Lib.hid (show (if restB ⟨k, .slice da d.length dc, t, s, y, .slice pa q.length pc, d, q⟩ = false then (3 : Int) else if (decide (4096 < d.length) || decide (255 < y.size) || decide (8 < q.length)) = true then 4 else if (inR t && inR s && q.all inR) = false then 1 else 0) = E from hE)
      have HOK := Lib.hid (show E = 0 → OpOk ⟨k, .slice da d.length dc, t, s, y, .slice pa q.length pc, d, q⟩ from fun h => op_ok (hE.trans h))
      rw [hE] at HN HFF
      clear hE
      have C := Lib.hid fun w' => fields_c k t s y da pa dc pc d q w'
      generalize restB ⟨k, .slice da d.length dc, t, s, y, .slice pa q.length pc, d, q⟩ = R at *
      cases R
      · have HF := Lib.hid (HFF.out 3 (by decide) (by rw [← HX.out]; rfl))
        go_wp2_with (first
          | (refine load_op_at rfl _ rfl _ _ rfl Hc.out ?_)
          | (refine alloc_op rfl rfl ?_; intro wa Aa ga za)
          | (refine store_op rfl _ _ rfl _ rfl rfl rfl rfl _ rfl Aa ?_; intro wb Ab gb; have Kb := grownBy_new ga gb (Nat.le_refl _))
          | (refine load_op rfl _ rfl _ rfl Ab ?_)
          | (go_at_call 47; refine (C.out _).mono ?_; rintro e wc ⟨rfl, gc⟩; have Kc := grownBy_trans Kb gc))
        go_ret2
        exact encOP_no HF.out (by decide) (grownBy_trans HGr.out Kc)
      go_upto_region 9 with (first
          | (refine load_op_at rfl _ rfl _ _ rfl Hc.out ?_)
          | (refine alloc_op rfl rfl ?_; intro wa Aa ga za)
          | (refine store_op rfl _ _ rfl _ rfl rfl rfl rfl _ rfl Aa ?_; intro wb Ab gb; have Kb := grownBy_new ga gb (Nat.le_refl _))
          | (refine load_op rfl _ rfl _ rfl Ab ?_)
          | (go_at_call 47; refine (C.out _).mono ?_; rintro e w8 ⟨rfl, gc⟩))
      have HB2 := Lib.hid (Ab.same gc)
      have K8 := Lib.hid (grownBy_trans Kb gc)
      have b2 := HB2.out.cell
      clear Aa ga za Ab gb Kb gc C
      generalize wr.heap.size = g6 at *
      by_cases h1 : 4096 < d.length
      · have hi1 : (4096 : Int) < (d.length : Int) := by omega
        have HF := Lib.hid (HFF.out 4 (by decide) (by rw [← HX.out]; simp [h1]))
        clear h1
        go_wp2_with fail
        go_ret2
        exact encOP_no HF.out (by decide) (grownBy_trans HGr.out K8.out)
      have hi1 : ¬ (4096 : Int) < (d.length : Int) := by omega
      by_cases h2 : 255 < y.size
      · have hi2 : (255 : Int) < (y.size : Int) := by omega
        have HF := Lib.hid (HFF.out 4 (by decide) (by rw [← HX.out]; simp [h2]))
        clear h1 h2
        go_wp2_with fail
        go_ret2
        exact encOP_no HF.out (by decide) (grownBy_trans HGr.out K8.out)
      have hi2 : ¬ (255 : Int) < (y.size : Int) := by omega
      by_cases h3 : 8 < q.length
      · have hi3 : (8 : Int) < (q.length : Int) := by omega
        have HF := Lib.hid (HFF.out 4 (by decide) (by rw [← HX.out]; simp [h3]))
        clear h1 h2 h3
        go_wp2_with fail
        go_ret2
        exact encOP_no HF.out (by decide) (grownBy_trans HGr.out K8.out)
      have hi3 : ¬ (8 : Int) < (q.length : Int) := by omega
      have HE2 := Lib.hid (show (if (inR t && inR s && q.all inR) = false then (1 : Int) else 0) = E by rw [← HX.out]; simp [h1, h2, h3])
      clear h1 h2 h3 HX
      have C1 := Lib.hid fun w' => rnumR_c t w'
      have C2 := Lib.hid fun w' => rnumR_c s w'
      generalize inR t = bt at *
      generalize inR s = bs at *
      cases bt
      · have HF := Lib.hid (HFF.out 1 (by decide) (by rw [← HE2.out]; rfl))
        go_wp2_with (go_at_call 48; refine (C1.out _).mono ?_; rintro e w3 ⟨rfl, rfl⟩)
        go_loopw [55, 7] (fun s55 s7 wk => ∃ i : Nat, i ≤ q.length ∧ s55 = .int .i64 i ∧ s7 = .bool false ∧ w8.grownBy wk none) (fun s55 _ _ => q.length - (intOf s55).toNat)
        case atStart => exact ⟨0, Nat.zero_le _, rfl, rfl, grownBy_refl _ _⟩
        case round =>
          obtain ⟨i, hi, rfl, rfl, hg⟩ := hrel
          by_cases hlt : i < q.length
          · obtain ⟨g, off, cap, hv, hgl, hc⟩ := RdL.one (fun _ => rfl) (Hor.out.picks.same (grownBy_trans K8.out hg)) hlt
            cases hv
            go_wp2_with fail
            exact ⟨⟨i + 1, by omega, by go_num, rfl, hg⟩, by simp [intOf]; omega⟩
          · go_wp2_with fail
            go_ret2
            exact encOP_no HF.out (by decide) (grownBy_trans HGr.out (grownBy_trans K8.out hg))
      cases bs
      · have HF := Lib.hid (HFF.out 1 (by decide) (by rw [← HE2.out]; rfl))
        go_wp2_with (go_at_call 48; first | ((with_reducible refine (C1.out _).mono ?_); rintro e w3 ⟨rfl, rfl⟩) | ((with_reducible refine (C2.out _).mono ?_); rintro e w4 ⟨rfl, rfl⟩))
        go_loopw [55, 7] (fun s55 s7 wk => ∃ i : Nat, i ≤ q.length ∧ s55 = .int .i64 i ∧ s7 = .bool false ∧ w8.grownBy wk none) (fun s55 _ _ => q.length - (intOf s55).toNat)
        case atStart => exact ⟨0, Nat.zero_le _, rfl, rfl, grownBy_refl _ _⟩
        case round =>
          obtain ⟨i, hi, rfl, rfl, hg⟩ := hrel
          by_cases hlt : i < q.length
          · obtain ⟨g, off, cap, hv, hgl, hc⟩ := RdL.one (fun _ => rfl) (Hor.out.picks.same (grownBy_trans K8.out hg)) hlt
            cases hv
            go_wp2_with fail
            exact ⟨⟨i + 1, by omega, by go_num, rfl, hg⟩, by simp [intOf]; omega⟩
          · go_wp2_with fail
            go_ret2
            exact encOP_no HF.out (by decide) (grownBy_trans HGr.out (grownBy_trans K8.out hg))
      go_wp2_with (go_at_call 48; first | ((with_reducible refine (C1.out _).mono ?_); rintro e w3 ⟨rfl, rfl⟩) | ((with_reducible refine (C2.out _).mono ?_); rintro e w4 ⟨rfl, rfl⟩))
      clear C1 C2 b2
      go_loopw [55, 7] (fun s55 s7 wk => ∃ i : Nat, i ≤ q.length ∧ s55 = .int .i64 i ∧ s7 = .bool ((q.take i).all inR) ∧ w8.grownBy wk none) (fun s55 _ _ => q.length - (intOf s55).toNat)
      case atStart => exact ⟨0, Nat.zero_le _, rfl, rfl, grownBy_refl _ _⟩
      case round =>
        obtain ⟨j, hj, rfl, rfl, hg⟩ := hrel
        by_cases hlt2 : j < q.length
        · obtain ⟨g, off, cap, hv, hgl, hc⟩ := RdL.one (fun _ => rfl) (Hor.out.picks.same (grownBy_trans K8.out hg)) hlt2
          cases hv
          have HN2 := Lib.hid (show (q.take (j + 1)).all inR = ((q.take j).all inR && inR q[j]) by rw [List.take_succ_eq_append_getElem hlt2, List.all_append]; simp)
          generalize (q.take j).all inR = B at *
          generalize q[j] = x at *
          have C4 := Lib.hid fun w' => rnumR_c x w'
          generalize inR x = bx at *
          cases B
          · go_wp2_with fail
            exact ⟨⟨j + 1, by omega, by go_num, by rw [HN2.out]; rfl, hg⟩, by simp [intOf]; omega⟩
          · go_wp2_with (go_at_call 48; refine (C4.out _).mono ?_; rintro e w5 ⟨rfl, rfl⟩)
            exact ⟨⟨j + 1, by omega, by go_num, by rw [HN2.out]; rfl, hg⟩, by simp [intOf]; omega⟩
        · have eq : q.take j = q := List.take_of_length_le (by omega)
          rw [eq]
          clear eq
          generalize q.all inR = B at *
          have HO := Lib.hid (HB.out.same (grownBy_trans K8.out hg))
          have HB3 := Lib.hid (HB2.out.same hg)
          have HK := Lib.hid (grownBy_trans HGr.out (grownBy_trans K8.out hg))
          cases B
          · have HF := Lib.hid (HFF.out 1 (by decide) (by rw [← HE2.out]; rfl))
            go_wp2_with fail
            go_ret2
            exact encOP_no HF.out (by decide) HK.out
          have h0 : E = 0 := by rw [← HE2.out]; rfl
          obtain ⟨hk, e1, e2, e3, e4, e5, e6⟩ := HOK.out h0
          dsimp only at *
          have HP := Lib.hid e6
          have HN2 := Lib.hid (HN.out h0)
          have HD := Lib.hid (Hor.out.same (grownBy_trans K8.out hg))
          have HOB := Lib.hid (show opB ⟨k, .slice da d.length dc, t, s, y, .slice pa q.length pc, d, q⟩ = vb k.toNat ++ opT ⟨k, .slice da d.length dc, t, s, y, .slice pa q.length pc, d, q⟩ from rfl)
          clear h0 HN HOK HE2 HFF e6 HB HB2 K8 hg Hor HGr Hc
          have hk0 : 0 ≤ k ∧ k ≤ 5 := by omega
          have hwk : IntKind.u64.wrap k = k := IntWalk.u64_in _ (by omega)
          have Ck := Lib.hid (rappI_c _ M k wr HO.out.rd hk0.1 (by omega) (by omega))
          have hvk := vb_ten (show k.toNat < 18446744073709551616 by omega)
          have b3 := HB3.out.cell
          have HKK := Lib.hid hk
          clear hk hk0
          go_upto_region 20 with (go_at_call 46; refine Ck.out.mono ?_; rintro e w11 ⟨v11, rfl, o11, g11⟩)
          obtain ⟨a11, c11, rfl⟩ := o11.shape
          have HK2 := Lib.hid (grownBy_trans HK.out g11)
          have hsz10 : w.heap.size ≤ w11.heap.size := HK2.out.size
          obtain ⟨L1, hL1⟩ : ∃ L1, M ++ vb k.toNat = L1 := ⟨_, rfl⟩
          have hL1l : L1.length ≤ 20000010 := by rw [← hL1, List.length_append]; omega
          rw [hL1] at o11 ⊢
          have HF1 := Lib.hid (show M ++ opB ⟨k, .slice da d.length dc, t, s, y, .slice pa q.length pc, d, q⟩ = L1 ++ opT ⟨k, .slice da d.length dc, t, s, y, .slice pa q.length pc, d, q⟩ by rw [HOB.out, ← hL1, List.append_assoc])
          have HO11 := Lib.hid (o11.base (B' := w.heap.size) fun q hq => Nat.le_trans HK.out.size (o11.lt q hq).1)
          have HB2 := Lib.hid (HB3.out.same g11)
          have HD2 := Lib.hid (HD.out.same g11)
          clear hlt2 hj b3 Ck hwk hvk HB3 HD HO HK g11 o11 hL1 HOB
          have b2 := HB2.out.cell
          rcases HKK.out with rfl | rfl | rfl | rfl | rfl
          · have HF := Lib.hid (HF1.out.trans (congrArg (L1 ++ ·) (opT1 rfl)))
            dsimp only at HF
            have hvd := vb_ten (show d.length < 18446744073709551616 by omega)
            have hwd : IntKind.u64.wrap (d.length : Int) = (d.length : Int) := IntWalk.u64_in _ (by omega)
            obtain ⟨L2, hL2⟩ : ∃ L2, L1 ++ vb d.length = L2 := ⟨_, rfl⟩
            have hL2l : L2.length ≤ 20000020 := by rw [← hL2, List.length_append]; omega
            have Ca := Lib.hid fun w' (h : World.grownBy w11 w' none) => hL2 ▸ rappend_c _ L1 d.length w' (HO11.out.same h).rd (by omega) (by omega)
            have HF2 := Lib.hid (show L2 ++ d = M ++ opB ⟨1, .slice da d.length dc, t, s, y, .slice pa q.length pc, d, q⟩ by rw [HF.out, ← hL2, List.append_assoc])
            clear HF HF1 hL2 hvd
            go_upto_region 22 with fail
            clear b2
            have K6 : World.grownBy w11 w11.drew none := (by (repeat (first | exact grownBy_refl _ _ | assumption | refine grownBy_new_block ?_ _ | refine grownBy_drew ?_ | refine grownBy_drewN ?_ _ | refine grownBy_setNew ?_ (by first | (simp; done) | omega | (simp; omega)) _)))
            (refine Rg.wp_region_rgZ 8 #[] (fun w w' => World.grownBy w w' none) (fun k _ w0 v w' => match k with | 5 => Own byF 1 5 w.heap.size w' v L2 ∧ World.grownBy w0 w' none | _ => False) (by kernel_rfl) (by kernel_rfl) (fun w => grownBy_refl w none) (fun _ _ _ h k => grownBy_trans h k) (fun _ _ _ _ _ h => h) ?_; simp only [List.take, List.drop])
            generalize w11.drew = wd at *
            (refine Rg.tree_quiet 2 rfl (by first | exact Or.inl rfl | exact Or.inr rfl) ?_; simp only [List.take, List.drop, List.length_cons, List.length_nil, List.replicate, Nat.reduceAdd]; (try simp only [List.cons_append]); (try simp only [List.nil_append]); (repeat (go_big_quiet_step (fail))); refine wpQuiet_nil ?_)
            (refine Rg.tree_op rfl rfl ?_; intro x2 mx2 dx2)
            clear dx2
            have ax := (HB2.out.same (grownBy_trans K6 mx2)).cell
            go_wp2_with fail
            refine ⟨grownBy_refl _ _, ?_⟩
            clear ax
            (refine Rg.tree_quiet 2 rfl (by first | exact Or.inl rfl | exact Or.inr rfl) ?_; simp only [List.take, List.drop, List.length_cons, List.length_nil, List.replicate, Nat.reduceAdd]; (try simp only [List.cons_append]); (try simp only [List.nil_append]); (repeat (go_big_quiet_step (fail))); refine wpQuiet_nil ?_)
            (refine Rg.tree_call rfl rfl rfl ?_; intro x5 mx5 dx5; refine ⟨?_, ?_⟩; · (unfold Rg.callSpec; go_simp; (refine (Ca.out x5 (grownBy_trans K6 mx5)).mono ?_; rintro e w' ⟨v2, rfl, o2, g2⟩; exact ⟨v2, rfl, o2.base (fun q hq => Nat.le_trans (Nat.le_trans hsz10 (grownBy_trans K6 mx5).size) (o2.lt q hq).1), g2⟩)))
            clear dx5
            rintro v5 y5 ⟨o5, g5⟩
            refine ⟨g5, ?_⟩
            obtain ⟨a5, c5, rfl⟩ := o5.shape
            have Ho5 := Lib.hid o5
            clear g5 o5
            simp only [Act.put, List.setIfInBounds_toArray, List.set_cons_zero, List.set_cons_succ]
            (refine Rg.tree_quiet 1 rfl (by first | exact Or.inl rfl | exact Or.inr rfl) ?_; simp only [List.take, List.drop, List.length_cons, List.length_nil, List.replicate, Nat.reduceAdd]; (try simp only [List.cons_append]); (try simp only [List.nil_append]); (repeat (go_big_quiet_step (fail))); refine wpQuiet_nil ?_)
            (refine Rg.tree_op rfl rfl ?_; intro x7 mx7 dx7)
            clear dx7
            have ax := (HB2.out.same (grownBy_trans K6 mx7)).cell
            go_wp2_with fail
            refine ⟨grownBy_refl _ _, ?_⟩
            clear ax
            (refine Rg.tree_nil ?_; intro z1 mz1 dz1 cz1)
            have O5 := Ho5.out.same (dz1.out 5 (by omega))
            have Kz := grownBy_trans HK2.out (grownBy_trans K6 mz1)
            have HDz := (HD2.out.same (grownBy_trans K6 mz1)).data
            have hszz : w.heap.size ≤ z1.heap.size := Kz.size
            have hb1 : (L2.length + d.length) * 1 ≤ 140737488355328 := by omega
            have hb2 : L2.length + d.length ≤ 9223372036854775807 := by omega
            clear dz1 cz1 mz1 mx2 mx5 mx7 K6 Ho5 Ca hwd HB2 HK2 HO11 HD2
            go_wp2_with (at_builtin; refine app elt_by one_by O5 HDz rfl hb1 hb2 hszz (by rfl) _ _ (by rfl) (by rfl) (by rfl) ?_; intro v8 w8' o8 g8 l8)
            exact ⟨⟨i + 1, by omega, by go_num, HN2.out, by rw [HS.out, ← HF2.out]; exact o8, grown_own Kz O5 (Nat.le_refl _) g8⟩, by simp [intOf]; omega⟩
          · have HF := Lib.hid (HF1.out.trans (congrArg (L1 ++ ·) (opT2 rfl)))
            dsimp only at HF
            have hvq := vb_ten (show q.length < 18446744073709551616 by omega)
            have hvt := vb_ten (show t.toNat < 18446744073709551616 by omega)
            have hwt : IntKind.u64.wrap t = t := IntWalk.u64_in _ (by omega)
            have hwq : IntKind.u64.wrap (q.length : Int) = (q.length : Int) := IntWalk.u64_in _ (by omega)
            obtain ⟨L2, hL2⟩ : ∃ L2, L1 ++ vb t.toNat = L2 := ⟨_, rfl⟩
            have hL2l : L2.length ≤ 20000020 := by rw [← hL2, List.length_append]; omega
            obtain ⟨L3, hL3⟩ : ∃ L3, L2 ++ vb q.length = L3 := ⟨_, rfl⟩
            have hL3l : L3.length ≤ 20000030 := by rw [← hL3, List.length_append]; omega
            have Ca := Lib.hid fun w' (h : World.grownBy w11 w' none) => hL2 ▸ rappI_c _ L1 t w' (HO11.out.same h).rd e4.1 (by omega) (by omega)
            have Cb := Lib.hid fun w' v (h : RdL byF 1 w' v L2) => hL3 ▸ rappend_c v L2 q.length w' h (by omega) (by omega)
            have HF2 := Lib.hid (show L3 ++ vbs (q.map Int.toNat) = M ++ opB ⟨2, .slice da d.length dc, t, s, y, .slice pa q.length pc, d, q⟩ by rw [HF.out, ← hL3, ← hL2]; simp only [List.append_assoc])
            clear HF HF1 hL2 hL3 hvq hvt
            go_upto_region 24 with fail
            clear b2
            have K6 : World.grownBy w11 w11.drew none := (by (repeat (first | exact grownBy_refl _ _ | assumption | refine grownBy_new_block ?_ _ | refine grownBy_drew ?_ | refine grownBy_drewN ?_ _ | refine grownBy_setNew ?_ (by first | (simp; done) | omega | (simp; omega)) _)))
            (refine Rg.wp_region_rgZ 11 #[] (fun w w' => World.grownBy w w' none) (fun k _ w0 v w' => match k with | 4 => Own byF 1 5 w.heap.size w' v L2 ∧ World.grownBy w0 w' none | 9 => Own byF 1 5 w.heap.size w' v L3 ∧ World.grownBy w0 w' none | _ => False) (by kernel_rfl) (by kernel_rfl) (fun w => grownBy_refl w none) (fun _ _ _ h k => grownBy_trans h k) (fun _ _ _ _ _ h => h) ?_; simp only [List.take, List.drop])
            generalize w11.drew = wd at *
            (refine Rg.tree_quiet 2 rfl (by first | exact Or.inl rfl | exact Or.inr rfl) ?_; simp only [List.take, List.drop, List.length_cons, List.length_nil, List.replicate, Nat.reduceAdd]; (try simp only [List.cons_append]); (try simp only [List.nil_append]); (repeat (go_big_quiet_step (fail))); refine wpQuiet_nil ?_)
            (refine Rg.tree_op rfl rfl ?_; intro x2 mx2 dx2)
            clear dx2
            have ax := (HB2.out.same (grownBy_trans K6 mx2)).cell
            go_wp2_with fail
            refine ⟨grownBy_refl _ _, ?_⟩
            clear ax
            (refine Rg.tree_quiet 1 rfl (by first | exact Or.inl rfl | exact Or.inr rfl) ?_; simp only [List.take, List.drop, List.length_cons, List.length_nil, List.replicate, Nat.reduceAdd]; (try simp only [List.cons_append]); (try simp only [List.nil_append]); (repeat (go_big_quiet_step (fail))); refine wpQuiet_nil ?_)
            (refine Rg.tree_call rfl rfl rfl ?_; intro x4 mx4 dx4; refine ⟨?_, ?_⟩; · (unfold Rg.callSpec; go_simp; (refine (Ca.out x4 (grownBy_trans K6 mx4)).mono ?_; rintro e w' ⟨v2, rfl, o2, g2⟩; exact ⟨v2, rfl, o2.base (fun q hq => Nat.le_trans (Nat.le_trans hsz10 (grownBy_trans K6 mx4).size) (o2.lt q hq).1), g2⟩)))
            clear dx4
            rintro v4 y4 ⟨o4, g4⟩
            refine ⟨g4, ?_⟩
            obtain ⟨a4, c4, rfl⟩ := o4.shape
            have Ho4 := Lib.hid o4
            clear g4 o4
            simp only [Act.put, List.setIfInBounds_toArray, List.set_cons_zero, List.set_cons_succ]
            (refine Rg.tree_quiet 1 rfl (by first | exact Or.inl rfl | exact Or.inr rfl) ?_; simp only [List.take, List.drop, List.length_cons, List.length_nil, List.replicate, Nat.reduceAdd]; (try simp only [List.cons_append]); (try simp only [List.nil_append]); (repeat (go_big_quiet_step (fail))); refine wpQuiet_nil ?_)
            (refine Rg.tree_op rfl rfl ?_; intro x6 mx6 dx6)
            clear dx6
            have ax := (HB2.out.same (grownBy_trans K6 mx6)).cell
            go_wp2_with fail
            refine ⟨grownBy_refl _ _, ?_⟩
            clear ax
            (refine Rg.tree_quiet 2 rfl (by first | exact Or.inl rfl | exact Or.inr rfl) ?_; simp only [List.take, List.drop, List.length_cons, List.length_nil, List.replicate, Nat.reduceAdd]; (try simp only [List.cons_append]); (try simp only [List.nil_append]); (repeat (go_big_quiet_step (fail))); refine wpQuiet_nil ?_)
            (refine Rg.tree_call rfl rfl rfl ?_; intro x9 mx9 dx9; refine ⟨?_, ?_⟩; · (unfold Rg.callSpec; go_simp; (refine (Cb.out x9 _ (Ho4.out.same (dx9.out 4 (by omega) (by kernel_rfl))).rd).mono ?_; rintro e w' ⟨v2, rfl, o2, g2⟩; exact ⟨v2, rfl, o2.base (fun q hq => Nat.le_trans (Nat.le_trans hsz10 (grownBy_trans K6 mx9).size) (o2.lt q hq).1), g2⟩)))
            clear dx9
            rintro v9 y9 ⟨o9, g9⟩
            refine ⟨g9, ?_⟩
            obtain ⟨a9, c9, rfl⟩ := o9.shape
            have Ho9 := Lib.hid o9
            clear g9 o9
            simp only [Act.put, List.setIfInBounds_toArray, List.set_cons_zero, List.set_cons_succ]
            (refine Rg.tree_quiet 1 rfl (by first | exact Or.inl rfl | exact Or.inr rfl) ?_; simp only [List.take, List.drop, List.length_cons, List.length_nil, List.replicate, Nat.reduceAdd]; (try simp only [List.cons_append]); (try simp only [List.nil_append]); (repeat (go_big_quiet_step (fail))); refine wpQuiet_nil ?_)
            (refine Rg.tree_nil ?_; intro z2 mz2 dz2 cz2)
            have O9 := Lib.hid (Ho9.out.same (dz2.out 9 (by omega)))
            have K9 := Lib.hid (grownBy_trans HK2.out (grownBy_trans K6 mz2))
            have HBz := Lib.hid (HB2.out.same (grownBy_trans K6 mz2))
            have HDz := Lib.hid (HD2.out.same (grownBy_trans K6 mz2)).picks
            clear dz2 cz2 mz2 mx2 mx4 mx6 mx9 K6 Ho4 Ho9 Ca Cb hwt hwq HB2 HK2 HO11 HD2
            have bz := HBz.out.cell
            go_wp2_with fail
            go_loopw [100, 4] (fun s100 s4 wk => ∃ j : Nat, j ≤ q.length ∧ s100 = .int .i64 j ∧ Own byF 1 5 w.heap.size wk s4 (L3 ++ vbs ((q.take j).map Int.toNat)) ∧ w.grownBy wk none ∧ z2.grownBy wk none) (fun s100 _ _ => q.length - (intOf s100).toNat)
            case atStart => exact ⟨0, Nat.zero_le _, rfl, by simpa [vbs] using O9.out, K9.out, grownBy_refl _ _⟩
            case round =>
              clear bz
              obtain ⟨j, hj, rfl, hb, hg, hg2⟩ := hrel
              by_cases hlt2 : j < q.length
              · obtain ⟨ja, jc, rfl⟩ := hb.shape
                obtain ⟨gv, off, cap, hv, hgl, hc⟩ := RdL.one (fun _ => rfl) (HDz.out.same hg2) hlt2
                cases hv
                have hp := HP.out _ (List.getElem_mem hlt2)
                have HS2 := Lib.hid (show L3 ++ vbs ((q.take (j + 1)).map Int.toNat) = L3 ++ vbs ((q.take j).map Int.toNat) ++ vb q[j].toNat by rw [List.take_succ_eq_append_getElem hlt2, List.map_append, List.map_singleton, vbs_snoc, List.append_assoc])
                have hlv : (vbs ((q.take j).map Int.toNat)).length ≤ 10 * ((q.take j).map Int.toNat).length := vbs_len (by
                  intro n hn
                  obtain ⟨x, hx, rfl⟩ := List.mem_map.1 hn
                  have := HP.out x (List.mem_of_mem_take hx)
                  omega)
                have hll2 : (L3 ++ vbs ((q.take j).map Int.toNat)).length ≤ 20001000 := by
                  rw [List.length_map, List.length_take] at hlv
                  rw [List.length_append]; omega
                have hwp : IntKind.u64.wrap q[j] = q[j] := IntWalk.u64_in _ (by omega)
                have Hc := Lib.hid (rappI_c _ _ q[j] wr hb.rd hp.1 (by omega) (by omega))
                have HKr := Lib.hid hg
                have HKr2 := Lib.hid hg2
                generalize L3 ++ vbs ((q.take j).map Int.toNat) = M2 at *
                generalize q[j] = x at *
                clear hb hlv hg hg2
                go_wp2_with (go_at_call 46; refine Hc.out.mono ?_; rintro e w5 ⟨v5, rfl, o5, g5⟩)
                exact ⟨⟨j + 1, by omega, by go_num, by rw [HS2.out]; exact o5.base (fun q hq => Nat.le_trans HKr.out.size (o5.lt q hq).1), grownBy_trans HKr.out g5, grownBy_trans HKr2.out g5⟩, by simp [intOf]; omega⟩
              · have e : q.take j = q := List.take_of_length_le (by omega)
                rw [e, HF2.out] at hb
                clear e
                obtain ⟨ja, jc, rfl⟩ := hb.shape
                have HBf := Lib.hid hb
                have HKr := Lib.hid hg
                clear hb hg hg2
                go_wp2_with fail
                exact ⟨⟨i + 1, by omega, by go_num, HN2.out, by rw [HS.out]; exact HBf.out, HKr.out⟩, by simp [intOf]; omega⟩
          · have HF := Lib.hid (HF1.out.trans (congrArg (L1 ++ ·) (opT3 rfl)))
            dsimp only at HF
            have hws : IntKind.u64.wrap s = s := IntWalk.u64_in _ (by omega)
            have Hc := Lib.hid (rappI_c _ L1 s w11 HO11.out.rd e5.1 (by omega) (by omega))
            go_wp2_with (go_at_call 46; refine Hc.out.mono ?_; rintro e w5 ⟨v5, rfl, o5, g5⟩)
            exact ⟨⟨i + 1, by omega, by go_num, HN2.out, by rw [HS.out, HF.out]; exact o5.base (fun q hq => Nat.le_trans hsz10 (o5.lt q hq).1), grownBy_trans HK2.out g5⟩, by simp [intOf]; omega⟩
          · have HF := Lib.hid (HF1.out.trans (congrArg (L1 ++ ·) (opT4 rfl)))
            rw [List.append_nil] at HF
            go_wp2_with fail
            exact ⟨⟨i + 1, by omega, by go_num, HN2.out, by rw [HS.out, HF.out]; exact HO11.out, HK2.out⟩, by simp [intOf]; omega⟩
          · have HF := Lib.hid (HF1.out.trans (congrArg (L1 ++ ·) (opT5 rfl)))
            dsimp only at HF
            have hvd := vb_ten (show y.size < 18446744073709551616 by omega)
            have hv2 : y.data.toList.length = y.size := Array.length_toList
            have hwd : IntKind.u64.wrap (y.size : Int) = (y.size : Int) := IntWalk.u64_in _ (by omega)
            obtain ⟨L2, hL2⟩ : ∃ L2, L1 ++ vb y.size = L2 := ⟨_, rfl⟩
            have hL2l : L2.length ≤ 20000020 := by rw [← hL2, List.length_append]; omega
            have Ca := Lib.hid fun w' (h : World.grownBy w11 w' none) => hL2 ▸ rappend_c _ L1 y.size w' (HO11.out.same h).rd (by omega) (by omega)
            obtain ⟨L3, hL3⟩ : ∃ L3, L2 ++ y.data.toList = L3 := ⟨_, rfl⟩
            have hL3l : L3.length ≤ 20000520 := by rw [← hL3, List.length_append, hv2]; omega
            have HF2 := Lib.hid (show L3 ++ vb t.toNat = M ++ opB ⟨5, .slice da d.length dc, t, s, y, .slice pa q.length pc, d, q⟩ by rw [HF.out, ← hL3, ← hL2]; simp only [List.append_assoc])
            have HL3 := Lib.hid hL3
            clear HF HF1 hL2 hL3 hvd hv2
            go_upto_region 33 with fail
            clear b2
            have hsz11 := hsz10
            have hg6 := HB2.out.lt
            clear hsz10
            have hsz10 : w11.heap.size ≤ w11.heap.size := Nat.le_refl _
            have K6 : World.grownBy w11 w11.drew none := (by (repeat (first | exact grownBy_refl _ _ | assumption | refine grownBy_new_block ?_ _ | refine grownBy_drew ?_ | refine grownBy_drewN ?_ _ | refine grownBy_setNew ?_ (by first | (simp; done) | omega | (simp; omega)) _)))
            (refine Rg.wp_region_rgZ 8 #[] (fun w w' => World.grownBy w w' none) (fun k _ w0 v w' => match k with | 5 => Own byF 1 5 w11.heap.size w' v L2 ∧ World.grownBy w0 w' none | _ => False) (by kernel_rfl) (by kernel_rfl) (fun w => grownBy_refl w none) (fun _ _ _ h k => grownBy_trans h k) (fun _ _ _ _ _ h => h) ?_; simp only [List.take, List.drop])
            generalize w11.drew = wd at *
            (refine Rg.tree_quiet 2 rfl (by first | exact Or.inl rfl | exact Or.inr rfl) ?_; simp only [List.take, List.drop, List.length_cons, List.length_nil, List.replicate, Nat.reduceAdd]; (try simp only [List.cons_append]); (try simp only [List.nil_append]); (repeat (go_big_quiet_step (fail))); refine wpQuiet_nil ?_)
            (refine Rg.tree_op rfl rfl ?_; intro x2 mx2 dx2)
            clear dx2
            have ax := (HB2.out.same (grownBy_trans K6 mx2)).cell
            go_wp2_with fail
            refine ⟨grownBy_refl _ _, ?_⟩
            clear ax
            (refine Rg.tree_quiet 2 rfl (by first | exact Or.inl rfl | exact Or.inr rfl) ?_; simp only [List.take, List.drop, List.length_cons, List.length_nil, List.replicate, Nat.reduceAdd]; (try simp only [List.cons_append]); (try simp only [List.nil_append]); (repeat (go_big_quiet_step (fail))); refine wpQuiet_nil ?_)
            (refine Rg.tree_call rfl rfl rfl ?_; intro x5 mx5 dx5; refine ⟨?_, ?_⟩; · (unfold Rg.callSpec; go_simp; (refine (Ca.out x5 (grownBy_trans K6 mx5)).mono ?_; rintro e w' ⟨v2, rfl, o2, g2⟩; exact ⟨v2, rfl, o2.base (fun q hq => Nat.le_trans (Nat.le_trans hsz10 (grownBy_trans K6 mx5).size) (o2.lt q hq).1), g2⟩)))
            clear dx5
            rintro v5 y5 ⟨o5, g5⟩
            refine ⟨g5, ?_⟩
            obtain ⟨a5, c5, rfl⟩ := o5.shape
            have Ho5 := Lib.hid o5
            clear g5 o5
            simp only [Act.put, List.setIfInBounds_toArray, List.set_cons_zero, List.set_cons_succ]
            (refine Rg.tree_quiet 1 rfl (by first | exact Or.inl rfl | exact Or.inr rfl) ?_; simp only [List.take, List.drop, List.length_cons, List.length_nil, List.replicate, Nat.reduceAdd]; (try simp only [List.cons_append]); (try simp only [List.nil_append]); (repeat (go_big_quiet_step (fail))); refine wpQuiet_nil ?_)
            (refine Rg.tree_op rfl rfl ?_; intro x7 mx7 dx7)
            clear dx7
            have ax := (HB2.out.same (grownBy_trans K6 mx7)).cell
            go_wp2_with fail
            refine ⟨grownBy_refl _ _, ?_⟩
            clear ax
            (refine Rg.tree_nil ?_; intro z1 mz1 dz1 cz1)
            have O5' := Ho5.out.same (dz1.out 5 (by omega))
            have O5 := O5'.base (B' := w.heap.size) fun q hq => Nat.le_trans hsz11 (O5'.lt q hq).1
            have hAl : ∀ q, (Value.slice a5 L2.length c5).ownBlock = some q → q ≠ g6 := fun q hq => by have := (O5'.lt q hq).1; omega
            clear O5'
            have Kz := grownBy_trans HK2.out (grownBy_trans K6 mz1)
            have HBz := Lib.hid (HB2.out.same (grownBy_trans K6 mz1))
            have hszz : w.heap.size ≤ z1.heap.size := Kz.size
            have hb1 : L2.length + y.size ≤ 140737488355328 := by omega
            clear dz1 cz1 mz1 mx2 mx5 mx7 K6 Ho5 Ca hwd HB2 HK2 HO11 HD2
            go_upto_region 34 with (at_builtin; refine app_str O5 y hb1 hszz (by rfl) _ _ (by rfl) (by rfl) (by rfl) ?_; intro v8 w8' o8 g8; rw [HL3.out] at o8; obtain ⟨a8, c8, rfl⟩ := o8.shape)
            have HK8 := Lib.hid (grown_own Kz O5 (Nat.le_refl _) g8)
            have B8 := HBz.out.kept g8 (fun e => hAl _ e rfl)
            have O8 := Lib.hid o8
            have b8 := B8.cell
            have hwt : IntKind.u64.wrap t = t := IntWalk.u64_in _ (by omega)
            have Hc := Lib.hid (rappI_c _ L3 t w8' o8.rd e4.1 (by omega) (by omega))
            have hsz8 := HK8.out.size
            clear o8 g8 B8 HBz O5 Kz
            go_wp2_with (go_at_call 46; refine Hc.out.mono ?_; rintro e w5 ⟨v5, rfl, o5, g5⟩)
            exact ⟨⟨i + 1, by omega, by go_num, HN2.out, by rw [HS.out, ← HF2.out]; exact o5.base (fun q hq => Nat.le_trans hsz8 (o5.lt q hq).1), grownBy_trans HK8.out g5⟩, by simp [intOf]; omega⟩
    · have e : l.take i = l := List.take_of_length_le (by omega)
      rw [e] at hb hall
      have HF := Lib.hid (show encE l = 0 by rw [HE.out]; exact opsE_no hall)
      have HF2 := Lib.hid (show vb l.length ++ opsB l = encO l by unfold encO; rw [if_pos HF.out])
      rw [HF2.out] at hb
      obtain ⟨va, vc, rfl⟩ := hb.shape
      have HO := Lib.hid hb
      clear hb hall e
      go_wp2_with fail
      go_ret2
      exact ⟨_, by rw [HF.out]; rfl, HO.out, HGr.out⟩
end Go.Proofs.Ytniokdflljchgaa

/- The reference's reader of bytes. -/
namespace Go.Proofs.Ytniokdflljchgaa
open Go.RowKit Go.Sort

set_option maxHeartbeats 1000000 in
set_option maxRecDepth 100000 in
theorem rnumber_c (B g : Nat) (l : List UInt8) (e : Int) (w : World) (h : Rdr B w g l e) :
    Calls Try.prog 74 #[.pointer (some ⟨g, 0, none⟩)] w (NumP B g w (weiF l e)) := by
  obtain ⟨a, c, hb, hr, hlc, hab⟩ := h.ex
  have hgB := h.hg
  have hbl := hb.cell
  by_cases he : e ≠ 0
  · have hF := Lib.hid (show weiF l e = (0, l, e) from if_pos he)
    have he2 : (e != 0) = true := by simp [he]
    have H := Lib.hid h
    clear h hr he hb
    go_enter Try.func74, Try.ntmps74
    go_wp2
    go_ret
    exact ⟨by rw [hF.out]; rfl, by rw [hF.out]; exact H.out, grownBy_refl _ _⟩
  · obtain rfl : e = 0 := by omega
    have C := Lib.hid (rread_c _ l w hr)
    have hu := readF_used l
    have hw := readF_w l
    have HE := Lib.hid (readF_err l)
    have HN := Lib.hid (show weiF l 0 = if (readF l).2.2 ≠ 0 then (0, l, (readF l).2.2) else if 18446744073709551615 < (readF l).1 then (0, l.drop (readF l).2.1, 1) else ((readF l).1, l.drop (readF l).2.1, 0) from if_neg he)
    have HR := Lib.hid hr
    have HB := Lib.hid hb
    have HA := Lib.hid hab
    have H := Lib.hid h
    clear h hr he hb hab
    obtain ⟨n, u, f, hF⟩ : ∃ n u f, readF l = (n, u, f) := ⟨_, _, _, rfl⟩
    rw [hF] at C hu hw HE HN
    clear hF
    dsimp only at hu hw
    have hu0 : (0 : Int) ≤ (u : Int) := by omega
    have hu1 : (u : Int) ≤ (c : Int) := by omega
    have hu2 : (u : Int) ≤ (l.length : Int) := by omega
    have hl2 : (l.length : Int) ≤ (c : Int) := by omega
    go_enter Try.func74, Try.ntmps74
    go_upto_region 4 with (go_at_call 88; refine C.out.mono ?_; rintro en w1 ⟨rfl, g1⟩)
    clear hbl
    have HB1 := HB.out.same g1
    have H1 := H.out.same g1
    have hfr := HB1.free
    have hbl := HB1.cell
    obtain ⟨R2, g2⟩ := Rdr.setB HB1 (HR.out.same g1) hlc HA.out hgB hu
    have R3 := Lib.hid (H1.setE f)
    have R4 := Lib.hid R2
    have KW := Lib.hid (grownBy_trans (grownBy_some g1 (some g)) g2)
    have G1 := Lib.hid g1
    clear HB1 H1 H HB HR HA R2 g2 g1
    by_cases hf : f = 0
    · subst hf
      have HF := Lib.hid (HN.out.trans ((if_neg (by simp)).trans (if_neg (by omega))))
      clear HN HE C R3
      go_wp2_with fail
      · go_ret
        have r4 := R4.out
        have kw := KW.out
        rw [if_pos h, show c - u = 0 by omega] at r4 kw
        exact ⟨by rw [HF.out]; rfl, by rw [HF.out]; exact r4, kw⟩
      · go_ret
        have r4 := R4.out
        have kw := KW.out
        rw [if_neg h] at r4 kw
        exact ⟨by rw [HF.out]; rfl, by rw [HF.out]; exact r4, kw⟩
    · have hf1 : (f != 0) = true := by simp [hf]
      have HF := Lib.hid (HN.out.trans (if_pos hf))
      clear HN HE hf C R4 KW
      go_wp2_with fail
      go_ret
      exact ⟨by rw [HF.out]; rfl, by rw [HF.out]; exact R3.out.1, grownBy_trans (grownBy_some G1.out (some g)) R3.out.2⟩

/-- A number as an int. -/
def UpP (B g : Nat) (w : World) (F : Nat × List UInt8 × Int) (en : Ending) (w' : World) : Prop :=
  en = .returned (.int .i64 F.1) ∧ Rdr B w' g F.2.1 F.2.2 ∧ w.grownBy w' (some g)
theorem numF_wei {most : Nat} {over : Int} {l : List UInt8} {e : Int} : numF most over l e = if (weiF l e).2.2 ≠ 0 then (0, (weiF l e).2.1, (weiF l e).2.2) else if most < (weiF l e).1 then (0, (weiF l e).2.1, over) else weiF l e := by
  have hw := readF_w l
  unfold weiF numF
  by_cases h1 : e ≠ 0
  · rw [if_pos h1, if_pos h1]; simp [h1]
  rw [if_neg h1, if_neg h1]
  by_cases h2 : (readF l).2.2 ≠ 0
  · rw [if_pos h2, if_pos h2]; simp [h2]
  rw [if_neg h2, if_neg h2, if_neg (show ¬ 18446744073709551615 < (readF l).1 by omega)]
  simp

set_option maxHeartbeats 1000000 in
set_option maxRecDepth 100000 in
theorem rupto_c (B g most : Nat) (over : Int) (l : List UInt8) (e : Int) (w : World) (h : Rdr B w g l e) (hm : most < 9223372036854775808) (ho : 0 < over) :
    Calls Try.prog 51 #[.pointer (some ⟨g, 0, none⟩), .int .u64 most, .int .i64 over] w (UpP B g w (numF most over l e)) := by
  have C := Lib.hid (rnumber_c B g l e w h)
  have HN := Lib.hid (numF_wei (most := most) (over := over) (l := l) (e := e))
  clear h
  obtain ⟨n, r, f, hF⟩ : ∃ n r f, weiF l e = (n, r, f) := ⟨_, _, _, rfl⟩
  rw [hF] at C HN
  clear hF
  go_enter Try.func51, Try.ntmps51
  go_upto_region 2 with (go_at_call 74; refine C.out.mono ?_; rintro en w1 ⟨rfl, R, g1⟩)
  have R3 := Lib.hid (R.setE over)
  have R4 := Lib.hid R
  have KW := Lib.hid g1
  obtain ⟨a, c, hb, -, -, -⟩ := R.ex
  have hbl := hb.cell
  have hfr := hb.free
  clear R hb g1 C
  by_cases hf : f = 0
  · subst hf
    by_cases hn : most < n
    · have hn2 : (most : Int) < (n : Int) := by omega
      have HF := Lib.hid (HN.out.trans ((if_neg (by simp)).trans (if_pos hn)))
      have ho2 : (over != 0) = true := by simp; omega
      clear HN hn
      go_wp2_with fail
      go_ret
      exact ⟨by rw [HF.out]; rfl, by rw [HF.out]; exact R3.out.1, grownBy_trans KW.out R3.out.2⟩
    · have hn2 : (n : Int) ≤ (most : Int) := by omega
      have HF := Lib.hid (HN.out.trans ((if_neg (by simp)).trans (if_neg hn)))
      have hwr : IntKind.i64.wrap (n : Int) = (n : Int) := IntWalk.i64_in _ (by omega)
      clear HN hn R3
      go_wp2_with fail
      go_ret
      exact ⟨by rw [HF.out]; rfl, by rw [HF.out]; exact R4.out, KW.out⟩
  · have hf1 : (f != 0) = true := by simp [hf]
    have hf2 : (f == 0) = false := by simp [hf]
    have HF := Lib.hid (HN.out.trans (if_pos hf))
    clear HN hf R3
    go_wp2_with fail
    go_ret
    exact ⟨by rw [HF.out]; rfl, by rw [HF.out]; exact R4.out, KW.out⟩
end Go.Proofs.Ytniokdflljchgaa

/- The reference's reader: texts of any length. -/
namespace Go.Proofs.Ytniokdflljchgaa
open Go.RowKit Go.Sort

set_option maxHeartbeats 1000000 in
set_option maxRecDepth 100000 in
theorem rtextG_c (B g most : Nat) (l : List UInt8) (e : Int) (w : World) (h : Rdr B w g l e) (hm : most < 4611686018427387904) :
    Calls Try.prog 52 #[.pointer (some ⟨g, 0, none⟩), .int .u64 most] w (TextP B g w (textD most l e)) := by
  have C := Lib.hid (rupto_c B g most 4 l e w h (by omega) (by omega))
  have HN := Lib.hid (show textD most l e = if (numF most 4 l e).2.2 ≠ 0 then ([], (numF most 4 l e).2.1, (numF most 4 l e).2.2) else if (numF most 4 l e).2.1.length < (numF most 4 l e).1 then ([], (numF most 4 l e).2.1, 2) else ((numF most 4 l e).2.1.take (numF most 4 l e).1, (numF most 4 l e).2.1.drop (numF most 4 l e).1, 0) from rfl)
  have hw := (numF_w (most := most) (over := 4) (l := l) (e := e)).2
  clear h
  obtain ⟨n, r, f, hF⟩ : ∃ n r f, numF most 4 l e = (n, r, f) := ⟨_, _, _, rfl⟩
  rw [hF] at C HN hw
  clear hF
  dsimp only at hw
  go_enter Try.func52, Try.ntmps52
  go_upto_region 2 with (go_at_call 51; refine C.out.mono ?_; rintro en w1 ⟨rfl, R, g1⟩)
  have R2 := Lib.hid (R.setE 2)
  have R4 := Lib.hid R
  have KW := Lib.hid g1
  obtain ⟨a, c, hb, hr, hlc, hab⟩ := R.ex
  have hgB := R.hg
  have hbl := hb.cell
  have hfr := hb.free
  have HB := Lib.hid hb
  have HR := Lib.hid hr
  have HA := Lib.hid hab
  clear R hb g1 C hr hab
  by_cases hf : f = 0
  · subst hf
    by_cases hn : r.length < n
    · have hn2 : (r.length : Int) < (n : Int) := by omega
      have HF := Lib.hid (HN.out.trans ((if_neg (by simp)).trans (if_pos hn)))
      clear HN hn R4 HB HR HA
      go_wp2_with fail
      go_ret
      exact ⟨by rw [HF.out]; rfl, by rw [HF.out]; exact R2.out.1, grownBy_trans KW.out R2.out.2⟩
    · have hn2 : (n : Int) ≤ (r.length : Int) := by omega
      have hn3 : (n : Int) ≤ (c : Int) := by omega
      have hn0 : (0 : Int) ≤ (n : Int) := by omega
      have hlc2 : (r.length : Int) ≤ (c : Int) := by omega
      have HF := Lib.hid (HN.out.trans ((if_neg (by simp)).trans (if_neg hn)))
      have hcv := conv_by (RdL.take byF_len HR.out (k := n) (by omega) c)
      obtain ⟨R5, g2⟩ := Rdr.setB HB.out HR.out hlc HA.out hgB (k := n) (by omega)
      have HR5 := Lib.hid R5
      have HG2 := Lib.hid g2
      have HHn := Lib.hid hn
      clear HN R2 R4 HB HR HA R5 g2 hn
      go_wp2_with fail
      · go_ret
        have r4 := HR5.out
        have kw := HG2.out
        rw [if_pos h, show c - n = 0 by omega] at r4 kw
        exact ⟨by rw [HF.out]; rfl, by rw [HF.out]; exact r4, grownBy_trans KW.out kw⟩
      · go_ret
        have r4 := HR5.out
        have kw := HG2.out
        rw [if_neg h] at r4 kw
        exact ⟨by rw [HF.out]; rfl, by rw [HF.out]; exact r4, grownBy_trans KW.out kw⟩
  · have hf1 : (f != 0) = true := by simp [hf]
    have hf2 : (f == 0) = false := by simp [hf]
    have HF := Lib.hid (HN.out.trans (if_pos hf))
    clear HN hf R2 HB HR HA
    go_wp2_with fail
    go_ret
    exact ⟨by rw [HF.out]; rfl, by rw [HF.out]; exact R4.out, KW.out⟩

end Go.Proofs.Ytniokdflljchgaa

/- The reference's reader of bytes: the end. -/
namespace Go.Proofs.Ytniokdflljchgaa
open Go.RowKit Go.Sort

/-- The first error, or that there are more bytes. -/
def endE (l : List UInt8) (e : Int) : Int := if e ≠ 0 then e else if l ≠ [] then 3 else 0
set_option maxHeartbeats 1000000 in
theorem rend_c (B g : Nat) (l : List UInt8) (e : Int) (w : World) (h : Rdr B w g l e) :
    Calls Try.prog 53 #[.pointer (some ⟨g, 0, none⟩)] w (fun en w' => en = .returned (.int .i64 (endE l e)) ∧ Rdr B w' g l (endE l e) ∧ w.grownBy w' (some g)) := by
  obtain ⟨a, c, hb, hr, hlc, hab⟩ := h.ex
  have hbl := hb.cell
  have hfr := hb.free
  have H := Lib.hid h
  have KW := Lib.hid (h.setE 3)
  clear h hb hr hab
  by_cases he : e = 0
  · subst he
    cases l with
    | nil =>
      go_enter Try.func53, Try.ntmps53
      go_wp2_with fail
      go_ret
      exact ⟨rfl, H.out, grownBy_refl _ _⟩
    | cons b l =>
      have HE := Lib.hid (show endE (b :: l) 0 = 3 by simp [endE])
      have hp : (0 : Int) < ((b :: l).length : Int) := by simp
      generalize b :: l = L at *
      go_enter Try.func53, Try.ntmps53
      go_wp2_with fail
      go_ret
      exact ⟨by rw [HE.out]; rfl, by rw [HE.out]; exact KW.out.1, KW.out.2⟩
  · have hf2 : (e == 0) = false := by simp [he]
    have HE := Lib.hid (show endE l e = e from if_pos he)
    clear he
    go_enter Try.func53, Try.ntmps53
    go_wp2_with fail
    go_ret
    exact ⟨by rw [HE.out]; rfl, by rw [HE.out]; exact H.out, grownBy_refl _ _⟩
end Go.Proofs.Ytniokdflljchgaa
