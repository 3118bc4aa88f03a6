/- The bytes of events, of frames: the reference. -/
import Derived.Test.YtniokdflljchgaaTagK
import Derived.Test.YtniokdflljchgaaRenc
import Derived.Test.YtniokdflljchgaaBuf
namespace Go.Proofs.Ytniokdflljchgaa
open Go.RowKit Go.Sort

/-- An event: its tags as they stand, its numbers, what the tags read as. -/
structure EvR where
  (vt : Value) (time weight : Int) (tags : List TagR)
def evF (x : EvR) : List Value := [x.vt, .int .i64 x.time, .int .u64 x.weight]
theorem evF_len (x : EvR) : (evF x).length = 3 := rfl
structure EvOk (x : EvR) : Prop where
  time : 0 ≤ x.time ∧ x.time ≤ 1099511627776
  weight : W64 x.weight
  few : x.tags.length ≤ 3
  size : ∀ t ∈ x.tags, t.name.size ≤ 70 ∧ t.value.size ≤ 70
def tgB (t : TagR) : List UInt8 := vb t.name.size ++ nmB t ++ vb t.value.size ++ vlB t
def tgsB (l : List TagR) : List UInt8 := l.flatMap tgB
theorem tgsB_snoc (l : List TagR) (t : TagR) : tgsB (l ++ [t]) = tgsB l ++ tgB t := by simp [tgsB]
def evB (x : EvR) : List UInt8 := vb x.time.toNat ++ vb x.weight.toNat ++ vb x.tags.length ++ tgsB x.tags
def evsB (l : List EvR) : List UInt8 := l.flatMap evB
theorem evsB_snoc (l : List EvR) (x : EvR) : evsB (l ++ [x]) = evsB l ++ evB x := by simp [evsB]
def bodyB (l : List EvR) : List UInt8 := vb l.length ++ evsB l
def frB (l : List EvR) : List UInt8 := vb (bodyB l).length ++ bodyB l
theorem tgB_len {t : TagR} (h : t.name.size ≤ 70 ∧ t.value.size ≤ 70) : (tgB t).length ≤ 142 := by
  have e1 : (vb t.name.size).length = 1 := by rw [vb_small (by omega)]; rfl
  have e2 : (vb t.value.size).length = 1 := by rw [vb_small (by omega)]; rfl
  unfold tgB
  simp only [List.length_append, nm_len, vl_len]; omega
theorem tgsB_len {l : List TagR} (h : ∀ t ∈ l, t.name.size ≤ 70 ∧ t.value.size ≤ 70) : (tgsB l).length ≤ 142 * l.length := by
  induction l with
  | nil => simp [tgsB]
  | cons a l ih =>
    have h1 := ih fun o ho => h o (List.mem_cons_of_mem _ ho)
    have h2 := tgB_len (h a (by simp))
    simp only [tgsB, List.flatMap_cons, List.length_append, List.length_cons] at *
    omega
theorem evB_len {x : EvR} (h : EvOk x) : (evB x).length ≤ 456 := by
  have h1 := h.time
  have h2 := h.weight
  have h3 := h.few
  have h4 := tgsB_len h.size
  unfold W64 at h2
  have e1 := vb_ten (show x.time.toNat < 18446744073709551616 by omega)
  have e2 := vb_ten (show x.weight.toNat < 18446744073709551616 by omega)
  have e3 := vb_ten (show x.tags.length < 18446744073709551616 by omega)
  unfold evB
  simp only [List.length_append]; omega
theorem evsB_len {l : List EvR} (h : ∀ x ∈ l, EvOk x) : (evsB l).length ≤ 456 * l.length := by
  induction l with
  | nil => simp [evsB]
  | cons a l ih =>
    have h1 := ih fun o ho => h o (List.mem_cons_of_mem _ ho)
    have h2 := evB_len (h a (by simp))
    simp only [evsB, List.flatMap_cons, List.length_append, List.length_cons] at *
    omega
theorem bodyB_len {l : List EvR} (h : ∀ x ∈ l, EvOk x) (hl : l.length ≤ 4) : (bodyB l).length ≤ 1834 := by
  have h1 := evsB_len h
  have e3 := vb_ten (show l.length < 18446744073709551616 by omega)
  unfold bodyB
  rw [List.length_append]; omega
theorem frB_len {l : List EvR} (h : ∀ x ∈ l, EvOk x) (hl : l.length ≤ 4) : (frB l).length ≤ 1844 := by
  have h1 := bodyB_len h hl
  have e3 := vb_ten (show (bodyB l).length < 18446744073709551616 by omega)
  unfold frB
  rw [List.length_append]; omega
def BytesP (l : List UInt8) (w : World) (e : Ending) (w' : World) : Prop := ∃ v, e = .returned (.tuple #[v, .int .i64 0]) ∧ Own byF 1 5 w.heap.size w' v l ∧ w.grownBy w' none
theorem appI_c (v : Value) (l : List UInt8) (n : Int) (w : World) (h : RdL byF 1 w v l) (h0 : 0 ≤ n) (hn : n < 18446744073709551616) (hl : l.length ≤ 1000000000000) : Calls Try.prog 46 #[v, .int .u64 n] w (RetOwn byF 1 5 (l ++ vb n.toNat) w) := by
  obtain ⟨m, rfl⟩ := Int.eq_ofNat_of_zero_le h0
  exact rappend_c v l m w h (by omega) hl

set_option maxHeartbeats 2000000 in
set_option maxRecDepth 100000 in
theorem revent_c (x : EvR) (w : World) (hR : RdL tagF 2 w x.vt x.tags) (hE : EvOk x) : Calls Try.prog 110 #[.agg #[x.vt, .int .i64 x.time, .int .u64 x.weight]] w (BytesP (evB x) w) := by
  obtain ⟨va, vc, e1⟩ := hR.shape
  obtain ⟨vt, t, wt, tg⟩ := x
  dsimp only at *
  subst e1
  obtain ⟨⟨t0, t1⟩, hw, hfew, hsz⟩ := hE
  dsimp only at *
  unfold W64 at hw
  obtain ⟨w0, w1'⟩ := hw
  have HSZ := Lib.hid hsz
  have HR := Lib.hid hR
  have HB := Lib.hid (show evB ⟨.slice va tg.length vc, t, wt, tg⟩ = vb t.toNat ++ vb wt.toNat ++ vb tg.length ++ tgsB tg from rfl)
  have B1 := Blk.new w #[.slice va tg.length vc, .int .i64 t, .int .u64 wt] 145
  have G1 := grownBy_new_block (grownBy_refl w none) (.cells #[.slice va tg.length vc, .int .i64 t, .int .u64 wt] 145)
  have hfew2 : (tg.length : Int) ≤ 3 := by omega
  have hwt : IntKind.u64.wrap t = t := IntWalk.u64_in _ (by omega)
  have hwl : IntKind.u64.wrap (tg.length : Int) = (tg.length : Int) := IntWalk.u64_in _ (by omega)
  clear hR hsz
  go_enter Try.func110, Try.ntmps110
  go_upto_region 1 with fail
  generalize w.alloc (.cells #[.slice va tg.length vc, .int .i64 t, .int .u64 wt] 145) = w1 at *
  generalize w.heap.size = b at *
  have HB1 := Lib.hid B1
  have HG1 := Lib.hid G1
  have HR1 := Lib.hid (HR.out.same G1)
  have b1 := B1.cell
  have e1 := vb_ten (show t.toNat < 18446744073709551616 by omega)
  have e2 := vb_ten (show wt.toNat < 18446744073709551616 by omega)
  have e3 := vb_ten (show tg.length < 18446744073709551616 by omega)
  have C1 := Lib.hid (appI_c (.slice none 0 0) [] t w1 (Own.nil byF 1 5 0 w1).rd t0 (by omega) (by simp))
  clear B1 G1 HR
  go_upto_region 6 with (go_at_call 46; refine C1.out.mono ?_; rintro e w2 ⟨v2, rfl, o2, g2⟩)
  rw [List.nil_append] at o2
  have b2 := (HB1.out.same g2).cell
  have C2 := Lib.hid (appI_c _ (vb t.toNat) wt w2 o2.rd w0 (by omega) (by omega))
  have HG2 := Lib.hid (grownBy_trans HG1.out g2)
  have HB2' := Lib.hid (HB1.out.same g2)
  have HR2 := Lib.hid (HR1.out.same g2)
  clear b1 C1 o2 g2 HB1 HR1
  go_upto_region 7 with (go_at_call 46; refine C2.out.mono ?_; rintro e w3 ⟨v3, rfl, o3, g3⟩)
  have b3 := (HB2'.out.same g3).cell
  have C3 := Lib.hid (rappend_c _ (vb t.toNat ++ vb wt.toNat) tg.length w3 o3.rd (by omega) (by rw [List.length_append]; omega))
  have HG3 := Lib.hid (grownBy_trans HG2.out g3)
  have HB3' := Lib.hid (HB2'.out.same g3)
  have HR3 := Lib.hid (HR2.out.same g3)
  clear b2 C2 o3 g3 HB2' HR2
  go_upto_region 8 with (go_at_call 46; refine C3.out.mono ?_; rintro e w4 ⟨v4, rfl, o4, g4⟩)
  have b4 := (HB3'.out.same g4).cell
  have HG4 := Lib.hid (grownBy_trans HG3.out g4)
  have HR4 := Lib.hid (HR3.out.same g4)
  obtain ⟨M, hM⟩ : ∃ M, vb t.toNat ++ vb wt.toNat ++ vb tg.length = M := ⟨_, rfl⟩
  have hMl : M.length ≤ 30 := by rw [← hM]; simp only [List.length_append]; omega
  rw [hM] at HB o4
  have HO4 := Lib.hid (o4.base (B' := w.heap.size) fun q hq => Nat.le_trans HG3.out.size (o4.lt q hq).1)
  clear b3 C3 o4 g4 HB3' HR3 hM e1 e2 e3
  go_wp2_with fail
  clear b4
  go_loopw [36, 4] (fun s36 s4 wk => ∃ i : Nat, i ≤ tg.length ∧ s36 = .int .i64 i ∧ Own byF 1 5 w.heap.size wk s4 (M ++ tgsB (tg.take i)) ∧ w4.grownBy wk none) (fun s36 _ _ => tg.length - (intOf s36).toNat)
  case atStart => exact ⟨0, Nat.zero_le _, rfl, by simpa [tgsB] using HO4.out, grownBy_refl _ _⟩
  case round =>
    clear HO4
    obtain ⟨i, hi, rfl, hO, hg⟩ := hrel
    by_cases hlt : i < tg.length
    · obtain ⟨gx, ox, cx, hv, hgx, hcx⟩ := (RdL.same HR4.out hg).at_ tagF_len hlt
      cases hv
      have c0 := hcx 0 _ rfl
      have c1 := hcx 1 _ rfl
      rw [Nat.add_zero] at c0
      obtain ⟨hn70, hv70⟩ := HSZ.out _ (List.getElem_mem hlt)
      have HS := Lib.hid (show M ++ tgsB (tg.take (i + 1)) = M ++ tgsB (tg.take i) ++ tgB tg[i] by rw [List.take_succ_eq_append_getElem hlt, tgsB_snoc, List.append_assoc])
      have hll : (M ++ tgsB (tg.take i)).length ≤ 1000 := by
        have := tgsB_len (l := tg.take i) fun t ht => HSZ.out t (List.mem_of_mem_take ht)
        rw [List.length_take] at this
        rw [List.length_append]; omega
      have HTG := Lib.hid (show tgB tg[i] = vb tg[i].name.size ++ nmB tg[i] ++ vb tg[i].value.size ++ vlB tg[i] from rfl)
      clear hcx
      generalize M ++ tgsB (tg.take i) = L at *
      generalize tg[i] = x at *
      obtain ⟨oa, oc, rfl⟩ := hO.shape
      have j1 : (x.name.size : Int) ≤ 70 := by omega
      have j2 : (x.value.size : Int) ≤ 70 := by omega
      go_upto_region 13 with fail
      have A10 := Blk.new wr #[.string x.name, .string x.value] 143
      have G10 := World.grownBy_alloc wr (.cells #[.string x.name, .string x.value] 143) none
      have O10 := Lib.hid (hO.same G10)
      have K10 := Lib.hid (grownBy_trans (grownBy_trans HG4.out hg) G10)
      have Kw4 := Lib.hid (grownBy_trans hg G10)
      generalize wr.alloc (.cells #[.string x.name, .string x.value] 143) = w10 at *
      generalize wr.heap.size = gl at *
      have HB2 := Lib.hid A10
      have hgl10 := A10.lt
      clear A10 G10 hO hg c0 c1
      have hwk : IntKind.u64.wrap (x.name.size : Int) = (x.name.size : Int) := IntWalk.u64_in _ (by omega)
      have hwv : IntKind.u64.wrap (x.value.size : Int) = (x.value.size : Int) := IntWalk.u64_in _ (by omega)
      have f1 := vb_ten (show x.name.size < 18446744073709551616 by omega)
      have f2 := vb_ten (show x.value.size < 18446744073709551616 by omega)
      have f3 := nm_len x
      obtain ⟨L1, hL1⟩ : ∃ L1, L ++ vb x.name.size = L1 := ⟨_, rfl⟩
      have hL1l : L1.length ≤ 1010 := by rw [← hL1, List.length_append]; omega
      have Ca := Lib.hid fun w' (h : World.grownBy w10 w' none) => hL1 ▸ rappend_c _ L x.name.size w' (O10.out.same h).rd (by omega) (by omega)
      obtain ⟨L2, hL2⟩ : ∃ L2, L1 ++ nmB x = L2 := ⟨_, rfl⟩
      have hL2l : L2.length ≤ 1080 := by rw [← hL2, List.length_append]; omega
      have HL2 := Lib.hid (show L1 ++ x.name.data.toList = L2 from hL2)
      obtain ⟨L3, hL3⟩ : ∃ L3, L2 ++ vb x.value.size = L3 := ⟨_, rfl⟩
      have hL3l : L3.length ≤ 1090 := by rw [← hL3, List.length_append]; omega
      have HL4 := Lib.hid (show L3 ++ x.value.data.toList = L ++ tgB x by rw [HTG.out, ← hL3, ← hL2, ← hL1]; simp only [List.append_assoc]; rfl)
      have hb9 : L1.length + x.name.size ≤ 140737488355328 := by omega
      have K6 : World.grownBy w10 (World.drew w10) none := (by (repeat (first | exact grownBy_refl _ _ | assumption | refine grownBy_new_block ?_ _ | refine grownBy_drew ?_ | refine grownBy_drewN ?_ _ | refine grownBy_setNew ?_ (by first | (simp; done) | omega | (simp; omega)) _)))
      have hsz10 : (w10).heap.size ≤ (w10).heap.size := Nat.le_refl _
      (refine Rg.wp_region_rgZ 8 #[] (fun w w' => World.grownBy w w' none) (fun k _ w0 v w' => match k with | 5 => Own byF 1 5 (w10).heap.size w' v L1 ∧ World.grownBy w0 w' none | _ => False) (by kernel_rfl) (by kernel_rfl) (fun w => grownBy_refl w none) (fun _ _ _ h k => grownBy_trans h k) (fun _ _ _ _ _ h => h) ?_; simp only [List.take, List.drop])
      generalize World.drew w10 = wd at *
      (refine Rg.tree_quiet 2 rfl (by first | exact Or.inl rfl | exact Or.inr rfl) ?_; simp only [List.take, List.drop, List.length_cons, List.length_nil, List.replicate, Nat.reduceAdd]; (try simp only [List.cons_append]); (try simp only [List.nil_append]); (repeat (go_big_quiet_step (fail))); refine wpQuiet_nil ?_)
      (refine Rg.tree_op rfl rfl ?_; intro x2 mx2 dx2)
      clear dx2
      have ax := (HB2.out.same (grownBy_trans K6 mx2)).cell
      go_wp2_with fail
      refine ⟨grownBy_refl _ _, ?_⟩
      clear ax
      (refine Rg.tree_quiet 2 rfl (by first | exact Or.inl rfl | exact Or.inr rfl) ?_; simp only [List.take, List.drop, List.length_cons, List.length_nil, List.replicate, Nat.reduceAdd]; (try simp only [List.cons_append]); (try simp only [List.nil_append]); (repeat (go_big_quiet_step (fail))); refine wpQuiet_nil ?_)
      (refine Rg.tree_call rfl rfl rfl ?_; intro x5 mx5 dx5; refine ⟨?_, ?_⟩; · (unfold Rg.callSpec; go_simp; (refine (Ca.out x5 (grownBy_trans K6 mx5)).mono ?_; rintro e w' ⟨v2, rfl, o2, g2⟩; exact ⟨v2, rfl, o2.base (fun q hq => Nat.le_trans (Nat.le_trans hsz10 (grownBy_trans K6 mx5).size) (o2.lt q hq).1), g2⟩)))
      clear dx5
      rintro v5 y5 ⟨o5, g5⟩
      refine ⟨g5, ?_⟩
      obtain ⟨a5, c5, rfl⟩ := o5.shape
      have Ho5 := Lib.hid o5
      clear g5 o5
      simp only [Act.put, List.setIfInBounds_toArray, List.set_cons_zero, List.set_cons_succ]
      (refine Rg.tree_quiet 1 rfl (by first | exact Or.inl rfl | exact Or.inr rfl) ?_; simp only [List.take, List.drop, List.length_cons, List.length_nil, List.replicate, Nat.reduceAdd]; (try simp only [List.cons_append]); (try simp only [List.nil_append]); (repeat (go_big_quiet_step (fail))); refine wpQuiet_nil ?_)
      (refine Rg.tree_op rfl rfl ?_; intro x7 mx7 dx7)
      clear dx7
      have ax := (HB2.out.same (grownBy_trans K6 mx7)).cell
      go_wp2_with fail
      refine ⟨grownBy_refl _ _, ?_⟩
      clear ax
      (refine Rg.tree_nil ?_; intro z1 mz1 dz1 cz1)
      have O5' := Ho5.out.same (dz1.out 5 (by omega))
      have Kz := Lib.hid (grownBy_trans K6 mz1)
      have hAl := Lib.hid (fun q hq => (O5'.lt q hq).1 : ∀ q, (Value.slice a5 (L1).length c5).ownBlock = some q → (w10).heap.size ≤ q)
      clear dz1 cz1 mz1 mx2 mx5 mx7 K6 Ho5 hsz10 Ca
      have hszz := Kz.out.size
      go_upto_region 14 with (at_builtin; refine app_str O5' x.name hb9 hszz (by rfl) _ _ (by rfl) (by rfl) (by rfl) ?_; intro v8 w8 o8 g8; rw [HL2.out] at o8; obtain ⟨a8, c8, rfl⟩ := o8.shape)
      have K8 := Lib.hid (grown_own Kz.out O5' (Nat.le_refl _) g8)
      have HB3 := Lib.hid ((HB2.out.same Kz.out).kept g8 (fun e => by have := hAl.out _ e; omega))
      have O8 := Lib.hid o8
      have Cb := Lib.hid fun w' (h : World.grownBy w8 w' none) => hL3 ▸ rappend_c _ L2 x.value.size w' (O8.out.same h).rd (by omega) (by omega)
      have hgl8 := HB3.out.lt
      clear o8 g8 O5' hAl Kz hszz HB2 hL3
      have HB2 := HB3
      have hb9 : L3.length + x.value.size ≤ 140737488355328 := by omega
      have K6 : World.grownBy w8 (World.drew w8) none := (by (repeat (first | exact grownBy_refl _ _ | assumption | refine grownBy_new_block ?_ _ | refine grownBy_drew ?_ | refine grownBy_drewN ?_ _ | refine grownBy_setNew ?_ (by first | (simp; done) | omega | (simp; omega)) _)))
      have hsz10 : (w8).heap.size ≤ (w8).heap.size := Nat.le_refl _
      (refine Rg.wp_region_rgZ 8 #[] (fun w w' => World.grownBy w w' none) (fun k _ w0 v w' => match k with | 5 => Own byF 1 5 (w8).heap.size w' v L3 ∧ World.grownBy w0 w' none | _ => False) (by kernel_rfl) (by kernel_rfl) (fun w => grownBy_refl w none) (fun _ _ _ h k => grownBy_trans h k) (fun _ _ _ _ _ h => h) ?_; simp only [List.take, List.drop])
      generalize World.drew w8 = wd at *
      (refine Rg.tree_quiet 2 rfl (by first | exact Or.inl rfl | exact Or.inr rfl) ?_; simp only [List.take, List.drop, List.length_cons, List.length_nil, List.replicate, Nat.reduceAdd]; (try simp only [List.cons_append]); (try simp only [List.nil_append]); (repeat (go_big_quiet_step (fail))); refine wpQuiet_nil ?_)
      (refine Rg.tree_op rfl rfl ?_; intro x2 mx2 dx2)
      clear dx2
      have ax := (HB2.out.same (grownBy_trans K6 mx2)).cell
      go_wp2_with fail
      refine ⟨grownBy_refl _ _, ?_⟩
      clear ax
      (refine Rg.tree_quiet 2 rfl (by first | exact Or.inl rfl | exact Or.inr rfl) ?_; simp only [List.take, List.drop, List.length_cons, List.length_nil, List.replicate, Nat.reduceAdd]; (try simp only [List.cons_append]); (try simp only [List.nil_append]); (repeat (go_big_quiet_step (fail))); refine wpQuiet_nil ?_)
      (refine Rg.tree_call rfl rfl rfl ?_; intro x5 mx5 dx5; refine ⟨?_, ?_⟩; · (unfold Rg.callSpec; go_simp; (refine (Cb.out x5 (grownBy_trans K6 mx5)).mono ?_; rintro e w' ⟨v2, rfl, o2, g2⟩; exact ⟨v2, rfl, o2.base (fun q hq => Nat.le_trans (Nat.le_trans hsz10 (grownBy_trans K6 mx5).size) (o2.lt q hq).1), g2⟩)))
      clear dx5
      rintro v5 y5 ⟨o5, g5⟩
      refine ⟨g5, ?_⟩
      obtain ⟨a5, c5, rfl⟩ := o5.shape
      have Ho5 := Lib.hid o5
      clear g5 o5
      simp only [Act.put, List.setIfInBounds_toArray, List.set_cons_zero, List.set_cons_succ]
      (refine Rg.tree_quiet 1 rfl (by first | exact Or.inl rfl | exact Or.inr rfl) ?_; simp only [List.take, List.drop, List.length_cons, List.length_nil, List.replicate, Nat.reduceAdd]; (try simp only [List.cons_append]); (try simp only [List.nil_append]); (repeat (go_big_quiet_step (fail))); refine wpQuiet_nil ?_)
      (refine Rg.tree_op rfl rfl ?_; intro x7 mx7 dx7)
      clear dx7
      have ax := (HB2.out.same (grownBy_trans K6 mx7)).cell
      go_wp2_with fail
      refine ⟨grownBy_refl _ _, ?_⟩
      clear ax
      (refine Rg.tree_nil ?_; intro z1 mz1 dz1 cz1)
      have O5' := Ho5.out.same (dz1.out 5 (by omega))
      have Kz := Lib.hid (grownBy_trans K6 mz1)
      have hAl := Lib.hid (fun q hq => (O5'.lt q hq).1 : ∀ q, (Value.slice a5 (L3).length c5).ownBlock = some q → (w8).heap.size ≤ q)
      clear dz1 cz1 mz1 mx2 mx5 mx7 K6 Ho5 hsz10 Cb
      have hszz := Kz.out.size
      go_wp2_with (at_builtin; refine app_str O5' x.value hb9 hszz (by rfl) _ _ (by rfl) (by rfl) (by rfl) ?_; intro v9 w9 o9 g9; rw [HL4.out] at o9; obtain ⟨a9, c9, rfl⟩ := o9.shape)
      have K9 := grown_own Kz.out O5' (Nat.le_refl _) g9
      have hz8 := K8.out.size
      have hz10 := K10.out.size
      exact ⟨⟨i + 1, by omega, by go_num, by rw [HS.out]; have h9 := o9.base (B' := w.heap.size) (fun q hq => Nat.le_trans (Nat.le_trans hz10 hz8) (o9.lt q hq).1); rw [List.length_append] at h9; exact h9, grownBy_trans Kw4.out (grownBy_trans K8.out K9)⟩, by simp [intOf]; omega⟩
    · have e : tg.take i = tg := List.take_of_length_le (by omega)
      rw [e, ← HB.out] at hO
      clear e
      obtain ⟨oa, oc, rfl⟩ := hO.shape
      have HO := Lib.hid hO
      clear hO
      go_wp2_with fail
      go_ret2
      exact ⟨_, rfl, HO.out, grownBy_trans HG4.out hg⟩
def EvsRd (w : World) (v : Value) (l : List EvR) : Prop := RdL evF 3 w v l ∧ ∀ x ∈ l, RdL tagF 2 w x.vt x.tags
theorem EvsRd.same {w w' : World} {v : Value} {l : List EvR} (h : EvsRd w v l) (hg : w.grownBy w' none) : EvsRd w' v l := ⟨h.1.same hg, fun x hx => (h.2 x hx).same hg⟩

set_option maxHeartbeats 2000000 in
set_option maxRecDepth 100000 in
theorem rbody_c (v : Value) (l : List EvR) (w : World) (h : EvsRd w v l) (hE : ∀ x ∈ l, EvOk x) (h0 : 0 < l.length) (h4 : l.length ≤ 4) : Calls Try.prog 93 #[v] w (BytesP (bodyB l) w) := by
  obtain ⟨a, c, rfl⟩ := h.1.shape
  have H := Lib.hid h
  have HE := Lib.hid hE
  have i0 : ((l.length : Int) == 0) = false := beq_eq_false_iff_ne.2 (by omega)
  have i4 : (l.length : Int) ≤ 4 := by omega
  have hwl : IntKind.u64.wrap (l.length : Int) = (l.length : Int) := IntWalk.u64_in _ (by omega)
  have hbl := Lib.hid (bodyB_len hE h4)
  have Hc := Lib.hid (rappend_c (.slice none 0 0) [] l.length w (Own.nil byF 1 5 0 w).rd (by omega) (by simp))
  have e1 := vb_ten (show l.length < 18446744073709551616 by omega)
  clear h hE
  go_enter Try.func93, Try.ntmps93
  go_upto_region 4 with (go_at_call 46; refine Hc.out.mono ?_; rintro e w2 ⟨v2, rfl, o2, g2⟩)
  rw [List.nil_append] at o2
  have HO2 := Lib.hid o2
  have HG2 := Lib.hid g2
  clear Hc o2 g2 hwl
  go_wp2_with fail
  go_loopw [23, 4] (fun s23 s4 wk => ∃ i : Nat, i ≤ l.length ∧ s23 = .int .i64 i ∧ Own byF 1 5 w.heap.size wk s4 (vb l.length ++ evsB (l.take i)) ∧ w.grownBy wk none) (fun s23 _ _ => l.length - (intOf s23).toNat)
  case atStart => exact ⟨0, Nat.zero_le _, rfl, by simpa [evsB] using HO2.out, HG2.out⟩
  case round =>
    clear HO2
    obtain ⟨i, hi, rfl, hO, hg⟩ := hrel
    by_cases hlt : i < l.length
    · have hRr := H.out.same hg
      obtain ⟨gx, ox, cx, hv, hgx, hcx⟩ := hRr.1.at_ evF_len hlt
      cases hv
      have c0 := hcx 0 _ rfl
      have c1 := hcx 1 _ rfl
      have c2 := hcx 2 _ rfl
      rw [Nat.add_zero] at c0
      have hx := hRr.2 _ (List.getElem_mem hlt)
      have hx2 := HE.out _ (List.getElem_mem hlt)
      have HS := Lib.hid (show vb l.length ++ evsB (l.take (i + 1)) = vb l.length ++ evsB (l.take i) ++ evB l[i] by rw [List.take_succ_eq_append_getElem hlt, evsB_snoc, List.append_assoc])
      have hll : (vb l.length ++ evsB (l.take i)).length ≤ 2050 := by
        have := evsB_len (l := l.take i) fun t ht => HE.out t (List.mem_of_mem_take ht)
        rw [List.length_take] at this
        rw [List.length_append]; omega
      have hel := evB_len hx2
      have Hx := Lib.hid hx
      have Hx2 := Lib.hid hx2
      obtain ⟨ta, tc, ht⟩ := hx.shape
      clear hcx hx hx2 hRr
      generalize vb l.length ++ evsB (l.take i) = L at *
      generalize l[i] = x at *
      rw [ht] at c0
      have C := Lib.hid fun w' (h : World.grownBy wr w' none) => ht ▸ revent_c x w' (Hx.out.same h) Hx2.out
      obtain ⟨oa, oc, rfl⟩ := hO.shape
      have HO := Lib.hid hO
      have hb1 : (L.length + (evB x).length) * 1 ≤ 140737488355328 := by omega
      have hb2 : L.length + (evB x).length ≤ 9223372036854775807 := by omega
      have hzw := hg.size
      clear hO ht hel
      generalize evB x = X at *
      go_wp2_with (first
        | (go_at_call 110; refine (C.out _ (by (repeat (first | exact grownBy_refl _ _ | assumption | refine grownBy_new_block ?_ _ | refine grownBy_drew ?_ | refine grownBy_drewN ?_ _ | refine grownBy_setNew ?_ (by first | (simp; done) | omega | (simp; omega)) _)))).mono ?_; rintro e w3 ⟨v3, rfl, o3, g3⟩; obtain ⟨a3, c3, rfl⟩ := o3.shape; have K3 : wr.grownBy w3 none := grownBy_trans (by (repeat (first | exact grownBy_refl _ _ | assumption | refine grownBy_new_block ?_ _ | refine grownBy_drew ?_ | refine grownBy_drewN ?_ _ | refine grownBy_setNew ?_ (by first | (simp; done) | omega | (simp; omega)) _))) g3; have O4 := HO.out.same K3; have hz3 : w.heap.size ≤ w3.heap.size := Nat.le_trans hzw K3.size; have R3 := o3.rd)
        | (at_builtin; refine app elt_by one_by O4 R3 rfl hb1 hb2 hz3 (by rfl) _ _ (by rfl) (by rfl) (by rfl) ?_; intro v8 w8 o8 g8 l8))
      have K8 := grown_own (grownBy_trans hg K3) O4 (Nat.le_refl _) g8
      exact ⟨⟨i + 1, by omega, by go_num, by rw [HS.out]; exact o8, K8⟩, by simp [intOf]; omega⟩
    · have e : l.take i = l := List.take_of_length_le (by omega)
      rw [e, show vb l.length ++ evsB l = bodyB l from rfl] at hO
      clear e
      obtain ⟨oa, oc, rfl⟩ := hO.shape
      have HO := Lib.hid hO
      have j1 : ((bodyB l).length : Int) ≤ 4096 := by have := hbl.out; omega
      clear hO
      go_wp2_with fail
      go_ret2
      exact ⟨_, rfl, HO.out, hg⟩
set_option maxHeartbeats 1000000 in
set_option maxRecDepth 100000 in
theorem rframe_c (v : Value) (l : List EvR) (w : World) (h : EvsRd w v l) (hE : ∀ x ∈ l, EvOk x) (h0 : 0 < l.length) (h4 : l.length ≤ 4) : Calls Try.prog 83 #[v] w (BytesP (frB l) w) := by
  have hbl := bodyB_len hE h4
  have Hc := Lib.hid (rbody_c v l w h hE h0 h4)
  obtain ⟨a, c, rfl⟩ := h.1.shape
  have HF := Lib.hid (show frB l = [] ++ vb (bodyB l).length ++ bodyB l from rfl)
  have e1 := vb_ten (show (bodyB l).length < 18446744073709551616 by omega)
  have hwl : IntKind.u64.wrap ((bodyB l).length : Int) = ((bodyB l).length : Int) := IntWalk.u64_in _ (by omega)
  clear h hE
  generalize bodyB l = B at *
  have Ca := Lib.hid fun w' => rappend_c (.slice none 0 0) [] B.length w' (Own.nil byF 1 5 0 w').rd (by omega) (by simp)
  have hb1 : ((([] : List UInt8) ++ vb B.length).length + B.length) * 1 ≤ 140737488355328 := by simp only [List.nil_append]; omega
  have hb2 : (([] : List UInt8) ++ vb B.length).length + B.length ≤ 9223372036854775807 := by simp only [List.nil_append]; omega
  rw [List.nil_append] at HF hb1 hb2
  go_enter Try.func83, Try.ntmps83
  go_wp2_with (first
    | (go_at_call 93; refine Hc.out.mono ?_; rintro e w2 ⟨v2, rfl, o2, g2⟩; obtain ⟨a2, c2, rfl⟩ := o2.shape)
    | (go_at_call 46; refine (Ca.out _).mono ?_; rintro e w3 ⟨v3, rfl, o3, g3⟩; rw [List.nil_append] at o3; obtain ⟨a3, c3, rfl⟩ := o3.shape; have R3 := (o2.same g3).rd; have hz3 : w.heap.size ≤ w3.heap.size := Nat.le_trans g2.size g3.size; have o4 := o3.base (B' := w.heap.size) (fun q hq => Nat.le_trans g2.size (o3.lt q hq).1))
    | (at_builtin; refine app elt_by one_by o4 R3 rfl hb1 hb2 hz3 (by rfl) _ _ (by rfl) (by rfl) (by rfl) ?_; intro v8 w8 o8 g8 l8; rw [← HF.out] at o8))
  go_ret2
  exact ⟨_, rfl, o8, grown_own (grownBy_trans g2 g3) o4 (Nat.le_refl _) g8⟩
end Go.Proofs.Ytniokdflljchgaa
