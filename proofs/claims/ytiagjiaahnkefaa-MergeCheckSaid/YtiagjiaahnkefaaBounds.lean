/- Bounds of a key in a summary. -/
import Derived.Test.YtiagjiaahnkefaaEst
import Derived.Test.YtiagjiaahnkefaaBlk
namespace Go.Proofs.Ytiagjiaahnkefaa
open Go.RowKit
attribute [local go_sem ↓] exec_load_cfg
attribute [local go_sem] run_loadCfgS

def keyEq (k : ByteArray) (e : Ent) : Bool := e.key.toList == k.toList
theorem fn1_c (e : Ent) (k : ByteArray) (b : Nat) (w : World) (hb : w.cell? ⟨b, 0, none⟩ = some (.string k)) (hlt : b < w.heap.size) : Calls Try.prog 74 #[entV e.key e.own e.slack, .pointer (some ⟨b, 0, none⟩)] w (RetBool (keyEq k e) w) := by
  go_enter Try.func74, Try.ntmps74
  go_wp2
  go_ret
  exact retBool rfl (grownBy_new_block (grownBy_refl _ _) _)

/-- i is the place of a key among entries, or -1. -/
def IdxP (es : List Ent) (k : ByteArray) (i : Int) : Prop := (i = -1 ∧ es.find? (keyEq k) = none) ∨ ∃ n : Nat, i = n ∧ ∃ h : n < es.length, es.find? (keyEq k) = some es[n]
theorem idx_none {es : List Ent} {k : ByteArray} (h : ∀ j, (hj : j < es.length) → keyEq k es[j] = false) : es.find? (keyEq k) = none := by
  rw [List.find?_eq_none]
  intro x hx
  obtain ⟨j, hj, rfl⟩ := List.mem_iff_getElem.1 hx
  simp [h j hj]
theorem idx_some {es : List Ent} {k : ByteArray} {n : Nat} (hn : n < es.length) (h : ∀ j, (hj : j < n) → keyEq k (es[j]'(by omega)) = false) (hk : keyEq k es[n] = true) : es.find? (keyEq k) = some es[n] := by
  rw [List.find?_eq_some_iff_getElem]
  exact ⟨hk, n, hn, rfl, fun j hj => by simp [h j hj]⟩
theorem RdL.ent {w : World} {v : Value} {l : List Ent} (h : RdL entF 3 w v l) {k : Nat} (hk : k < l.length) : ∃ g off cap, v = .slice (some ⟨g, off, none⟩) l.length cap ∧ g < w.heap.size ∧
    w.cell? ⟨g, off + k * 3, none⟩ = some (.string l[k].key) ∧ w.cell? ⟨g, off + k * 3 + 1, none⟩ = some (.int .u64 l[k].own) ∧ w.cell? ⟨g, off + k * 3 + 2, none⟩ = some (.int .u64 l[k].slack) := by
  obtain ⟨g, off, cap, hv, hg, hc⟩ := h.at_ entF_len hk
  exact ⟨g, off, cap, hv, hg, hc 0 _ rfl, hc 1 _ rfl, hc 2 _ rfl⟩
def IdxPost (es : List Ent) (k : ByteArray) (w : World) (e : Ending) (w' : World) : Prop := ∃ i : Int, e = .returned (.int .i64 i) ∧ IdxP es k i ∧ w.grownBy w' none
set_option maxHeartbeats 400000 in
theorem idxFn_c (a : Option Addr) (cp : Nat) (es : List Ent) (k : ByteArray) (kb : Nat) (w : World) (h : RdL entF 3 w (.slice a es.length cp) es) (hb : w.cell? ⟨kb, 0, none⟩ = some (.string k)) (hlt : kb < w.heap.size) :
    Calls Try.prog 73 #[.slice a es.length cp, .func (Fn.func 74) #[] #[.pointer (some ⟨kb, 0, none⟩)]] w (IdxPost es k w) := by
  have H := Lib.hid h
  have hm := h.2.1
  have Hb := Lib.hid hb
  clear h hb
  go_enter Try.func73, Try.ntmps73
  go_wp2_with fail
  go_loopw [8] (fun s8 wr => ∃ j : Nat, j ≤ es.length ∧ s8 = .int .i64 j ∧ (∀ i, (hi : i < es.length) → i < j → keyEq k es[i] = false) ∧ w.grownBy wr none) (fun s8 _ => es.length - (intOf s8).toNat)
  case atStart => exact ⟨0, Nat.zero_le _, rfl, by intro i _ h; omega, grownBy_refl _ _⟩
  case round =>
    obtain ⟨j, hj, rfl, hall, hg⟩ := hrel
    have Hall := Lib.hid hall
    clear hall
    by_cases hjl : j < es.length
    · obtain ⟨g, off, cap, hv, hgl, c0, c1, c2⟩ := (H.out.same hg).ent hjl
      cases hv
      have hkb : wr.cell? ⟨kb, 0, none⟩ = some (.string k) := ((grownBy_cells hg).1 kb 0 hlt (by simp)).trans Hb.out
      have hkl := Nat.lt_of_lt_of_le hlt hg.size
      cases hq : keyEq k es[j]
      · have Hq := Lib.hid hq
        have hf := fn1_c es[j] k kb wr hkb hkl
        rw [hq] at hf
        clear hq hkb
        generalize hee : es[j] = en at hf c0 c1 c2
        clear hee
        go_wp2_with (go_at_call 74; refine hf.mono ?_; rintro e w2 ⟨rfl, G2⟩)
        refine ⟨⟨j + 1, by omega, by go_num, ?_, grownBy_trans hg G2⟩, by simp [intOf]; omega⟩
        intro i hi hij
        by_cases e : i = j
        · subst e; exact Hq.out
        · exact Hall.out i hi (by omega)
      · have Hq := Lib.hid (idx_some hjl (fun i hi => Hall.out i (by omega) hi) hq)
        have hf := fn1_c es[j] k kb wr hkb hkl
        rw [hq] at hf
        clear hq hkb
        generalize hee : es[j] = en at hf c0 c1 c2
        clear hee
        go_wp2_with (go_at_call 74; refine hf.mono ?_; rintro e w2 ⟨rfl, G2⟩)
        go_ret
        exact ⟨_, rfl, .inr ⟨j, rfl, hjl, Hq.out⟩, grownBy_trans hg G2⟩
    · have Hq := Lib.hid (idx_none (k := k) fun i hi => Hall.out i hi (by omega))
      go_wp2_with fail
      go_ret
      exact ⟨_, rfl, .inl ⟨rfl, Hq.out⟩, hg⟩

def bndE (es : List Ent) (un : Int) (k : ByteArray) : Int × Int := match es.find? (keyEq k) with
  | some e => (e.own, satA e.own e.slack)
  | none => (0, un)
def bndHas (es : List Ent) (k : ByteArray) : Bool := (es.find? (keyEq k)).isSome
def boundsV (c : Cfg) (t : List Int) (s : Summ) (k : ByteArray) : Value :=
  .tuple #[bndV (min (bndE s.es s.untr k).1 (sEstF c t s k)) (min (bndE s.es s.untr k).2 (sEstF c t s k)), .bool (bndHas s.es k)]
set_option maxHeartbeats 1000000 in
set_option maxRecDepth 100000 in
theorem bounds_c (c : Cfg) (t : List Int) (s : Summ) (k : ByteArray) (w : World) (h : RCfg w c t) (hR : SumRd w s) (hW : SumW s) (ho : RowsOk s.rows) (hn : s.rows.length ≤ 1000) (hk : k.size ≤ 9223372036854775807) :
    Calls Try.prog 32 #[c.val, sumV s.total s.ve s.untr s.vr, .string k] w (RetVal (boundsV c t s k) w) := by
  have Hest := Lib.hid fun w' hg => sest_c c t s k w' (h.same hg) (hR.same hg) ho hn hk
  have hwe := w64_sEst (c := c) (t := t) hW.total ho k
  unfold boundsV
  generalize sEstF c t s k = est at *
  obtain ⟨tot, ve, un, vr, es, vs, rows⟩ := s
  obtain ⟨a1, k1, e1⟩ := hR.es.shape
  obtain ⟨a2, k2, e2⟩ := hR.vs.shape
  simp only at e1 e2 hn ho Hest ⊢
  subst e1
  subst e2
  have HE := Lib.hid hR.es
  have HW := Lib.hid hW.es
  have hwu := hW.untr
  clear hR hW ho hn h
  go_enter Try.func32, Try.ntmps32
  go_upto_region 2 with (refine box_cfg rfl _ rfl c rfl ?_; intro w1 B1 G1 z1)
  go_wp2_with fail
  refine (idxFn_c a1 k1 es k (w1.heap.size + 1) _ (HE.out.same ?_) ?_ ?_).mono ?_
  · (repeat (first | exact grownBy_refl _ _ | assumption | refine grownBy_new_block ?_ _ | refine grownBy_drew ?_ | refine grownBy_drewN ?_ _ | refine grownBy_setNew ?_ (by first | (simp; done) | omega | (simp; omega)) _))
  · exact Blk.cell (cs := #[.string k]) (by repeat (first | exact Blk.new' _ _ _ (by simp) | refine Blk.same ?_ (World.grownBy_alloc _ _ _) | refine Blk.drew ?_ _ | refine Blk.drew1 ?_ | refine Blk.set_ (by assumption) _ _ rfl | refine Blk.off ?_ (by first | omega | (simp; done) | (simp; omega)) _ _ | assumption)) 0
  · simp
  rintro e w2 ⟨i, rfl, hi, G2⟩
  have BS : Blk w2 w1.heap.size #[.int .u64 tot, .slice a1 es.length k1, .int .u64 un, .slice a2 vs.length k2] := Blk.same (by repeat (first | exact Blk.new' _ _ _ (by simp) | refine Blk.same ?_ (World.grownBy_alloc _ _ _) | refine Blk.drew ?_ _ | refine Blk.drew1 ?_ | refine Blk.set_ (by assumption) _ _ rfl | refine Blk.off ?_ (by first | omega | (simp; done) | (simp; omega)) _ _ | assumption)) G2
  have BK : Blk w2 (w1.heap.size + 1) #[.string k] := Blk.same (by repeat (first | exact Blk.new' _ _ _ (by simp) | refine Blk.same ?_ (World.grownBy_alloc _ _ _) | refine Blk.drew ?_ _ | refine Blk.drew1 ?_ | refine Blk.set_ (by assumption) _ _ rfl | refine Blk.off ?_ (by first | omega | (simp; done) | (simp; omega)) _ _ | assumption)) G2
  have BR : Blk w2 (w1.heap.size + 1 + 1) #[.int .u64 0, .int .u64 0] := Blk.same (by repeat (first | exact Blk.new' _ _ _ (by simp) | refine Blk.same ?_ (World.grownBy_alloc _ _ _) | refine Blk.drew ?_ _ | refine Blk.drew1 ?_ | refine Blk.set_ (by assumption) _ _ rfl | refine Blk.off ?_ (by first | omega | (simp; done) | (simp; omega)) _ _ | assumption)) G2
  have BB : Blk w2 (w1.heap.size + 1 + 1 + 1) #[.int .u64 0, .int .u64 un] := Blk.same (by repeat (first | exact Blk.new' _ _ _ (by simp) | refine Blk.same ?_ (World.grownBy_alloc _ _ _) | refine Blk.drew ?_ _ | refine Blk.drew1 ?_ | refine Blk.set_ (by assumption) _ _ rfl | refine Blk.off ?_ (by first | omega | (simp; done) | (simp; omega)) _ _ | assumption)) G2
  have K2 : w.grownBy w2 none := grownBy_trans (by (repeat (first | exact grownBy_refl _ _ | assumption | refine grownBy_new_block ?_ _ | refine grownBy_drew ?_ | refine grownBy_drewN ?_ _ | refine grownBy_setNew ?_ (by first | (simp; done) | omega | (simp; omega)) _))) G2
  have B2 : BoxAt w2 w.heap.size c := B1.same (grownBy_trans (by (repeat (first | exact grownBy_refl _ _ | assumption | refine grownBy_new_block ?_ _ | refine grownBy_drew ?_ | refine grownBy_drewN ?_ _ | refine grownBy_setNew ?_ (by first | (simp; done) | omega | (simp; omega)) _))) G2)
  have z2 : w1.heap.size < w2.heap.size := BS.lt
  clear G1 G2 B1
  generalize w1.heap.size = b at *
  have bs := BS.cell
  go_upto_if 18 with fail
  go_cut [8] (fun s8 wx => s8 = .pointer (some ⟨b + 1 + 1 + 1, 0, none⟩) ∧ Blk wx (b + 1 + 1 + 1) #[.int .u64 (bndE es un k).1, .int .u64 (bndE es un k).2] ∧ Blk wx b #[.int .u64 tot, .slice a1 es.length k1, .int .u64 un, .slice a2 vs.length k2] ∧ Blk wx (b + 1) #[.string k] ∧ Blk wx (b + 1 + 1) #[.int .u64 0, .int .u64 0] ∧ BoxAt wx w.heap.size c ∧ w.grownBy wx none)
  case first =>
    rcases hi with ⟨rfl, hf⟩ | ⟨n, rfl, hn, hf⟩
    · have he : bndE es un k = (0, un) := by unfold bndE; rw [hf]
      have He := Lib.hid he
      clear he
      go_wp2_with fail
      go_meet
      exact ⟨rfl, by rw [He.out]; exact BB, BS, BK, BR, B2, K2⟩
    · have he : bndE es un k = (es[n].own, satA es[n].own es[n].slack) := by unfold bndE; rw [hf]
      have He := Lib.hid he
      obtain ⟨g, off, cap, hv, hgl, c0, c1, c2⟩ := (HE.out.same K2).ent hn
      cases hv
      obtain ⟨hw1, hw2⟩ := HW.out _ (List.getElem_mem hn)
      clear he hf
      generalize es[n] = en at *
      have hn0 : (0 : Int) ≤ (n : Int) := by omega
      have hn1 : (n : Int) < (es.length : Int) := by omega
      go_wp2_with (go_at_call 75; refine (bOf_c en.key en.own en.slack _ hw1 hw2).mono ?_; rintro e w3 ⟨rfl, G3⟩; have B3 := BB.same G3; have b3 := B3.cell; have f3 := B3.free)
      go_meet
      have KS : w.grownBy ((w3.setCell ⟨b + 1 + 1 + 1, 0, none⟩ (.int .u64 en.own)).setCell ⟨b + 1 + 1 + 1, 1, none⟩ (.int .u64 (satA en.own en.slack))) none := grownBy_setNew (grownBy_setNew (grownBy_trans K2 G3) (by simp; omega) _) (by simp; omega) _
      have NS : ∀ g' cs, g' ≠ b + 1 + 1 + 1 → Blk w2 g' cs → Blk ((w3.setCell ⟨b + 1 + 1 + 1, 0, none⟩ (.int .u64 en.own)).setCell ⟨b + 1 + 1 + 1, 1, none⟩ (.int .u64 (satA en.own en.slack))) g' cs := fun g' cs hne hB => ((hB.same G3).off (by omega) _ _).off (by omega) _ _
      refine ⟨rfl, ?_, NS _ _ (by omega) BS, NS _ _ (by omega) BK, NS _ _ (by omega) BR, ?_, KS⟩
      · rw [He.out]; exact (B3.set_ 0 _ rfl).set_ 1 _ rfl
      · exact ((B2.same G3).kept (grownBy_set (grownBy_refl _ _) 0 _) (by simp; omega)).kept (grownBy_set (grownBy_refl _ _) 1 _) (by simp; omega)
  case rest =>
    obtain ⟨rfl, BB, BS, BK, BR, B2, K2⟩ := hcut
    have hx0 : W64 (bndE es un k).1 ∧ W64 (bndE es un k).2 := by
      unfold bndE
      split
      · rename_i e he
        obtain ⟨h1, h2⟩ := HW.out e (List.mem_of_find?_eq_some he)
        exact ⟨h1, satA_w h1 h2⟩
      · exact ⟨w64_0, hwu⟩
    have hdec : decide (0 ≤ i) = bndHas es k := by
      unfold bndHas
      rcases hi with ⟨rfl, hf⟩ | ⟨n, rfl, hn, hf⟩
      · rw [hf]; rfl
      · rw [hf]; simp
    have Hdec := Lib.hid hdec
    generalize bndE es un k = x at *
    generalize bndHas es k = tr at *
    obtain ⟨r1, r2, r3⟩ := B2.re
    have q1 := BB.re
    have q2 := BS.re
    have q3 := BK.re
    have r4 := call_re (w := wc) fun w' hg => Hest.out w' (grownBy_trans K2 hg)
    have r5 := call_re (w := wc) fun w' hg => bCap_c x.1 x.2 est w'
    clear hi bs hdec
    go_upto_region 5 with fail
    refine wp_region_any (by kernel_rfl) ?_
    (refine Tail.take_put 6 31 (.int .i64 i) rfl rfl (by kernel_rfl) (by kernel_rfl) (by kernel_rfl) (fun _ _ _ h => h) (Or.inl ⟨by rfl, fun w => ?_⟩) ?_; · go_simp); simp only [List.setIfInBounds_toArray, List.set_cons_zero, List.set_cons_succ]
    (refine Tail.take_put 7 32 (.bool (decide (0 ≤ i))) rfl rfl (by kernel_rfl) (by kernel_rfl) (by kernel_rfl) (fun _ _ _ h => h) (Or.inl ⟨by rfl, fun w => ?_⟩) ?_; · go_simp); simp only [List.setIfInBounds_toArray, List.set_cons_zero, List.set_cons_succ]
    (refine Tail.wpAny_tail_grown 8 [true, true, true, true, true, true, false, false] (by kernel_rfl) ?_; simp only [Tail.pickL, List.take, List.drop]; (repeat (go_big_quiet_step (first | (with_reducible exact r4 _ _) | (with_reducible exact r5 _ _)))); refine wpQuiet_nil ?_; rintro _ ⟨⟨d5, os5⟩, rfl⟩)
    have BR5 := BR.same (grown_re wc d5 os5)
    have K5 := grownBy_trans K2 (grown_re wc d5 os5)
    have br := BR5.cell
    have fr := BR5.free
    clear r1 r2 r3 r4 r5 q1 q2 q3
    generalize Go.Sort.grow (redrawn wc d5) os5 = w5 at *
    go_wp2_with fail
    have BZ := (BR5.set_ 0 (.int .u64 (min x.1 est)) rfl).set_ 1 (.int .u64 (min x.2 est)) rfl
    have bz := BZ.cell
    refine bodyPost_ret (v := .tuple #[bndV (min x.1 est) (min x.2 est), .bool (decide (0 ≤ i))]) (by simp [results, Try.results32, go_sem, bz]) rfl ?_
    refine ⟨by rw [Hdec.out], ?_⟩
    exact grownBy_setNew (grownBy_setNew K5 (by simp; omega) _) (by simp; omega) _

theorem bnd_hit {es : List Ent} {k : ByteArray} {e : Ent} (un : Int) (h : es.find? (keyEq k) = some e) : bndE es un k = (e.own, satA e.own e.slack) ∧ bndHas es k = true := by
  unfold bndE bndHas; rw [h]; exact ⟨rfl, rfl⟩
theorem bnd_miss {es : List Ent} {k : ByteArray} (un : Int) (h : es.find? (keyEq k) = none) : bndE es un k = (0, un) ∧ bndHas es k = false := by
  unfold bndE bndHas; rw [h]; exact ⟨rfl, rfl⟩
set_option maxHeartbeats 1000000 in
set_option maxRecDepth 100000 in
theorem rbounds_c (c : Cfg) (t : List Int) (s : Summ) (k : ByteArray) (w : World) (h : RCfg w c t) (hR : SumRd w s) (hW : SumW s) (ho : RowsOk s.rows) (hn : s.rows.length ≤ 1000) (hk : k.size ≤ 9223372036854775807) :
    Calls Try.prog 89 #[c.val, sumV s.total s.ve s.untr s.vr, .string k] w (RetVal (boundsV c t s k) w) := by
  have Hest := Lib.hid fun w' hg => rsest_c c t s k w' (h.same hg) (hR.same hg) ho hn hk
  have hwe := w64_sEst (c := c) (t := t) hW.total ho k
  unfold boundsV
  generalize sEstF c t s k = est at *
  obtain ⟨tot, ve, un, vr, es, vs, rows⟩ := s
  obtain ⟨a1, k1, e1⟩ := hR.es.shape
  obtain ⟨a2, k2, e2⟩ := hR.vs.shape
  simp only at e1 e2 hn ho Hest ⊢
  subst e1
  subst e2
  have HE := Lib.hid hR.es
  have HW := Lib.hid hW.es
  have hwu := hW.untr
  have hm := hR.es.2.1
  clear hR hW ho hn h
  go_enter Try.func89, Try.ntmps89
  go_upto_region 2 with (refine box_cfg rfl _ rfl c rfl ?_; intro w1 B1 G1 z1)
  have BS : Blk (((w1.alloc (.cells #[.int .u64 tot, .slice a1 es.length k1, .int .u64 un, .slice a2 vs.length k2] 68)).alloc (.cells #[.int .u64 0, .int .u64 0] 62))) w1.heap.size #[.int .u64 tot, .slice a1 es.length k1, .int .u64 un, .slice a2 vs.length k2] := (by repeat (first | exact Blk.new' _ _ _ (by simp) | refine Blk.same ?_ (World.grownBy_alloc _ _ _) | refine Blk.drew ?_ _ | refine Blk.drew1 ?_ | refine Blk.set_ (by assumption) _ _ rfl | refine Blk.off ?_ (by first | omega | (simp; done) | (simp; omega)) _ _ | assumption))
  have BR : Blk (((w1.alloc (.cells #[.int .u64 tot, .slice a1 es.length k1, .int .u64 un, .slice a2 vs.length k2] 68)).alloc (.cells #[.int .u64 0, .int .u64 0] 62))) (w1.heap.size + 1) #[.int .u64 0, .int .u64 0] := (by repeat (first | exact Blk.new' _ _ _ (by simp) | refine Blk.same ?_ (World.grownBy_alloc _ _ _) | refine Blk.drew ?_ _ | refine Blk.drew1 ?_ | refine Blk.set_ (by assumption) _ _ rfl | refine Blk.off ?_ (by first | omega | (simp; done) | (simp; omega)) _ _ | assumption))
  have K2 : w.grownBy (((w1.alloc (.cells #[.int .u64 tot, .slice a1 es.length k1, .int .u64 un, .slice a2 vs.length k2] 68)).alloc (.cells #[.int .u64 0, .int .u64 0] 62))) none := (by (repeat (first | exact grownBy_refl _ _ | assumption | refine grownBy_new_block ?_ _ | refine grownBy_drew ?_ | refine grownBy_drewN ?_ _ | refine grownBy_setNew ?_ (by first | (simp; done) | omega | (simp; omega)) _)))
  have B2 : BoxAt (((w1.alloc (.cells #[.int .u64 tot, .slice a1 es.length k1, .int .u64 un, .slice a2 vs.length k2] 68)).alloc (.cells #[.int .u64 0, .int .u64 0] 62))) w.heap.size c := (B1.same (World.grownBy_alloc _ _ _)).same (World.grownBy_alloc _ _ _)
  clear B1 G1
  generalize (w1.alloc (.cells #[.int .u64 tot, .slice a1 es.length k1, .int .u64 un, .slice a2 vs.length k2] 68)).alloc (.cells #[.int .u64 0, .int .u64 0] 62) = w2 at *
  generalize w1.heap.size = b at *
  go_loopw [13] (fun s13 wr => ∃ j : Nat, j ≤ es.length ∧ s13 = .int .i64 j ∧ (∀ i, (hi : i < es.length) → i < j → keyEq k es[i] = false) ∧ Blk wr b #[.int .u64 tot, .slice a1 es.length k1, .int .u64 un, .slice a2 vs.length k2] ∧ Blk wr (b + 1) #[.int .u64 0, .int .u64 0] ∧ BoxAt wr w.heap.size c ∧ w.grownBy wr none) (fun s13 _ => es.length - (intOf s13).toNat)
  case atStart => exact ⟨0, Nat.zero_le _, rfl, by intro i _ h; omega, BS, BR, B2, K2⟩
  case round =>
    clear BS BR B2 K2
    obtain ⟨j, hj, rfl, hall, BS, BR, B2, K2⟩ := hrel
    have Hall := Lib.hid hall
    clear hall
    by_cases hjl : j < es.length
    · obtain ⟨g, off, cap, hv, hgl, c0, c1, c2⟩ := (HE.out.same K2).ent hjl
      cases hv
      obtain ⟨hw1, hw2⟩ := HW.out _ (List.getElem_mem hjl)
      cases hq : keyEq k es[j]
      · have Hq := Lib.hid hq
        have hq2 : (es[j].key.toList == k.toList) = false := hq
        clear hq
        generalize hee : es[j] = en at hq2 c0 c1 c2
        clear hee
        go_wp2_with fail
        refine ⟨⟨j + 1, by omega, by go_num, ?_, BS.same (World.grownBy_alloc _ _ _), BR.same (World.grownBy_alloc _ _ _), B2.same (World.grownBy_alloc _ _ _), grownBy_new_block K2 _⟩, by simp [intOf]; omega⟩
        intro i hi hij
        by_cases e : i = j
        · subst e; exact Hq.out
        · exact Hall.out i hi (by omega)
      · have Hq := Lib.hid (bnd_hit un (idx_some hjl (fun i hi => Hall.out i (by omega) hi) hq))
        have hq2 : (es[j].key.toList == k.toList) = true := hq
        clear hq
        generalize hee : es[j] = en at *
        clear hee
        go_upto_region 5 with fail
        have BE : Blk (wr.alloc (.cells #[.string en.key, .int .u64 en.own, .int .u64 en.slack] 77)) wr.heap.size #[.string en.key, .int .u64 en.own, .int .u64 en.slack] := (by repeat (first | exact Blk.new' _ _ _ (by simp) | refine Blk.same ?_ (World.grownBy_alloc _ _ _) | refine Blk.drew ?_ _ | refine Blk.drew1 ?_ | refine Blk.set_ (by assumption) _ _ rfl | refine Blk.off ?_ (by first | omega | (simp; done) | (simp; omega)) _ _ | assumption))
        replace BS := BS.same (World.grownBy_alloc wr (.cells #[.string en.key, .int .u64 en.own, .int .u64 en.slack] 77) none)
        replace BR := BR.same (World.grownBy_alloc wr (.cells #[.string en.key, .int .u64 en.own, .int .u64 en.slack] 77) none)
        replace B2 := B2.same (World.grownBy_alloc wr (.cells #[.string en.key, .int .u64 en.own, .int .u64 en.slack] 77) none)
        replace K2 := grownBy_new_block K2 (.cells #[.string en.key, .int .u64 en.own, .int .u64 en.slack] 77)
        clear c0 c1 c2 hgl
        generalize wr.alloc (.cells #[.string en.key, .int .u64 en.own, .int .u64 en.slack] 77) = wc at *
        generalize wr.heap.size = be at *
        obtain ⟨r1, r2, r3⟩ := B2.re
        have q1 := BE.re
        have q2 := BS.re
        have r4 := call_re (w := wc) fun w' hg => Hest.out w' (grownBy_trans K2 hg)
        have r5 := call_re (w := wc) fun w' hg => rCap_c en.own (satA en.own en.slack) est w'
        have r6 := call_re (w := wc) fun w' hg => rOf_c en.key en.own en.slack w' hw1 hw2
        (refine Tail.wp_region_tail_grown 7 (by kernel_rfl) (by kernel_rfl) ?_; simp only [List.take, List.drop]; (repeat (go_big_quiet_step (first | (with_reducible exact r4 _ _) | (with_reducible exact r5 _ _) | (with_reducible exact r6 _ _)))); refine wpQuiet_nil ?_; rintro _ ⟨⟨d5, os5⟩, rfl⟩)
        have BR5 := BR.same (grown_re wc d5 os5)
        have K5 := grownBy_trans K2 (grown_re wc d5 os5)
        have br := BR5.cell
        have fr := BR5.free
        clear r1 r2 r3 r4 r5 r6 q1 q2
        generalize Go.Sort.grow (redrawn wc d5) os5 = w5 at *
        go_wp2_with fail
        have BZ := (BR5.set_ 0 (.int .u64 (min en.own est)) rfl).set_ 1 (.int .u64 (min (satA en.own en.slack) est)) rfl
        have bz := BZ.cell
        refine bodyPost_ret (v := .tuple #[bndV (min en.own est) (min (satA en.own en.slack) est), .bool true]) (by simp [results, Try.results89, go_sem, bz]) rfl ?_
        refine ⟨by rw [Hq.out.1, Hq.out.2], ?_⟩
        exact grownBy_setNew (grownBy_setNew K5 (by simp; omega) _) (by simp; omega) _
    · have Hq := Lib.hid (bnd_miss un (idx_none (k := k) fun i hi => Hall.out i hi (by omega)))
      go_upto_region 7 with fail
      obtain ⟨r1, r2, r3⟩ := B2.re
      have q2 := BS.re
      have r4 := call_re (w := wr) fun w' hg => Hest.out w' (grownBy_trans K2 hg)
      have r5 := call_re (w := wr) fun w' hg => rCap_c 0 un est w'
      (refine Tail.wp_region_tail_grown 8 (by kernel_rfl) (by kernel_rfl) ?_; simp only [List.take, List.drop]; (repeat (go_big_quiet_step (first | (with_reducible exact r4 _ _) | (with_reducible exact r5 _ _)))); refine wpQuiet_nil ?_; rintro _ ⟨⟨d5, os5⟩, rfl⟩)
      have BR5 := BR.same (grown_re wr d5 os5)
      have K5 := grownBy_trans K2 (grown_re wr d5 os5)
      have br := BR5.cell
      have fr := BR5.free
      clear r1 r2 r3 r4 r5 q2
      generalize Go.Sort.grow (redrawn wr d5) os5 = w5 at *
      go_wp2_with fail
      have BZ := (BR5.set_ 0 (.int .u64 (min 0 est)) rfl).set_ 1 (.int .u64 (min un est)) rfl
      have bz := BZ.cell
      refine bodyPost_ret (v := .tuple #[bndV (min 0 est) (min un est), .bool false]) (by simp [results, Try.results89, go_sem, bz]) rfl ?_
      refine ⟨by rw [Hq.out.1, Hq.out.2], ?_⟩
      exact grownBy_setNew (grownBy_setNew K5 (by simp; omega) _) (by simp; omega) _
end Go.Proofs.Ytiagjiaahnkefaa
