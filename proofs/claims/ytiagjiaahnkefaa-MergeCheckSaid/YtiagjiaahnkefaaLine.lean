/- Lines: the walks of merge.Line, its closure, the reference's Line. -/
import Derived.Test.YtiagjiaahnkefaaLineP
import Derived.Test.YtiagjiaahnkefaaSame
namespace Go.Proofs.Ytiagjiaahnkefaa
open Go.RowKit
attribute [local go_sem ↓] exec_load_cfg
attribute [local go_sem] run_loadCfgS

theorem RdL.contains {w : World} {a : Option Addr} {n c : Nat} {l : List Int} (h : RdL intF 1 w (.slice a n c) l) (h0 : 0 < l.length) (x : Int) : Calls Try.prog 79 #[.slice a n c, .int .i64 x] w fun e w' => e = .returned (.bool (l.contains x)) ∧ w = w' := by
  obtain ⟨g, off, cap, hv, hg, hc⟩ := h.at_ intF_len h0
  cases hv
  have hb := h.2.1
  refine (Try.slices_Contains_int g off l.length c l x w (Nat.le_refl _) hb ?_).mono ?_
  · intro j hj
    obtain ⟨g', off', cap', hv', _, h1⟩ := h.one int_one hj
    cases hv'
    rw [h1]; simp [List.getD_eq_getElem?_getD, List.getElem?_eq_getElem hj]
  · rintro e w' ⟨rfl, rfl⟩
    exact ⟨by rw [List.take_length], rfl⟩

/-- What the closure of Line sees. -/
structure LineEnv (w : World) (bl bs bc bk : Nat) (c : Cfg) (t : List Int) (lv sv : Value) (l : List Summ) (k : ByteArray) : Prop where
  cfg : RCfg w c t
  sums : SumsRd w lv l
  set : RdL intF 1 w sv (setF c t k)
  kl : Blk w bl #[lv]
  ks : Blk w bs #[sv]
  kc : BoxAt w bc c
  kk : Blk w bk #[.string k]
theorem LineEnv.same {w w' : World} {bl bs bc bk : Nat} {c : Cfg} {t : List Int} {lv sv : Value} {l : List Summ} {k : ByteArray} (h : LineEnv w bl bs bc bk c t lv sv l k) (hg : w.grownBy w' none) : LineEnv w' bl bs bc bk c t lv sv l k :=
  ⟨h.cfg.same hg, h.sums.same hg, h.set.same hg, h.kl.same hg, h.ks.same hg, h.kc.same hg, h.kk.same hg⟩

set_option maxHeartbeats 1000000 in
set_option maxRecDepth 100000 in
theorem lineFn_no (bl bs bc bk : Nat) (c : Cfg) (t : List Int) (lv sv : Value) (l : List Summ) (k : ByteArray) (w : World) (h : LineEnv w bl bs bc bk c t lv sv l k) (lo hi x : Int) (hx : (decide (x < (l.length : Int)) && (setF c t k).contains x) = false) (_ : 0 ≤ x) (_ : x ≤ 8) :
    Calls Try.prog 78 #[bndV lo hi, .int .i64 x, .pointer (some ⟨bl, 0, none⟩), .pointer (some ⟨bs, 0, none⟩), .pointer (some ⟨bc, 0, none⟩), .pointer (some ⟨bk, 0, none⟩)] w (RetVal (bndV lo hi) w) := by
  obtain ⟨la, lc, rfl⟩ := h.sums.rd.shape
  obtain ⟨sa, sc, rfl⟩ := h.set.shape
  have hl : 0 < (setF c t k).length := by rw [setF, setN_len]; have := h.cfg.spread; omega
  have H := Lib.hid h
  have b1 := fun o1 o2 => ((h.kl.same (World.grownBy_alloc w o1 none)).same (World.grownBy_alloc _ o2 none)).cell
  have b2 := fun o1 o2 => ((h.ks.same (World.grownBy_alloc w o1 none)).same (World.grownBy_alloc _ o2 none)).cell
  have hlm := h.sums.rd.2.1
  by_cases hlt : x < (l.length : Int)
  · have hd : decide ((l.length : Int) ≤ x) = false := decide_eq_false (by omega)
    have hc : (setF c t k).contains x = false := by rw [decide_eq_true hlt] at hx; simpa using hx
    have Hc := Lib.hid hc
    have hset := h.set
    generalize setF c t k = st at *
    clear hx hc h
    go_enter Try.func78, Try.ntmps78
    go_wp2_with (go_at_call 79; refine ((hset.same (by (repeat (first | exact grownBy_refl _ _ | assumption | refine grownBy_new_block ?_ _ | refine grownBy_drew ?_ | refine grownBy_drewN ?_ _ | refine grownBy_setNew ?_ (by first | (simp; done) | omega | (simp; omega)) _)))).contains hl x).mono ?_; rw [Hc.out]; rintro e w' ⟨rfl, rfl⟩)
    refine bodyPost_ret (v := bndV lo hi) (by simp [results, Try.results78, go_sem]) rfl ?_
    exact retVal rfl (by (repeat (first | exact grownBy_refl _ _ | assumption | refine grownBy_new_block ?_ _ | refine grownBy_drew ?_ | refine grownBy_drewN ?_ _ | refine grownBy_setNew ?_ (by first | (simp; done) | omega | (simp; omega)) _)))
  · have hd : decide ((l.length : Int) ≤ x) = true := decide_eq_true (by omega)
    clear hx h
    go_enter Try.func78, Try.ntmps78
    go_wp2_with fail
    refine bodyPost_ret (v := bndV lo hi) (by simp [results, Try.results78, go_sem]) rfl ?_
    exact retVal rfl (by (repeat (first | exact grownBy_refl _ _ | assumption | refine grownBy_new_block ?_ _ | refine grownBy_drew ?_ | refine grownBy_drewN ?_ _ | refine grownBy_setNew ?_ (by first | (simp; done) | omega | (simp; omega)) _)))

theorem keepLine {w0 w2 : World} {bl bk bc g o : Nat} {c : Cfg} {lv ve vr : Value} {k : ByteArray} {tot un : Int} (hlt : bl < w0.heap.size ∧ bk < w0.heap.size ∧ bc < w0.heap.size ∧ g < w0.heap.size) (hB : BoxAt w0 bc c)
    (h : w0.cell? ⟨bl, 0, none⟩ = some lv ∧ w0.cell? ⟨bk, 0, none⟩ = some (.string k) ∧ w0.cell? ⟨g, o, none⟩ = some (.int .u64 tot) ∧ w0.cell? ⟨g, o + 1, none⟩ = some ve ∧ w0.cell? ⟨g, o + 2, none⟩ = some (.int .u64 un) ∧ w0.cell? ⟨g, o + 3, none⟩ = some vr) (h0 : w0.grownBy w2 none) :
    w0.grownBy w2 none ∧ isCfg w2 bc = true ∧ readCfg w2 bc = c.val ∧ w2.cell? ⟨bl, 0, none⟩ = some lv ∧ w2.cell? ⟨bk, 0, none⟩ = some (.string k) ∧ w2.cell? ⟨g, o, none⟩ = some (.int .u64 tot) ∧ w2.cell? ⟨g, o + 1, none⟩ = some ve ∧ w2.cell? ⟨g, o + 2, none⟩ = some (.int .u64 un) ∧ w2.cell? ⟨g, o + 3, none⟩ = some vr := by
  obtain ⟨h1, h2, h3, h4, h5, h6⟩ := h
  obtain ⟨l1, l2, l3, l4⟩ := hlt
  have hB2 := hB.same h0
  have hc := (grownBy_cells h0).1
  exact ⟨h0, hB2.is, hB2.reads, (hc bl 0 l1 (by simp)).trans h1, (hc bk 0 l2 (by simp)).trans h2, (hc g _ l4 (by simp)).trans h3, (hc g _ l4 (by simp)).trans h4, (hc g _ l4 (by simp)).trans h5, (hc g _ l4 (by simp)).trans h6⟩

set_option maxHeartbeats 1000000 in
set_option maxRecDepth 100000 in
theorem lineFn_yes (bl bs bc bk : Nat) (c : Cfg) (t : List Int) (lv sv : Value) (l : List Summ) (k : ByteArray) (w : World) (h : LineEnv w bl bs bc bk c t lv sv l k) (ho : SumsOk l) (hk : k.size ≤ 9223372036854775807) (lo hi x : Int) (hlo : W64 lo) (hhi : W64 hi)
    (hx : (decide (x < (l.length : Int)) && (setF c t k).contains x) = true) (hx0 : 0 ≤ x) (hx1 : x ≤ 8) :
    Calls Try.prog 78 #[bndV lo hi, .int .i64 x, .pointer (some ⟨bl, 0, none⟩), .pointer (some ⟨bs, 0, none⟩), .pointer (some ⟨bc, 0, none⟩), .pointer (some ⟨bk, 0, none⟩)] w (RetVal (bndV (satA lo (bP c t l k x).1) (satA hi (bP c t l k x).2)) w) := by
  obtain ⟨la, lc, rfl⟩ := h.sums.rd.shape
  obtain ⟨sa, sc, rfl⟩ := h.set.shape
  have hl : 0 < (setF c t k).length := by rw [setF, setN_len]; have := h.cfg.spread; omega
  rw [Bool.and_eq_true, decide_eq_true_eq] at hx
  obtain ⟨hlt, hc⟩ := hx
  obtain ⟨n, rfl⟩ := Int.eq_ofNat_of_zero_le hx0
  have hn : n < l.length := by omega
  obtain ⟨hb1, hb2⟩ := bP_w (c := c) (t := t) ho k (n : Int)
  have hbP : bP c t l k (n : Int) = (min (bndE l[n].es l[n].untr k).1 (sEstF c t l[n] k), min (bndE l[n].es l[n].untr k).2 (sEstF c t l[n] k)) := by
    unfold bP; rw [Int.toNat_natCast, List.getElem?_eq_getElem hn]
  have hm := List.getElem_mem hn
  have hcon := Lib.hid fun w' hg => bounds_c c t l[n] k w' (h.cfg.same hg) ((h.sums.all _ hm).same hg) (h.sums.wf _ hm) (ho.rows _ hm) (ho.len _ hm) hk
  have HV := Lib.hid (p := boundsV c t l[n] k = .tuple #[bndV (bP c t l k (n : Int)).1 (bP c t l k (n : Int)).2, .bool (bndHas l[n].es k)]) (by rw [hbP]; rfl)
  have H := Lib.hid h
  have Hc := Lib.hid hc
  have hset := h.set
  have hlm := h.sums.rd.2.1
  have hd : decide ((l.length : Int) ≤ (n : Int)) = false := decide_eq_false (by omega)
  have b1 := fun o1 o2 => ((h.kl.same (World.grownBy_alloc w o1 none)).same (World.grownBy_alloc _ o2 none)).cell
  have b2 := fun o1 o2 => ((h.ks.same (World.grownBy_alloc w o1 none)).same (World.grownBy_alloc _ o2 none)).cell
  generalize setF c t k = st at *
  generalize bP c t l k (n : Int) = bx at *
  clear hbP hc h
  go_enter Try.func78, Try.ntmps78
  go_upto_region 3 with (go_at_call 79; refine ((hset.same (by (repeat (first | exact grownBy_refl _ _ | assumption | refine grownBy_new_block ?_ _ | refine grownBy_drew ?_ | refine grownBy_drewN ?_ _ | refine grownBy_setNew ?_ (by first | (simp; done) | omega | (simp; omega)) _)))).contains hl n).mono ?_; rw [Hc.out]; rintro e w' ⟨rfl, rfl⟩)
  have BI : Blk ((w.alloc (.cells #[.int .u64 lo, .int .u64 hi] 62)).alloc (.cells #[.int .u64 0, .int .u64 0] 62)) w.heap.size #[.int .u64 lo, .int .u64 hi] := (by repeat (first | exact Blk.new' _ _ _ (by simp) | refine Blk.same ?_ (World.grownBy_alloc _ _ _) | refine Blk.drew ?_ _ | refine Blk.drew1 ?_ | refine Blk.set_ (by assumption) _ _ rfl | refine Blk.off ?_ (by first | omega | (simp; done) | (simp; omega)) _ _ | assumption))
  have BR : Blk ((w.alloc (.cells #[.int .u64 lo, .int .u64 hi] 62)).alloc (.cells #[.int .u64 0, .int .u64 0] 62)) (w.heap.size + 1) #[.int .u64 0, .int .u64 0] := (by repeat (first | exact Blk.new' _ _ _ (by simp) | refine Blk.same ?_ (World.grownBy_alloc _ _ _) | refine Blk.drew ?_ _ | refine Blk.drew1 ?_ | refine Blk.set_ (by assumption) _ _ rfl | refine Blk.off ?_ (by first | omega | (simp; done) | (simp; omega)) _ _ | assumption))
  have K2 : w.grownBy ((w.alloc (.cells #[.int .u64 lo, .int .u64 hi] 62)).alloc (.cells #[.int .u64 0, .int .u64 0] 62)) none := (by (repeat (first | exact grownBy_refl _ _ | assumption | refine grownBy_new_block ?_ _ | refine grownBy_drew ?_ | refine grownBy_drewN ?_ _ | refine grownBy_setNew ?_ (by first | (simp; done) | omega | (simp; omega)) _)))
  have E2 := H.out.same K2
  generalize (w.alloc (.cells #[.int .u64 lo, .int .u64 hi] 62)).alloc (.cells #[.int .u64 0, .int .u64 0] 62) = w2 at *
  clear b1 b2 hset
  obtain ⟨g, off, cap, hv, hgl, c0, c1, c2, c3, _, _⟩ := E2.sums.at_ hn
  cases hv
  have hn0 : (0 : Int) ≤ (n : Int) := by omega
  have hn1 : (n : Int) < (l.length : Int) := by omega
  have hz2 := K2.size
  have hz3 := BR.lt
  have HL := Lib.hid (p := bl < w2.heap.size ∧ bk < w2.heap.size ∧ bc < w2.heap.size ∧ g < w2.heap.size) ⟨E2.kl.lt, E2.kk.lt, E2.kc.lt, hgl⟩
  have HS2 := Lib.hid fun wx => keepLine (w2 := wx) (lv := .slice (some ⟨g, off, none⟩) l.length lc) HL.out E2.kc ⟨E2.kl.cell 0, E2.kk.cell 0, c0, c1, c2, c3⟩
  have hKC := E2.kc
  have HE2 := Lib.hid E2
  clear c0 c1 c2 c3 E2 H
  go_cut [9, 10] (fun s9 s10 wx => ∃ g9, s9 = .pointer (some ⟨g9, 0, none⟩) ∧ Blk wx g9 #[.int .u64 bx.1, .int .u64 bx.2] ∧ Blk wx w.heap.size #[.int .u64 lo, .int .u64 hi] ∧ Blk wx (w.heap.size + 1) #[.int .u64 0, .int .u64 0] ∧ w2.grownBy wx none)
  case first =>
    go_region_held3 (fun w' => w2.grownBy w' none ∧ isCfg w' bc = true ∧ readCfg w' bc = c.val ∧ w'.cell? ⟨bl, 0, none⟩ = some (.slice (some ⟨g, off, none⟩) l.length lc) ∧ w'.cell? ⟨bk, 0, none⟩ = some (.string k) ∧ w'.cell? ⟨g, off + n * 4, none⟩ = some (.int .u64 l[n].total) ∧ w'.cell? ⟨g, off + n * 4 + 1, none⟩ = some l[n].ve ∧ w'.cell? ⟨g, off + n * 4 + 2, none⟩ = some (.int .u64 l[n].untr) ∧ w'.cell? ⟨g, off + n * 4 + 3, none⟩ = some l[n].vr)
      (first | exact HS2.out _ (by (repeat (first | exact grownBy_refl _ _ | assumption | refine grownBy_new_block ?_ _ | refine grownBy_drew ?_ | refine grownBy_drewN ?_ _ | refine grownBy_setNew ?_ (by first | (simp; done) | omega | (simp; omega)) _))))
      (first | (go_at_call 32; refine (hcon.out _ (grownBy_trans K2 (by (repeat (first | exact grownBy_refl _ _ | assumption | refine grownBy_new_block ?_ _ | refine grownBy_drew ?_ | refine grownBy_drewN ?_ _ | refine grownBy_setNew ?_ (by first | (simp; done) | omega | (simp; omega)) _))))).mono ?_; rw [HV.out]; rintro e w3 ⟨rfl, G3⟩; (try (have hz : Blk w3 w2.heap.size #[.int .u64 0, .int .u64 0] := Blk.same (Blk.drew1 (Blk.new w2 _ _)) G3; have hzc := hz.cell; have hzf := hz.free)); replace G3 : w2.grownBy w3 none := grownBy_trans (by (repeat (first | exact grownBy_refl _ _ | assumption | refine grownBy_new_block ?_ _ | refine grownBy_drew ?_ | refine grownBy_drewN ?_ _ | refine grownBy_setNew ?_ (by first | (simp; done) | omega | (simp; omega)) _))) G3; have BI3 := BI.same G3; have BR3 := BR.same G3; have z3 := G3.size))
    · go_wp2_with fail
      go_meet
      exact ⟨_, rfl, Blk.new _ _ _, BI3.same (World.grownBy_alloc _ _ _), BR3.same (World.grownBy_alloc _ _ _), grownBy_new_block G3 _⟩
    · go_wp2_with fail
      go_meet
      exact ⟨_, rfl, (hz.set_ 0 _ rfl).set_ 1 _ rfl, (BI3.off (by omega) _ _).off (by omega) _ _, (BR3.off (by omega) _ _).off (by omega) _ _, grownBy_setNew (grownBy_setNew G3 (Nat.le_refl _) _) (Nat.le_refl _) _⟩
  case rest =>
    obtain ⟨g9, rfl, BB, BI4, BR4, G4⟩ := hcut
    have K4 := grownBy_trans K2 G4
    have bb := BB.cell
    have bi := BI4.cell
    clear HS2 HE2 hKC HL BB BI4 BI BR
    go_wp2_with (go_at_call 80; refine (bAdd_c lo hi bx.1 bx.2 _ hlo hhi hb1 hb2).mono ?_; rintro e w5 ⟨rfl, G5⟩; have BR5 := BR4.same G5; have br := BR5.cell; have fr := BR5.free)
    have BZ := (BR5.set_ 0 (.int .u64 (satA lo bx.1)) rfl).set_ 1 (.int .u64 (satA hi bx.2)) rfl
    have bz := BZ.cell
    refine bodyPost_ret (v := bndV (satA lo bx.1) (satA hi bx.2)) (by simp [results, Try.results78, go_sem, bz]) rfl ?_
    exact retVal rfl (grownBy_setNew (grownBy_setNew (grownBy_trans K4 G5) (by simp) _) (by simp) _)
end Go.Proofs.Ytiagjiaahnkefaa
