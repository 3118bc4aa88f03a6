/- Several texts in one file; each begins with a comment that says what is proved in it. -/
import Derived.Test.YtiagjiaahnkefaaBunAG
import Derived.Test.YtiagjiaahnkefaaBunAE
import Derived.Test.YtiagjiaahnkefaaBunAB
import Derived.Test.YtiagjiaahnkefaaShelf
import Derived.Sort.Walk0
import Derived.Lib.SlicesCompact
import Derived.Test.YtiagjiaahnkefaaBunAD
import Derived.Sort.OwnSorted
import Derived.Test.YtiagjiaahnkefaaBunAA
import Derived.BigQuiet

/- Lines: the walks of merge.Line, its closure, the reference's Line. -/
namespace Go.Proofs.Ytiagjiaahnkefaa
open Go.RowKit
attribute [local go_sem ↓] exec_load_cfg
attribute [local go_sem] run_loadCfgS

theorem RdL.contains {w : World} {a : Option Addr} {n c : Nat} {l : List Int} (h : RdL intF 1 w (.slice a n c) l) (h0 : 0 < l.length) (x : Int) : Calls Try.prog 79 #[.slice a n c, .int .i64 x] w fun e w' => e = .returned (.bool (l.contains x)) ∧ w = w' := by
  obtain ⟨g, off, cap, hv, hg, hc⟩ := h.at_ intF_len h0
  cases hv
  have hb := h.2.1
  refine (Try.slices_Contains_int g off l.length c l x w (Nat.le_refl _) hb ?_).mono ?_
  · intro j hj
    obtain ⟨g', off', cap', hv', _, h1⟩ := h.one int_one hj
    cases hv'
    rw [h1]; simp [List.getD_eq_getElem?_getD, List.getElem?_eq_getElem hj]
  · rintro e w' ⟨rfl, rfl⟩
    exact ⟨by rw [List.take_length], rfl⟩

/-- What the closure of Line sees. -/
structure LineEnv (w : World) (bl bs bc bk : Nat) (c : Cfg) (t : List Int) (lv sv : Value) (l : List Summ) (k : ByteArray) : Prop where
  cfg : RCfg w c t
  sums : SumsRd w lv l
  set : RdL intF 1 w sv (setF c t k)
  kl : Blk w bl #[lv]
  ks : Blk w bs #[sv]
  kc : BoxAt w bc c
  kk : Blk w bk #[.string k]
theorem LineEnv.same {w w' : World} {bl bs bc bk : Nat} {c : Cfg} {t : List Int} {lv sv : Value} {l : List Summ} {k : ByteArray} (h : LineEnv w bl bs bc bk c t lv sv l k) (hg : w.grownBy w' none) : LineEnv w' bl bs bc bk c t lv sv l k :=
  ⟨h.cfg.same hg, h.sums.same hg, h.set.same hg, h.kl.same hg, h.ks.same hg, h.kc.same hg, h.kk.same hg⟩

set_option maxHeartbeats 1000000 in
set_option maxRecDepth 100000 in
theorem lineFn_no (bl bs bc bk : Nat) (c : Cfg) (t : List Int) (lv sv : Value) (l : List Summ) (k : ByteArray) (w : World) (h : LineEnv w bl bs bc bk c t lv sv l k) (lo hi x : Int) (hx : (decide (x < (l.length : Int)) && (setF c t k).contains x) = false) (_ : 0 ≤ x) (_ : x ≤ 8) :
    Calls Try.prog 78 #[bndV lo hi, .int .i64 x, .pointer (some ⟨bl, 0, none⟩), .pointer (some ⟨bs, 0, none⟩), .pointer (some ⟨bc, 0, none⟩), .pointer (some ⟨bk, 0, none⟩)] w (RetVal (bndV lo hi) w) := by
  obtain ⟨la, lc, rfl⟩ := h.sums.rd.shape
  obtain ⟨sa, sc, rfl⟩ := h.set.shape
  have hl : 0 < (setF c t k).length := by rw [setF, setN_len]; have := h.cfg.spread; omega
  have H := Lib.hid h
  have b1 := fun o1 o2 => ((h.kl.same (World.grownBy_alloc w o1 none)).same (World.grownBy_alloc _ o2 none)).cell
  have b2 := fun o1 o2 => ((h.ks.same (World.grownBy_alloc w o1 none)).same (World.grownBy_alloc _ o2 none)).cell
  have hlm := h.sums.rd.2.1
  by_cases hlt : x < (l.length : Int)
  · have hd : decide ((l.length : Int) ≤ x) = false := decide_eq_false (by omega)
    have hc : (setF c t k).contains x = false := by rw [decide_eq_true hlt] at hx; simpa using hx
    have Hc := Lib.hid hc
    have hset := h.set
    generalize setF c t k = st at *
    clear hx hc h
    go_enter Try.func78, Try.ntmps78
    go_wp2_with (go_at_call 79; refine ((hset.same (by (repeat (first | exact grownBy_refl _ _ | assumption | refine grownBy_new_block ?_ _ | refine grownBy_drew ?_ | refine grownBy_drewN ?_ _ | refine grownBy_setNew ?_ (by first | (simp; done) | omega | (simp; omega)) _)))).contains hl x).mono ?_; rw [Hc.out]; rintro e w' ⟨rfl, rfl⟩)
    refine bodyPost_ret (v := bndV lo hi) (by simp [results, Try.results78, go_sem]) rfl ?_
    exact retVal rfl (by (repeat (first | exact grownBy_refl _ _ | assumption | refine grownBy_new_block ?_ _ | refine grownBy_drew ?_ | refine grownBy_drewN ?_ _ | refine grownBy_setNew ?_ (by first | (simp; done) | omega | (simp; omega)) _)))
  · have hd : decide ((l.length : Int) ≤ x) = true := decide_eq_true (by omega)
    clear hx h
    go_enter Try.func78, Try.ntmps78
    go_wp2_with fail
    refine bodyPost_ret (v := bndV lo hi) (by simp [results, Try.results78, go_sem]) rfl ?_
    exact retVal rfl (by (repeat (first | exact grownBy_refl _ _ | assumption | refine grownBy_new_block ?_ _ | refine grownBy_drew ?_ | refine grownBy_drewN ?_ _ | refine grownBy_setNew ?_ (by first | (simp; done) | omega | (simp; omega)) _)))

theorem keepLine {w0 w2 : World} {bl bk bc g o : Nat} {c : Cfg} {lv ve vr : Value} {k : ByteArray} {tot un : Int} (hlt : bl < w0.heap.size ∧ bk < w0.heap.size ∧ bc < w0.heap.size ∧ g < w0.heap.size) (hB : BoxAt w0 bc c)
    (h : w0.cell? ⟨bl, 0, none⟩ = some lv ∧ w0.cell? ⟨bk, 0, none⟩ = some (.string k) ∧ w0.cell? ⟨g, o, none⟩ = some (.int .u64 tot) ∧ w0.cell? ⟨g, o + 1, none⟩ = some ve ∧ w0.cell? ⟨g, o + 2, none⟩ = some (.int .u64 un) ∧ w0.cell? ⟨g, o + 3, none⟩ = some vr) (h0 : w0.grownBy w2 none) :
    w0.grownBy w2 none ∧ isCfg w2 bc = true ∧ readCfg w2 bc = c.val ∧ w2.cell? ⟨bl, 0, none⟩ = some lv ∧ w2.cell? ⟨bk, 0, none⟩ = some (.string k) ∧ w2.cell? ⟨g, o, none⟩ = some (.int .u64 tot) ∧ w2.cell? ⟨g, o + 1, none⟩ = some ve ∧ w2.cell? ⟨g, o + 2, none⟩ = some (.int .u64 un) ∧ w2.cell? ⟨g, o + 3, none⟩ = some vr := by
  obtain ⟨h1, h2, h3, h4, h5, h6⟩ := h
  obtain ⟨l1, l2, l3, l4⟩ := hlt
  have hB2 := hB.same h0
  have hc := (grownBy_cells h0).1
  exact ⟨h0, hB2.is, hB2.reads, (hc bl 0 l1 (by simp)).trans h1, (hc bk 0 l2 (by simp)).trans h2, (hc g _ l4 (by simp)).trans h3, (hc g _ l4 (by simp)).trans h4, (hc g _ l4 (by simp)).trans h5, (hc g _ l4 (by simp)).trans h6⟩

set_option maxHeartbeats 1000000 in
set_option maxRecDepth 100000 in
theorem lineFn_yes (bl bs bc bk : Nat) (c : Cfg) (t : List Int) (lv sv : Value) (l : List Summ) (k : ByteArray) (w : World) (h : LineEnv w bl bs bc bk c t lv sv l k) (ho : SumsOk l) (hk : k.size ≤ 9223372036854775807) (lo hi x : Int) (hlo : W64 lo) (hhi : W64 hi)
    (hx : (decide (x < (l.length : Int)) && (setF c t k).contains x) = true) (hx0 : 0 ≤ x) (hx1 : x ≤ 8) :
    Calls Try.prog 78 #[bndV lo hi, .int .i64 x, .pointer (some ⟨bl, 0, none⟩), .pointer (some ⟨bs, 0, none⟩), .pointer (some ⟨bc, 0, none⟩), .pointer (some ⟨bk, 0, none⟩)] w (RetVal (bndV (satA lo (bP c t l k x).1) (satA hi (bP c t l k x).2)) w) := by
  obtain ⟨la, lc, rfl⟩ := h.sums.rd.shape
  obtain ⟨sa, sc, rfl⟩ := h.set.shape
  have hl : 0 < (setF c t k).length := by rw [setF, setN_len]; have := h.cfg.spread; omega
  rw [Bool.and_eq_true, decide_eq_true_eq] at hx
  obtain ⟨hlt, hc⟩ := hx
  obtain ⟨n, rfl⟩ := Int.eq_ofNat_of_zero_le hx0
  have hn : n < l.length := by omega
  obtain ⟨hb1, hb2⟩ := bP_w (c := c) (t := t) ho k (n : Int)
  have hbP : bP c t l k (n : Int) = (min (bndE l[n].es l[n].untr k).1 (sEstF c t l[n] k), min (bndE l[n].es l[n].untr k).2 (sEstF c t l[n] k)) := by
    unfold bP; rw [Int.toNat_natCast, List.getElem?_eq_getElem hn]
  have hm := List.getElem_mem hn
  have hcon := Lib.hid fun w' hg => bounds_c c t l[n] k w' (h.cfg.same hg) ((h.sums.all _ hm).same hg) (h.sums.wf _ hm) (ho.rows _ hm) (ho.len _ hm) hk
  have HV := Lib.hid (p := boundsV c t l[n] k = .tuple #[bndV (bP c t l k (n : Int)).1 (bP c t l k (n : Int)).2, .bool (bndHas l[n].es k)]) (by rw [hbP]; rfl)
  have H := Lib.hid h
  have Hc := Lib.hid hc
  have hset := h.set
  have hlm := h.sums.rd.2.1
  have hd : decide ((l.length : Int) ≤ (n : Int)) = false := decide_eq_false (by omega)
  have b1 := fun o1 o2 => ((h.kl.same (World.grownBy_alloc w o1 none)).same (World.grownBy_alloc _ o2 none)).cell
  have b2 := fun o1 o2 => ((h.ks.same (World.grownBy_alloc w o1 none)).same (World.grownBy_alloc _ o2 none)).cell
  generalize setF c t k = st at *
  generalize bP c t l k (n : Int) = bx at *
  clear hbP hc h
  go_enter Try.func78, Try.ntmps78
  go_upto_region 3 with (go_at_call 79; refine ((hset.same (by (repeat (first | exact grownBy_refl _ _ | assumption | refine grownBy_new_block ?_ _ | refine grownBy_drew ?_ | refine grownBy_drewN ?_ _ | refine grownBy_setNew ?_ (by first | (simp; done) | omega | (simp; omega)) _)))).contains hl n).mono ?_; rw [Hc.out]; rintro e w' ⟨rfl, rfl⟩)
  have BI : Blk ((w.alloc (.cells #[.int .u64 lo, .int .u64 hi] 62)).alloc (.cells #[.int .u64 0, .int .u64 0] 62)) w.heap.size #[.int .u64 lo, .int .u64 hi] := (by repeat (first | exact Blk.new' _ _ _ (by simp) | refine Blk.same ?_ (World.grownBy_alloc _ _ _) | refine Blk.drew ?_ _ | refine Blk.drew1 ?_ | refine Blk.set_ (by assumption) _ _ rfl | refine Blk.off ?_ (by first | omega | (simp; done) | (simp; omega)) _ _ | assumption))
  have BR : Blk ((w.alloc (.cells #[.int .u64 lo, .int .u64 hi] 62)).alloc (.cells #[.int .u64 0, .int .u64 0] 62)) (w.heap.size + 1) #[.int .u64 0, .int .u64 0] := (by repeat (first | exact Blk.new' _ _ _ (by simp) | refine Blk.same ?_ (World.grownBy_alloc _ _ _) | refine Blk.drew ?_ _ | refine Blk.drew1 ?_ | refine Blk.set_ (by assumption) _ _ rfl | refine Blk.off ?_ (by first | omega | (simp; done) | (simp; omega)) _ _ | assumption))
  have K2 : w.grownBy ((w.alloc (.cells #[.int .u64 lo, .int .u64 hi] 62)).alloc (.cells #[.int .u64 0, .int .u64 0] 62)) none := (by (repeat (first | exact grownBy_refl _ _ | assumption | refine grownBy_new_block ?_ _ | refine grownBy_drew ?_ | refine grownBy_drewN ?_ _ | refine grownBy_setNew ?_ (by first | (simp; done) | omega | (simp; omega)) _)))
  have E2 := H.out.same K2
  generalize (w.alloc (.cells #[.int .u64 lo, .int .u64 hi] 62)).alloc (.cells #[.int .u64 0, .int .u64 0] 62) = w2 at *
  clear b1 b2 hset
  obtain ⟨g, off, cap, hv, hgl, c0, c1, c2, c3, _, _⟩ := E2.sums.at_ hn
  cases hv
  have hn0 : (0 : Int) ≤ (n : Int) := by omega
  have hn1 : (n : Int) < (l.length : Int) := by omega
  have hz2 := K2.size
  have hz3 := BR.lt
  have HL := Lib.hid (p := bl < w2.heap.size ∧ bk < w2.heap.size ∧ bc < w2.heap.size ∧ g < w2.heap.size) ⟨E2.kl.lt, E2.kk.lt, E2.kc.lt, hgl⟩
  have HS2 := Lib.hid fun wx => keepLine (w2 := wx) (lv := .slice (some ⟨g, off, none⟩) l.length lc) HL.out E2.kc ⟨E2.kl.cell 0, E2.kk.cell 0, c0, c1, c2, c3⟩
  have hKC := E2.kc
  have HE2 := Lib.hid E2
  clear c0 c1 c2 c3 E2 H
  go_cut [9, 10] (fun s9 s10 wx => ∃ g9, s9 = .pointer (some ⟨g9, 0, none⟩) ∧ Blk wx g9 #[.int .u64 bx.1, .int .u64 bx.2] ∧ Blk wx w.heap.size #[.int .u64 lo, .int .u64 hi] ∧ Blk wx (w.heap.size + 1) #[.int .u64 0, .int .u64 0] ∧ w2.grownBy wx none)
  case first =>
    go_region_held3 (fun w' => w2.grownBy w' none ∧ isCfg w' bc = true ∧ readCfg w' bc = c.val ∧ w'.cell? ⟨bl, 0, none⟩ = some (.slice (some ⟨g, off, none⟩) l.length lc) ∧ w'.cell? ⟨bk, 0, none⟩ = some (.string k) ∧ w'.cell? ⟨g, off + n * 4, none⟩ = some (.int .u64 l[n].total) ∧ w'.cell? ⟨g, off + n * 4 + 1, none⟩ = some l[n].ve ∧ w'.cell? ⟨g, off + n * 4 + 2, none⟩ = some (.int .u64 l[n].untr) ∧ w'.cell? ⟨g, off + n * 4 + 3, none⟩ = some l[n].vr)
      (first | exact HS2.out _ (by (repeat (first | exact grownBy_refl _ _ | assumption | refine grownBy_new_block ?_ _ | refine grownBy_drew ?_ | refine grownBy_drewN ?_ _ | refine grownBy_setNew ?_ (by first | (simp; done) | omega | (simp; omega)) _))))
      (first | (go_at_call 32; refine (hcon.out _ (grownBy_trans K2 (by (repeat (first | exact grownBy_refl _ _ | assumption | refine grownBy_new_block ?_ _ | refine grownBy_drew ?_ | refine grownBy_drewN ?_ _ | refine grownBy_setNew ?_ (by first | (simp; done) | omega | (simp; omega)) _))))).mono ?_; rw [HV.out]; rintro e w3 ⟨rfl, G3⟩; (try (have hz : Blk w3 w2.heap.size #[.int .u64 0, .int .u64 0] := Blk.same (Blk.drew1 (Blk.new w2 _ _)) G3; have hzc := hz.cell; have hzf := hz.free)); replace G3 : w2.grownBy w3 none := grownBy_trans (by (repeat (first | exact grownBy_refl _ _ | assumption | refine grownBy_new_block ?_ _ | refine grownBy_drew ?_ | refine grownBy_drewN ?_ _ | refine grownBy_setNew ?_ (by first | (simp; done) | omega | (simp; omega)) _))) G3; have BI3 := BI.same G3; have BR3 := BR.same G3; have z3 := G3.size))
    · go_wp2_with fail
      go_meet
      exact ⟨_, rfl, Blk.new _ _ _, BI3.same (World.grownBy_alloc _ _ _), BR3.same (World.grownBy_alloc _ _ _), grownBy_new_block G3 _⟩
    · go_wp2_with fail
      go_meet
      exact ⟨_, rfl, (hz.set_ 0 _ rfl).set_ 1 _ rfl, (BI3.off (by omega) _ _).off (by omega) _ _, (BR3.off (by omega) _ _).off (by omega) _ _, grownBy_setNew (grownBy_setNew G3 (Nat.le_refl _) _) (Nat.le_refl _) _⟩
  case rest =>
    obtain ⟨g9, rfl, BB, BI4, BR4, G4⟩ := hcut
    have K4 := grownBy_trans K2 G4
    have bb := BB.cell
    have bi := BI4.cell
    clear HS2 HE2 hKC HL BB BI4 BI BR
    go_wp2_with (go_at_call 80; refine (bAdd_c lo hi bx.1 bx.2 _ hlo hhi hb1 hb2).mono ?_; rintro e w5 ⟨rfl, G5⟩; have BR5 := BR4.same G5; have br := BR5.cell; have fr := BR5.free)
    have BZ := (BR5.set_ 0 (.int .u64 (satA lo bx.1)) rfl).set_ 1 (.int .u64 (satA hi bx.2)) rfl
    have bz := BZ.cell
    refine bodyPost_ret (v := bndV (satA lo bx.1) (satA hi bx.2)) (by simp [results, Try.results78, go_sem, bz]) rfl ?_
    exact retVal rfl (grownBy_setNew (grownBy_setNew (grownBy_trans K4 G5) (by simp) _) (by simp) _)
end Go.Proofs.Ytiagjiaahnkefaa

/- Which lists of summaries are valid; the rest: the program. -/
namespace Go.Proofs.Ytiagjiaahnkefaa
open Go.RowKit
attribute [local go_sem ↓] exec_load_cfg
attribute [local go_sem] run_loadCfgS

def sumsErr (c : Cfg) (l : List Summ) : Int := fstN (l.map (sumErr c.Depth c.Width))
def mergeErr (c : Cfg) (l : List Summ) : Int := if (l.length : Int) ≠ c.Shards then 11 else if sumsErr c l ≠ 0 then sumsErr c l else if 9223372036854775808 < totalF l then 12 else 0
theorem sums_at {c : Cfg} {l : List Summ} {j : Nat} (hj : j < l.length) (h : ∀ i, (hi : i < l.length) → i < j → sumErr c.Depth c.Width l[i] = 0) (h2 : sumErr c.Depth c.Width l[j] ≠ 0) : sumsErr c l = sumErr c.Depth c.Width l[j] := by
  unfold sumsErr
  rw [fstN_at (j := j) (by simpa using hj) (fun i hi hij => by simpa using h i (by simpa using hi) hij) (by simpa using h2)]
  simp
theorem sums_no {c : Cfg} {l : List Summ} (h : ∀ i, (hi : i < l.length) → sumErr c.Depth c.Width l[i] = 0) : sumsErr c l = 0 := fstN_no fun i hi => by simpa using h i (by simpa using hi)
/-- A slice of summaries with what the model has of sizes. -/
def SumsSmall (l : List Summ) : Prop := ∀ s ∈ l, SumSmall s

set_option maxHeartbeats 1000000 in
set_option maxRecDepth 100000 in
theorem mcheck_c (c : Cfg) (t : List Int) (lv : Value) (l : List Summ) (w : World) (h : RCfg w c t) (hl : SumsRd w lv l) (hs : SumsSmall l) :
    Calls Try.prog 34 #[c.val, lv] w (RetInt (mergeErr c l) w) := by
  obtain ⟨la, lc, rfl⟩ := hl.rd.shape
  have H := Lib.hid h
  have HL := Lib.hid hl
  have Hs := Lib.hid hs
  have hlm := hl.rd.2.1
  have h11 : (l.length : Int) ≠ c.Shards → mergeErr c l = 11 := fun h => by unfold mergeErr; rw [if_pos h]
  have hme : (l.length : Int) = c.Shards → mergeErr c l = if sumsErr c l ≠ 0 then sumsErr c l else if 9223372036854775808 < totalF l then 12 else 0 := fun h => by unfold mergeErr; rw [if_neg (fun e => e h)]
  have H11 := Lib.hid h11
  have Hme := Lib.hid hme
  have Ht := Lib.hid fun w' (hg : w.grownBy w' none) => mtotal_c _ l w' (hl.same hg)
  clear h hl hs h11 hme
  generalize mergeErr c l = ME at *
  go_enter Try.func34, Try.ntmps34
  go_upto_region 1 with (refine box_cfg rfl _ rfl c rfl ?_; intro w1 B1 G1 z1)
  go_wp2_with (first | (refine load_cfg rfl _ rfl _ rfl c (by assumption) ?_) | (go_at_call 71; refine (rcheck_c c t _ (H.out.same G1)).mono ?_; rintro e w2 ⟨rfl, G2⟩; have BC := B1.same G2; have bc := BC.cell))
  · go_ret
    exact retInt (H11.out (bne_iff_ne.1 (by assumption))) (grownBy_trans G1 G2)
  have h18 : ((l.length : Int) != c.Shards) = false := by assumption
  have HM := Lib.hid (Hme.out (bne_eq_false_iff_eq.1 h18))
  rw [h18]
  rename_i h19 _ _
  clear h18 h19
  have hg := grownBy_trans G1 G2
  clear H11 Hme G1 B1 G2 bc
  go_loopw [21] (fun s21 wr => ∃ (j : Nat), j ≤ l.length ∧ s21 = .int .i64 j ∧ (∀ i, (hi : i < l.length) → i < j → sumErr c.Depth c.Width l[i] = 0) ∧ w2.grownBy wr none) (fun s21 _ => l.length - (intOf s21).toNat)
  case atStart => exact ⟨0, Nat.zero_le _, rfl, by intro i _ h; omega, grownBy_refl _ _⟩
  case round =>
    obtain ⟨j, hj, rfl, hall, hgr⟩ := hrel
    have Hall := Lib.hid hall
    clear hall
    have hgg := grownBy_trans hg hgr
    have BCr := BC.same hgr
    by_cases hlt : j < l.length
    · obtain ⟨g, off, cap, hv, hgl, c0, c1, c2, c3, hR, hW⟩ := (HL.out.same hgg).at_ hlt
      cases hv
      have hsm := Hs.out _ (List.getElem_mem hlt)
      have hcall := fun w' (h' : wr.grownBy w' none) => scheck_c c l[j] w' (hR.same h') hW hsm
      obtain ⟨a1, k1, e1⟩ := hR.es.shape
      obtain ⟨a2, k2, e2⟩ := hR.vs.shape
      rw [e1] at c1 hcall
      rw [e2] at c3 hcall
      have hat := fun h => sums_at (c := c) hlt Hall.out h
      have hno := fun (h : sumErr c.Depth c.Width l[j] = 0) => (fun i hi (hij : i < j + 1) => by
        by_cases e : i = j
        · subst e; exact h
        · exact Hall.out i hi (by omega) : ∀ i, (hi : i < l.length) → i < j + 1 → sumErr c.Depth c.Width l[i] = 0)
      clear hR hW hsm e1 e2
      by_cases hz : sumErr c.Depth c.Width l[j] = 0
      · have Hno := Lib.hid (hno hz)
        rw [hz] at hcall
        have Hc := Lib.hid hcall
        clear hz hno hat hcall
        generalize l[j].total = x0 at *
        generalize l[j].untr = x2 at *
        go_wp2_with (first | (refine load_cfg rfl _ rfl _ rfl c (BCr.same (World.grownBy_alloc _ _ _)) ?_) | (go_at_call 81; refine (Hc.out _ (by (repeat (first | exact grownBy_refl _ _ | assumption | refine grownBy_new_block ?_ _ | refine grownBy_drew ?_ | refine grownBy_drewN ?_ _ | refine grownBy_setNew ?_ (by first | (simp; done) | omega | (simp; omega)) _)))).mono ?_; rintro e w5 ⟨rfl, G5⟩))
        exact ⟨⟨j + 1, by omega, by go_num, Hno.out, grownBy_trans hgr (grownBy_trans (World.grownBy_alloc _ _ _) G5)⟩, by simp [intOf]; omega⟩
      · have Hq := Lib.hid (p := ME = sumErr c.Depth c.Width l[j]) (by rw [HM.out, hat hz, if_pos hz])
        have Hc := Lib.hid hcall
        clear hno hat hcall HM
        generalize sumErr c.Depth c.Width l[j] = ee at *
        have hz2 : (ee != 0) = true := bne_iff_ne.2 hz
        generalize l[j].total = x0 at *
        generalize l[j].untr = x2 at *
        go_wp2_with (first | (refine load_cfg rfl _ rfl _ rfl c (BCr.same (World.grownBy_alloc _ _ _)) ?_) | (go_at_call 81; refine (Hc.out _ (by (repeat (first | exact grownBy_refl _ _ | assumption | refine grownBy_new_block ?_ _ | refine grownBy_drew ?_ | refine grownBy_drewN ?_ _ | refine grownBy_setNew ?_ (by first | (simp; done) | omega | (simp; omega)) _)))).mono ?_; rintro e w5 ⟨rfl, G5⟩))
        go_ret
        exact retInt Hq.out (grownBy_trans hgg (grownBy_trans (World.grownBy_alloc _ _ _) G5))
    · have hsz : sumsErr c l = 0 := sums_no fun i hi => Hall.out i hi (by omega)
      have hME : ME = if 9223372036854775808 < totalF l then 12 else 0 := by rw [HM.out, hsz, if_neg (by decide)]
      have HME := Lib.hid hME
      clear hsz hME HM Hall
      generalize totalF l = T at *
      go_wp2_with (first | (refine load_cfg rfl _ rfl _ rfl c (by assumption) ?_) | (go_at_call 36; refine (Ht.out _ hgg).mono ?_; rintro e w5 ⟨rfl, G5⟩))
      · go_ret
        exact retInt (HME.out.trans (if_pos (by assumption))) (grownBy_trans hgg G5)
      · go_ret
        exact retInt (HME.out.trans (if_neg (by omega))) (grownBy_trans hgg G5)
end Go.Proofs.Ytiagjiaahnkefaa

/- What the laws of chapter 22 begin with: a configuration and a list of summaries of the deck's. Plain laws on their lines. -/
namespace Go.Proofs.Ytiagjiaahnkefaa
open Go.RowKit

theorem CfgNums.rcfg {c : Cfg} {l : List (Int × Int)} {t : List Int} {w : World} (h : CfgNums c) (m : CfgMem c l t w) : RCfg w c t :=
  ⟨⟨h.shards.1, by have := h.shards.2; omega⟩, h.spread, m.table, m.tlen, ⟨h.seed.1, by have := h.seed.2; omega⟩⟩
theorem CfgMem.off {c : Cfg} {l : List (Int × Int)} {t : List Int} {w w' : World} {r : Option Nat} {n : Nat} (h : CfgMem c l t w) (hg : w.grownBy w' r) (hr : ∀ k, r = some k → k < n)
    (h1 : ∀ a i m, c.Table = .slice (some a) i m → n ≤ a.block) (h2 : ∀ a i m, c.Classes = .slice (some a) i m → n ≤ a.block) : CfgMem c l t w' :=
  ⟨Rd.kept h.classes hg fun k e a i m hv => by have := hr k e; have := h2 a i m hv; omega, Rd.kept h.table hg fun k e a i m hv => by have := hr k e; have := h1 a i m hv; omega, h.tlen, h.twords⟩
theorem CfgMem.one1 {c : Cfg} {l : List (Int × Int)} {t : List Int} {w : World} (h : CfgMem c l t w) : c.Classes.oneCell' = true := by obtain ⟨a, cap, hv⟩ := h.classes.shape; rw [hv]; rfl
theorem CfgMem.one2 {c : Cfg} {l : List (Int × Int)} {t : List Int} {w : World} (h : CfgMem c l t w) : c.Table.oneCell' = true := by obtain ⟨a, cap, hv⟩ := h.table.shape; rw [hv]; rfl
theorem rowsOk_g {c : Cfg} {s : Summ} (h : SummG c s) (hw : 1 ≤ c.Width) : RowsOk s.rows := fun r hr => ⟨by have := h.wid r hr; have := h.row r hr; omega, h.num.rows r hr⟩
theorem sumsOk_g {lo : Nat} {c : Cfg} {w : World} {v : Value} {l : List Summ} (h : SumsG lo c w v l) (hw : 1 ≤ c.Width) : SumsOk l :=
  ⟨fun s hs => (h.all s hs).2.2.1.num, fun s hs => rowsOk_g (h.all s hs).2.2.1 hw, fun s hs => by have := (h.all s hs).2.2.1.len; omega⟩
theorem sumsSmall_g {lo : Nat} {c : Cfg} {w : World} {v : Value} {l : List Summ} (h : SumsG lo c w v l) : SumsSmall l := fun s hs => (h.all s hs).2.2.1.small

/-- The deck's configuration and summaries. -/
structure Few (c : Cfg) (lc : List (Int × Int)) (t : List Int) (lv : Value) (l : List Summ) (w : World) : Prop where
  nums : CfgNums c
  mem : CfgMem c lc t w
  sums : SumsRd w lv l
  good : ∀ s ∈ l, SummG c s
  len : (l.length : Int) = c.Shards
theorem Few.same {c : Cfg} {lc : List (Int × Int)} {t : List Int} {lv : Value} {l : List Summ} {w w' : World} (h : Few c lc t lv l w) (hg : w.grownBy w' none) : Few c lc t lv l w' := ⟨h.nums, h.mem.same hg, h.sums.same hg, h.good, h.len⟩
theorem Few.rcfg {c : Cfg} {lc : List (Int × Int)} {t : List Int} {lv : Value} {l : List Summ} {w : World} (h : Few c lc t lv l w) : RCfg w c t := h.nums.rcfg h.mem
theorem Few.ok {c : Cfg} {lc : List (Int × Int)} {t : List Int} {lv : Value} {l : List Summ} {w : World} (h : Few c lc t lv l w) : SumsOk l :=
  ⟨fun s hs => (h.good s hs).num, fun s hs => rowsOk_g (h.good s hs) h.nums.width.1, fun s hs => by have := (h.good s hs).len; omega⟩
theorem Few.small {c : Cfg} {lc : List (Int × Int)} {t : List Int} {lv : Value} {l : List Summ} {w : World} (h : Few c lc t lv l w) : SumsSmall l := fun s hs => (h.good s hs).small

/-! ### The bounds -/
theorem bP_get {c : Cfg} {t : List Int} {l : List Summ} {k : ByteArray} {i : Nat} (h : i < l.length) : bP c t l k (i : Int) = (min (bndE l[i].es l[i].untr k).1 (sEstF c t l[i] k), min (bndE l[i].es l[i].untr k).2 (sEstF c t l[i] k)) := by
  unfold bP
  rw [Int.toNat_natCast, List.getElem?_eq_getElem h]
/-- Half of the weights that a summary of the deck's may bear. -/
def capF (c : Cfg) : Int := 9223372036854775808 / (2 * c.Shards)
theorem bP_cap {c : Cfg} {t : List Int} {l : List Summ} {k : ByteArray} {i : Nat} (h : i < l.length) (hg : SummG c l[i]) (hs : 1 ≤ c.Shards) : (bP c t l k (i : Int)).1 ≤ (bP c t l k (i : Int)).2 ∧ (bP c t l k (i : Int)).2 ≤ capF c := by
  rw [bP_get h]
  generalize l[i] = s at hg
  have h1 : s.total ≤ capF c := by
    unfold capF
    exact (Int.le_ediv_iff_mul_le (by omega)).2 hg.total
  have h2 : (bndE s.es s.untr k).1 ≤ (bndE s.es s.untr k).2 ∧ (bndE s.es s.untr k).2 ≤ s.total := by
    unfold bndE
    split
    · rename_i e he
      have hm := List.mem_of_find?_eq_some he
      have h3 := hg.sum e hm
      obtain ⟨h4, h5⟩ := hg.num.es e hm
      unfold W64 at h4 h5
      have h6 := hg.num.total
      unfold W64 at h6
      unfold satA
      simp only
      rw [if_pos (by omega)]
      omega
    · have := hg.num.untr
      unfold W64 at this
      exact ⟨this.1, hg.un⟩
  simp only
  omega
theorem capF_le {c : Cfg} (hs : 1 ≤ c.Shards) : 0 ≤ capF c ∧ capF c * c.Shards ≤ 4611686018427387904 := by
  unfold capF
  refine ⟨Int.ediv_nonneg (by omega) (by omega), ?_⟩
  have h := Int.ediv_mul_le 9223372036854775808 (show 2 * c.Shards ≠ 0 by omega)
  have e : 9223372036854775808 / (2 * c.Shards) * (2 * c.Shards) = 2 * (9223372036854775808 / (2 * c.Shards) * c.Shards) := by
    rw [Int.mul_comm 2 c.Shards, ← Int.mul_assoc, Int.mul_comm _ 2]
  omega
theorem lineF_all {c : Cfg} {t : List Int} {l : List Summ} {k : ByteArray} (hs : 1 ≤ c.Shards) (hl : (l.length : Int) = c.Shards) : lineF c t l k = foldB c t l k (setF c t k) := by
  unfold lineF
  rw [List.filter_eq_self.2 fun x hx => ?_]
  have := setN_in hs x hx
  simp; omega
/-- What holds of the sum of chosen weights. -/
structure Mid (c : Cfg) (t : List Int) (l : List Summ) (k : ByteArray) (is : List Int) (f : Int) : Prop where
  lo : (foldB c t l k is).1 ≤ f
  hi : f ≤ (foldB c t l k is).2
  cap : f ≤ is.length * capF c
  pos : 0 ≤ f
theorem Mid.nil (c : Cfg) (t : List Int) (l : List Summ) (k : ByteArray) : Mid c t l k [] 0 := ⟨by simp [foldB], by simp [foldB], by simp, by omega⟩
theorem Mid.snoc {c : Cfg} {t : List Int} {l : List Summ} {k : ByteArray} {is : List Int} {f x : Int} {i : Nat} (h : Mid c t l k is f) (hi : i < l.length) (hg : SummG c l[i]) (hs : 1 ≤ c.Shards) (h8 : is.length + 1 ≤ c.Shards)
    (h1 : (bP c t l k (i : Int)).1 ≤ x) (h2 : x ≤ (bP c t l k (i : Int)).2) (h0 : 0 ≤ x) : Mid c t l k (is ++ [(i : Int)]) (f + x) ∧ f + x ≤ 4611686018427387904 := by
  obtain ⟨_, h3⟩ := bP_cap (t := t) (k := k) hi hg hs
  obtain ⟨h4, h5⟩ := capF_le hs
  obtain ⟨a, b, d, e⟩ := h
  have h6 : f + x ≤ (is.length + 1 : Int) * capF c := by rw [Int.add_mul, Int.one_mul]; omega
  have h7 : (is.length + 1 : Int) * capF c ≤ capF c * c.Shards := by rw [Int.mul_comm]; exact Int.mul_le_mul_of_nonneg_left h8 h4
  refine ⟨⟨?_, ?_, by simpa using h6, by omega⟩, by omega⟩
  · rw [foldB_snoc]; unfold addP satA; simp only; split <;> omega
  · rw [foldB_snoc]; unfold addP satA; simp only; split <;> omega
end Go.Proofs.Ytiagjiaahnkefaa

/- The rest: the program. -/
namespace Go.Proofs.Ytiagjiaahnkefaa
open Go.RowKit
attribute [local go_sem ↓] exec_load_cfg
attribute [local go_sem] run_loadCfgS

def uAt (l : List Summ) (i : Int) : Int := ((l[i.toNat]?).map (·.untr)).getD 0
def uF (l : List Summ) (is : List Int) : Int := is.foldl (fun a i => satA a (uAt l i)) 0
theorem uF_snoc (l : List Summ) (is : List Int) (i : Int) : uF l (is ++ [i]) = satA (uF l is) (uAt l i) := by simp [uF]
theorem uAt_eq {l : List Summ} {n : Nat} (h : n < l.length) : uAt l n = l[n].untr := by simp [uAt, List.getElem?_eq_getElem h]
def restI (m : Int) (n : Nat) (l : List Summ) (k : Nat) : Int := (rangeI k).foldl (fun x h => max x (uF l (setN h m n))) 0
theorem restI_succ (m : Int) (n : Nat) (l : List Summ) (k : Nat) : restI m n l (k + 1) = max (restI m n l k) (uF l (setN k m n)) := by simp [restI, rangeI_succ]
def restF (c : Cfg) (l : List Summ) : Int := if mergeErr c l ≠ 0 then 0 else restI c.Shards c.Spread.toNat l c.Shards.toNat
theorem merge_len {c : Cfg} {l : List Summ} (h : mergeErr c l = 0) : (l.length : Int) = c.Shards := by
  unfold mergeErr at h
  by_cases e : (l.length : Int) ≠ c.Shards
  · rw [if_pos e] at h; cases h
  · omega

set_option maxHeartbeats 1000000 in
set_option maxRecDepth 100000 in
theorem rest_c (c : Cfg) (t : List Int) (lv : Value) (l : List Summ) (w : World) (h : RCfg w c t) (hl : SumsRd w lv l) (hs : SumsSmall l) :
    Calls Try.prog 41 #[c.val, lv] w (RetWord (restF c l) w) := by
  obtain ⟨la, lc, rfl⟩ := hl.rd.shape
  have HL := Lib.hid hl
  have hlm := hl.rd.2.1
  obtain ⟨s1, s2⟩ := h.shards
  obtain ⟨s3, s4⟩ := h.spread
  have Hc := Lib.hid fun w' (hg : w.grownBy w' none) => mcheck_c c t _ l w' (h.same hg) (hl.same hg) hs
  clear h hl hs
  by_cases hz : mergeErr c l = 0
  · have hlen := merge_len hz
    obtain ⟨N, hN⟩ : ∃ N, c.Spread.toNat = N := ⟨_, rfl⟩
    have HR := Lib.hid (p := restF c l = restI c.Shards N l l.length) (by unfold restF; rw [if_neg (by omega), hN, ← hlen]; rfl)
    have hN1 : c.Spread = (N : Int) := by omega
    have hN2 : N ≤ 8 := by omega
    have hl8 : l.length ≤ 8 := by omega
    have hl1 : 1 ≤ l.length := by omega
    have Hlen := Lib.hid hlen
    have HN1 := Lib.hid hN1
    have hmod : ∀ (h : Nat) (i : Nat), 0 ≤ ((h : Int) + i) % c.Shards ∧ ((h : Int) + i) % c.Shards < l.length := fun h i => ⟨Int.emod_nonneg _ (by omega), by rw [hlen]; exact Int.emod_lt_of_pos _ (by omega)⟩
    have Hmod := Lib.hid hmod
    rw [hz] at Hc
    have hsz : (c.Shards == 0) = false := beq_eq_false_iff_ne.2 (by omega)
    clear hz hN hN1 hlen hmod
    go_enter Try.func41, Try.ntmps41
    go_upto_region 1 with (refine box_cfg rfl _ rfl c rfl ?_; intro w1 B1 G1 z1)
    go_wp2_with (first | (refine load_cfg rfl _ rfl _ rfl c (by assumption) ?_) | (go_at_call 34; refine (Hc.out _ G1).mono ?_; rintro e w2 ⟨rfl, G2⟩; have BC := B1.same G2; have bc := BC.cell))
    have hg := grownBy_trans G1 G2
    clear G1 B1 G2 bc Hc
    go_loopw [5, 15] (fun s5 s15 wr => ∃ (k : Nat), k ≤ l.length ∧ s15 = .int .i64 k ∧ s5 = .int .u64 (restI c.Shards N l k) ∧ W64 (restI c.Shards N l k) ∧ w2.grownBy wr none) (fun _ s15 _ => l.length - (intOf s15).toNat)
    case atStart => exact ⟨0, Nat.zero_le _, rfl, rfl, w64_0, grownBy_refl _ _⟩
    case round =>
      obtain ⟨k, hk, rfl, rfl, hT, hgr⟩ := hrel
      have hgg := grownBy_trans hg hgr
      have BCr := BC.same hgr
      have bcr := BCr.cell
      by_cases hlt : k < l.length
      · have hlt2 : (k : Int) < c.Shards := by have := Hlen.out; omega
        have HS := Lib.hid (restI_succ c.Shards N l k)
        generalize restI c.Shards N l k = T at *
        go_wp2_with fail
        go_loopw [7, 20] (fun s7 s20 wi => ∃ (i : Nat), i ≤ N ∧ s20 = .int .i64 i ∧ s7 = .int .u64 (uF l (setN k c.Shards i)) ∧ W64 (uF l (setN k c.Shards i)) ∧ wr.grownBy wi none) (fun _ s20 _ => N - (intOf s20).toNat)
        case atStart => exact ⟨0, Nat.zero_le _, rfl, rfl, w64_0, grownBy_refl _ _⟩
        case round =>
          obtain ⟨i, hi, rfl, rfl, hU, hgi⟩ := hrel
          by_cases hin : i < N
          · have hin2 : (i : Int) < c.Spread := by have := HN1.out; omega
            obtain ⟨m1, m2⟩ := Hmod.out k i
            have HS2 := Lib.hid (setN_succ k c.Shards i)
            have HU2 := Lib.hid (uF_snoc l (setN k c.Shards i) ((k + i) % c.Shards))
            generalize hq : ((k : Int) + i) % c.Shards = q at *
            obtain ⟨n, rfl⟩ := Int.eq_ofNat_of_zero_le m1
            have hnl : n < l.length := by omega
            obtain ⟨g, off, cap, hv, hgl, c0, c1, c2, c3, hR, hW⟩ := (HL.out.same (grownBy_trans hgg hgi)).at_ hnl
            cases hv
            have hwu := hW.untr
            have HA := Lib.hid (uAt_eq hnl)
            have hW2 := satA_w hU hwu
            generalize l[n].untr = u at *
            generalize uF l (setN k c.Shards i) = U at *
            have bci := (BCr.same hgi).cell
            clear hR hW c0 c1 c3
            go_wp2_with (go_at_call 52; refine (satAdd_c U u _ hU hwu).mono ?_; rintro e w' ⟨rfl, rfl⟩)
            refine ⟨⟨i + 1, by omega, by go_num, by rw [HS2.out, HU2.out, HA.out], by rw [HS2.out, HU2.out, HA.out]; exact hW2, hgi⟩, by simp [intOf]; omega⟩
          · have hiN : i = N := by omega
            subst hiN
            have hin2 : ¬ (i : Int) < c.Spread := by have := HN1.out; omega
            generalize uF l (setN k c.Shards i) = U at *
            go_wp2_with fail
            refine ⟨⟨k + 1, by omega, by go_num, ?_, ?_, grownBy_trans hgr hgi⟩, by simp [intOf]; omega⟩
            · rw [HS.out]
            · rw [HS.out]; unfold W64 at *; omega
      · have hlt2 : ¬ (k : Int) < c.Shards := by have := Hlen.out; omega
        have hkl : k = l.length := by omega
        have HF := Lib.hid (p := restF c l = restI c.Shards N l k) (by rw [hkl]; exact HR.out)
        generalize restI c.Shards N l k = T at *
        go_wp2_with fail
        go_ret
        exact retWord HF.out hgg
  · have HF := Lib.hid (p := restF c l = 0) (by unfold restF; rw [if_pos hz])
    generalize mergeErr c l = ME at *
    have hz2 : (ME != 0) = true := bne_iff_ne.2 hz
    go_enter Try.func41, Try.ntmps41
    go_upto_region 1 with (refine box_cfg rfl _ rfl c rfl ?_; intro w1 B1 G1 z1)
    go_wp2_with (first | (refine load_cfg rfl _ rfl _ rfl c (by assumption) ?_) | (go_at_call 34; refine (Hc.out _ G1).mono ?_; rintro e w2 ⟨rfl, G2⟩))
    go_ret
    exact retWord HF.out (grownBy_trans G1 G2)
end Go.Proofs.Ytiagjiaahnkefaa

/- The keys of summaries: plain laws on sorted lists of texts. -/
namespace Go.Proofs.Ytiagjiaahnkefaa
open Go.RowKit

abbrev Bytes := List UInt8
theorem b_irrefl (a : Bytes) : ¬ a < a := List.lt_irrefl a
theorem b_trans {a b c : Bytes} (h : a < b) (h' : b < c) : a < c := List.lt_trans h h'
theorem b_le {a b : Bytes} : a ≤ b ↔ ¬ b < a := List.not_lt.symm
theorem b_anti {a b : Bytes} (h : a ≤ b) (h' : b ≤ a) : a = b := List.le_antisymm h h'
theorem b_total (a b : Bytes) : a ≤ b ∨ b ≤ a := List.le_total a b
theorem b_lt {a b : Bytes} (h : a ≤ b) (hne : a ≠ b) : a < b := by
  rcases Decidable.em (a < b) with h1 | h1
  · exact h1
  · exact absurd (b_anti h (b_le.2 h1)) hne
theorem b_le_trans {a b c : Bytes} (h : a ≤ b) (h' : b ≤ c) : a ≤ c := List.le_trans h h'
theorem b_lt_le {a b c : Bytes} (h : a < b) (h' : b ≤ c) : a < c := by
  rcases Decidable.em (b = c) with e | e
  · exact e ▸ h
  · exact b_trans h (b_lt h' e)
theorem b_le_lt {a b c : Bytes} (h : a ≤ b) (h' : b < c) : a < c := by
  rcases Decidable.em (a = b) with e | e
  · exact e ▸ h'
  · exact b_trans (b_lt h e) h'
theorem b_of_lt {a b : Bytes} (h : a < b) : a ≤ b := b_le.2 fun h' => b_irrefl _ (b_trans h h')

/-- Strictly ascending lists with the same elements are one list. -/
theorem asc_unique : ∀ {l l' : List Bytes}, l.Pairwise (· < ·) → l'.Pairwise (· < ·) → (∀ x, x ∈ l ↔ x ∈ l') → l = l'
  | [], [], _, _, _ => rfl
  | [], b :: _, _, _, h => by have := (h b).2 (by simp); simp at this
  | a :: _, [], _, _, h => by have := (h a).1 (by simp); simp at this
  | a :: l, b :: l', h1, h2, h => by
    obtain ⟨h3, h4⟩ := List.pairwise_cons.1 h1
    obtain ⟨h5, h6⟩ := List.pairwise_cons.1 h2
    have hab : a = b := by
      rcases List.mem_cons.1 ((h a).1 (by simp)) with e | e
      · exact e
      · rcases List.mem_cons.1 ((h b).2 (by simp)) with e' | e'
        · exact e'.symm
        · exact absurd (b_trans (h3 b e') (h5 a e)) (b_irrefl _)
    subst hab
    congr 1
    refine asc_unique h4 h6 fun x => ?_
    have hx := h x
    simp only [List.mem_cons] at hx
    constructor
    · intro hm
      rcases hx.1 (.inr hm) with e | e
      · subst e; exact absurd (h3 x hm) (b_irrefl _)
      · exact e
    · intro hm
      rcases hx.2 (.inr hm) with e | e
      · subst e; exact absurd (h5 x hm) (b_irrefl _)
      · exact e

open Go.Lib in
theorem compact_asc (d : Array Bytes) (hs : ∀ i j, i < j → j < d.size → d[i]! ≤ d[j]!) : ∀ m, m ≤ d.size →
    (compactUpTo d m).Pairwise (· < ·) ∧ (∀ x ∈ compactUpTo d m, ∃ j, j < m ∧ x = d[j]!) ∧ ∀ j, j < m → d[j]! ∈ compactUpTo d m
  | 0, _ => ⟨by simp [compactUpTo], by simp [compactUpTo], by omega⟩
  | m + 1, hm => by
    obtain ⟨h1, h2, h3⟩ := compact_asc d hs m (by omega)
    rw [compactUpTo_succ]
    by_cases hk : keeps d m = true
    · rw [if_pos hk]
      refine ⟨List.pairwise_append.2 ⟨h1, by simp, fun x hx y hy => ?_⟩, fun x hx => ?_, fun j hj => ?_⟩
      · obtain rfl := List.mem_singleton.1 hy
        obtain ⟨j, hj, rfl⟩ := h2 x hx
        have hne : d[m]! ≠ d[m - 1]! := by
          simp only [keeps, decide_eq_true_eq] at hk
          rcases hk with e | e
          · omega
          · exact e
        rcases Nat.lt_or_ge j (m - 1) with h4 | h4
        · exact b_le_lt (hs j (m - 1) h4 (by omega)) (b_lt (hs (m - 1) m (by omega) (by omega)) (Ne.symm hne))
        · obtain rfl : j = m - 1 := by omega
          exact b_lt (hs (m - 1) m (by omega) (by omega)) (Ne.symm hne)
      · rcases List.mem_append.1 hx with hx | hx
        · obtain ⟨j, hj, e⟩ := h2 x hx; exact ⟨j, by omega, e⟩
        · exact ⟨m, by omega, List.mem_singleton.1 hx⟩
      · rcases Nat.lt_or_ge j m with h4 | h4
        · exact List.mem_append_left _ (h3 j h4)
        · obtain rfl : j = m := by omega
          exact List.mem_append_right _ (by simp)
    · rw [if_neg hk, List.append_nil]
      refine ⟨h1, fun x hx => ?_, fun j hj => ?_⟩
      · obtain ⟨j, hj, e⟩ := h2 x hx; exact ⟨j, by omega, e⟩
      · rcases Nat.lt_or_ge j m with h4 | h4
        · exact h3 j h4
        · obtain rfl : j = m := by omega
          have he : d[j]! = d[j - 1]! ∧ 0 < j := by
            simp only [keeps, decide_eq_true_eq, not_or, Decidable.not_not] at hk
            exact ⟨hk.2, Nat.pos_of_ne_zero hk.1⟩
          rw [he.1]
          exact h3 (j - 1) (by omega)

def keysL (l : List Summ) : List Bytes := l.flatMap fun s => s.es.map fun e => e.key.data.toList
def sortL (L : List Bytes) : List Bytes := L.mergeSort fun x y => decide (x ≤ y)
def ascF (L : List Bytes) : List Bytes := Lib.compact (sortL L)
theorem ascF_ok (L : List Bytes) : (ascF L).Pairwise (· < ·) ∧ ∀ x, x ∈ ascF L ↔ x ∈ L := by
  have hs : (sortL L).Pairwise fun x y => decide (x ≤ y) = true := List.pairwise_mergeSort (le := fun x y : Bytes => decide (x ≤ y)) (fun a b c h h' => decide_eq_true (b_le_trans (of_decide_eq_true h) (of_decide_eq_true h'))) (fun a b => by
    rcases b_total a b with h | h <;> simp [h]) L
  have hp : (sortL L).Perm L := List.mergeSort_perm L _
  unfold ascF Lib.compact
  generalize sortL L = K at *
  have hd : ∀ i j, i < j → j < K.toArray.size → K.toArray[i]! ≤ K.toArray[j]! := fun i j hij hj => by
    have hj' : j < K.length := by simpa using hj
    rw [getElem!_pos K.toArray i (by simp; omega), getElem!_pos K.toArray j hj]
    exact of_decide_eq_true (List.pairwise_iff_getElem.1 hs i j (by omega) hj' hij)
  obtain ⟨h1, h2, h3⟩ := compact_asc K.toArray hd K.length (by simp)
  refine ⟨h1, fun x => ⟨fun hx => ?_, fun hx => ?_⟩⟩
  · obtain ⟨j, hj, rfl⟩ := h2 x hx
    rw [getElem!_pos K.toArray j (by simpa using hj)]
    exact hp.mem_iff.1 (by simp)
  · obtain ⟨j, hj, e⟩ := List.mem_iff_getElem.1 (hp.mem_iff.2 hx)
    have := h3 j hj
    rw [getElem!_pos K.toArray j (by simpa using hj)] at this
    simpa [e] using this
theorem ascF_of {L M : List Bytes} (h : M.Pairwise (· < ·)) (hm : ∀ x, x ∈ M ↔ x ∈ L) : ascF L = M :=
  asc_unique (ascF_ok L).1 h fun x => ((ascF_ok L).2 x).trans (hm x).symm

/-! ### Insertion -/
/-- How many of the first elements are less. -/
def lessN (L : List Bytes) (k : Bytes) : Nat := (L.takeWhile fun x => decide (x < k)).length
def insF (L : List Bytes) (k : Bytes) : List Bytes := if L[lessN L k]? = some k then L else L.take (lessN L k) ++ [k] ++ L.drop (lessN L k)
theorem insF_ok : ∀ {L : List Bytes} (k : Bytes), L.Pairwise (· < ·) → (insF L k).Pairwise (· < ·) ∧ ∀ x, x ∈ insF L k ↔ x = k ∨ x ∈ L
  | [], k, _ => by simp [insF, lessN]
  | a :: L, k, h => by
    obtain ⟨h1, h2⟩ := List.pairwise_cons.1 h
    by_cases ha : a < k
    · obtain ⟨h3, h4⟩ := insF_ok k h2
      have e : insF (a :: L) k = a :: insF L k := by
        have hl : lessN (a :: L) k = lessN L k + 1 := by simp [lessN, ha]
        unfold insF
        rw [hl]
        simp only [List.getElem?_cons_succ, List.take_succ_cons, List.drop_succ_cons]
        split <;> simp
      rw [e]
      refine ⟨List.pairwise_cons.2 ⟨fun x hx => ?_, h3⟩, fun x => ?_⟩
      · rcases (h4 x).1 hx with e' | e'
        · exact e' ▸ ha
        · exact h1 x e'
      · simp only [List.mem_cons, h4]
        constructor
        · rintro (e | e | e)
          · exact .inr (.inl e)
          · exact .inl e
          · exact .inr (.inr e)
        · rintro (e | e | e)
          · exact .inr (.inl e)
          · exact .inl e
          · exact .inr (.inr e)
    · have hl : lessN (a :: L) k = 0 := by simp [lessN, ha]
      unfold insF
      rw [hl]
      simp only [List.getElem?_cons_zero, Option.some.injEq, List.take_zero, List.nil_append, List.drop_zero]
      split
      · rename_i e
        subst e
        exact ⟨h, fun x => by simp⟩
      · rename_i hne
        have hka : k < a := b_lt (b_le.2 ha) (Ne.symm hne)
        refine ⟨List.pairwise_cons.2 ⟨fun x hx => ?_, h⟩, fun x => by simp⟩
        rcases List.mem_cons.1 hx with e | e
        · exact e ▸ hka
        · exact b_trans hka (h1 x e)
theorem insF_len (L : List Bytes) (k : Bytes) : (insF L k).length ≤ L.length + 1 := by
  unfold insF
  split
  · omega
  · simp; omega
theorem foldIns_len : ∀ (M L : List Bytes), (M.foldl insF L).length ≤ M.length + L.length
  | [], L => by simp
  | k :: M, L => by
    have h1 := foldIns_len M (insF L k)
    have h2 := insF_len L k
    simp only [List.foldl_cons, List.length_cons]
    omega
def keysF (l : List Summ) : List Bytes := ascF (keysL l)
theorem ins_fold (L : List Bytes) : L.foldl insF [] = ascF L := by
  have : ∀ (L A M : List Bytes), A.Pairwise (· < ·) → (∀ x, x ∈ A ↔ x ∈ M) → (L.foldl insF A).Pairwise (· < ·) ∧ ∀ x, x ∈ L.foldl insF A ↔ x ∈ M ++ L := by
    intro L
    induction L with
    | nil => intro A M h hm; exact ⟨h, by simpa using hm⟩
    | cons k L ih =>
      intro A M h hm
      obtain ⟨h1, h2⟩ := insF_ok k h
      have := ih (insF A k) (M ++ [k]) h1 fun x => by rw [h2, List.mem_append, List.mem_singleton, hm]; exact Or.comm
      simpa using this
  obtain ⟨h1, h2⟩ := this L [] [] (by simp) (by simp)
  exact (ascF_of h1 (by simpa using h2)).symm
end Go.Proofs.Ytiagjiaahnkefaa

/- The keys of summaries: the program (sorted, compacted) and the reference (inserted one by one). -/
namespace Go.Proofs.Ytiagjiaahnkefaa
open Go.RowKit Go.Sort

def strB (b : Bytes) : List Value := [.string ⟨b.toArray⟩]
theorem strB_len (b : Bytes) : (strB b).length = 1 := rfl
theorem strB_one (b : Bytes) : strB b = [.string ⟨b.toArray⟩] := rfl
theorem one_str : OneF strB := by intro x u hu; simp [strB] at hu; subst hu; rfl
theorem elt_str : Elt 59 9 (.string ⟨#[]⟩) 1 16 := ⟨Try.underlying59, by kernel_rfl, rfl, by decide⟩
theorem enc_key (k : ByteArray) : Value.string ⟨k.data.toList.toArray⟩ = .string k := by simp
theorem cells_strB (l : List Bytes) : cellsOf strB l = l.map encStr := by
  induction l with
  | nil => rfl
  | cons x l ih => simp only [cellsOf, List.flatMap_cons, List.map_cons] at *; rw [ih]; rfl

theorem ksort_c (B : Nat) (a : Option Addr) (c : Nat) (L : List Bytes) (w : World) (h : Own strB 1 9 B w (.slice a L.length c) L) (hL : L.length ≤ 1000000) :
    Calls Try.prog 85 #[.slice a L.length c] w fun e w' =>
      e = .returned (.tuple #[]) ∧ Own strB 1 9 B w' (.slice a L.length c) (sortL L) ∧ w.grownBy w' (Value.ownBlock (.slice a L.length c)) := by
  have hl : (sortL L).length = L.length := (List.mergeSort_perm L _).length_eq
  rcases h.2 with ⟨hn, h0⟩ | ⟨g, cap, cur, hv, hb, hg, h1, h2, h3, h4⟩
  · have hL0 : L = [] := List.length_eq_zero_iff.1 h0
    subst hL0
    cases hn
    refine (Try.slices_Sort_string_none none 0 w).mono ?_
    rintro e w' ⟨rfl, rfl⟩
    exact ⟨rfl, by simpa [sortL] using h, grownBy_refl _ _⟩
  · cases hv
    have hH : Holds encStr w g 0 L.toArray := holds_of_block hg (by rw [← cells_strB, ← h4]; simp)
    refine (Try.slices_Sort_string g 0 c L w hH (Array.getElem?_eq_some_iff.1 hg).1 (by omega)).mono ?_
    rintro e w' ⟨rfl, q, os, rfl⟩
    have hown := ownsRow_sorted (w := w) (n := q) (os := os) (e := 9) (ss := L) (ts := sortL L) hl hb hg h1 h2 h3
    refine ⟨rfl, ?_, grownBy_sorted (w := w) (g := g) (n := q) (os := os) (sortL L).toArray⟩
    unfold Own
    rw [cells_strB, hl]
    exact hown
theorem kcompact_c (B : Nat) (a : Option Addr) (c : Nat) (L : List Bytes) (w : World) (h : Own strB 1 9 B w (.slice a L.length c) L) :
    Calls Try.prog 86 #[.slice a L.length c] w fun e w' =>
      e = .returned (.slice a (Lib.compact L).length c) ∧ Own strB 1 9 B w' (.slice a (Lib.compact L).length c) (Lib.compact L) ∧ w.grownBy w' (Value.ownBlock (.slice a L.length c)) := by
  have hle : (Lib.compact L).length ≤ L.length := Lib.compact_length_le L
  rcases h.2 with ⟨hn, h0⟩ | ⟨g, cap, cur, hv, hb, hg, h1, h2, h3, h4⟩
  · have hL0 : L = [] := List.length_eq_zero_iff.1 h0
    subst hL0
    cases hn
    refine (Try.slices_Compact_string_empty none 0 w).mono ?_
    rintro e w' ⟨rfl, rfl⟩
    exact ⟨rfl, h, grownBy_refl _ _⟩
  · cases hv
    have hH : Holds encStr w g 0 L.toArray := holds_of_block hg (by rw [← cells_strB, ← h4]; simp)
    refine (Try.slices_Compact_string g 0 c L w hH (by unfold maxLen at h2; omega) h1).mono ?_
    rintro e w' ⟨rfl, q, rfl⟩
    have hts : (Lib.compact L ++ List.replicate (L.length - (Lib.compact L).length) []).length = L.length := by simp; omega
    have hown := ownsRow_sorted (w := w) (n := q) (os := #[]) (e := 9) (ss := L) (ts := Lib.compact L ++ List.replicate (L.length - (Lib.compact L).length) []) hts hb hg h1 h2 h3
    rw [grow_empty] at hown
    refine ⟨rfl, ?_, ?_⟩
    · rcases hown.2 with ⟨hn, _⟩ | ⟨g', cap', cur', hv', hb', hg', q1, q2, q3, q4⟩
      · cases hn
      cases hv'
      refine ⟨by rw [length_cellsOf _ 1 strB_len], .inr ⟨g, c, cur', rfl, hb, hg', by omega, q2, q3, ?_⟩⟩
      have e2 : cur'.toList.take ((Lib.compact L).length * 1) = (cur'.toList.take (L.length * 1)).take ((Lib.compact L).length * 1) := by rw [List.take_take, Nat.min_eq_left (by omega)]
      rw [e2, q4, cells_strB, List.map_append, Nat.mul_one, List.take_left' (by simp)]
    · have := grownBy_sorted (w := w) (g := g) (n := q) (os := #[]) (Lib.compact L ++ List.replicate (L.length - (Lib.compact L).length) []).toArray
      rw [grow_empty] at this
      exact this

def entK (e : Ent) : Bytes := e.key.data.toList
theorem keysL_snoc (l : List Summ) (s : Summ) : keysL (l ++ [s]) = keysL l ++ s.es.map entK := by simp [keysL, entK]
theorem keysL_take_le (l : List Summ) (k : Nat) : (keysL (l.take k)).length ≤ (keysL l).length := by
  have : keysL l = keysL (l.take k) ++ keysL (l.drop k) := by unfold keysL; rw [← List.flatMap_append, List.take_append_drop]
  rw [this, List.length_append]; omega

set_option maxHeartbeats 600000 in
set_option maxRecDepth 100000 in
theorem mkeys_c (v : Value) (l : List Summ) (w : World) (h : SumsRd w v l) (hs : (keysL l).length ≤ 100000) : Calls Try.prog 39 #[v] w (RetOwn strB 1 9 (keysF l) w) := by
  obtain ⟨a, c, rfl⟩ := h.rd.shape
  have hm := h.rd.2.1
  have H := Lib.hid h
  have Hs := Lib.hid hs
  clear h hs
  go_enter Try.func39, Try.ntmps39
  go_wp2_with fail
  go_loopw [3, 10] (fun s3 s10 wk => ∃ (k : Nat), k ≤ l.length ∧ s10 = .int .i64 k ∧ Own strB 1 9 w.heap.size wk s3 (keysL (l.take k)) ∧ w.grownBy wk none) (fun _ s10 _ => l.length - (intOf s10).toNat)
  case atStart => exact ⟨0, Nat.zero_le _, rfl, Own.nil _ _ _ _ _, grownBy_refl _ _⟩
  case round =>
    obtain ⟨k, hk, rfl, hO, hg⟩ := hrel
    by_cases hlt : k < l.length
    · obtain ⟨g, off, cap, hv, hgl, c0, c1, c2, c3, hR, hW⟩ := (H.out.same hg).at_ hlt
      cases hv
      have HS := Lib.hid (take_succ hlt)
      have Hk := Lib.hid (keysL_snoc (l.take k) l[k])
      have hbig := Lib.hid (keysL_take_le l (k + 1))
      obtain ⟨a1, k1, e1⟩ := hR.es.shape
      obtain ⟨a2, k2, e2⟩ := hR.vs.shape
      have Hes := Lib.hid (H.out.all _ (List.getElem_mem hlt)).es
      rw [e1] at c1 Hes
      rw [e2] at c3
      rw [HS.out] at hbig
      clear hR hW e1 e2
      generalize keysL (l.take k) = K at *
      generalize l[k] = s at *
      have hem := Hes.out.2.1
      go_upto_region 6 with fail
      have O1 := hO.same (World.grownBy_alloc wr (.cells #[.int .u64 s.total, .slice a1 s.es.length k1, .int .u64 s.untr, .slice a2 s.vs.length k2] 68) none)
      have G1 := grownBy_new_block hg (.cells #[.int .u64 s.total, .slice a1 s.es.length k1, .int .u64 s.untr, .slice a2 s.vs.length k2] 68)
      have hn0 : wr.heap.size ≤ (wr.alloc (.cells #[.int .u64 s.total, .slice a1 s.es.length k1, .int .u64 s.untr, .slice a2 s.vs.length k2] 68)).heap.size := by simp
      generalize wr.alloc (.cells #[.int .u64 s.total, .slice a1 s.es.length k1, .int .u64 s.untr, .slice a2 s.vs.length k2] 68) = w1 at *
      clear hO hg c0 c1 c2 c3 hgl
      have hKb : K.length + s.es.length ≤ 100000 := by
        have h1 := hbig.out
        have h2 := Hs.out
        rw [Hk.out, List.length_append, List.length_map] at h1
        omega
      go_loopw [3, 17] (fun s3 s17 wk => ∃ (j : Nat), j ≤ s.es.length ∧ s17 = .int .i64 j ∧ Own strB 1 9 w.heap.size wk s3 (K ++ (s.es.take j).map entK) ∧ w.grownBy wk none) (fun _ s17 _ => s.es.length - (intOf s17).toNat)
      case atStart => exact ⟨0, Nat.zero_le _, rfl, by simpa using O1, G1⟩
      case round =>
        obtain ⟨j, hj, rfl, hO, hg⟩ := hrel
        by_cases hjl : j < s.es.length
        · obtain ⟨ge, oe, ce, hve, hge, d0, d1, d2⟩ := RdL.ent (RdL.same Hes.out hg) hjl
          cases hve
          have HT := Lib.hid (take_succ hjl)
          have hbb : (K ++ (s.es.take j).map entK).length ≤ 100000 := by rw [List.length_append, List.length_map, List.length_take]; omega
          have hb1 : ((K ++ (s.es.take j).map entK).length + 1) * 16 ≤ 140737488355328 := by omega
          have hb2 : (K ++ (s.es.take j).map entK).length + 1 ≤ 9223372036854775807 := by omega
          generalize hKK : K ++ (s.es.take j).map entK = KK at *
          have HKK := Lib.hid hKK
          clear hKK
          generalize s.es[j] = en at *
          go_upto_region 8 with fail
          have O2 := hO.same (World.grownBy_alloc wr (.cells #[.string en.key, .int .u64 en.own, .int .u64 en.slack] 77) none)
          have G2 := grownBy_new_block hg (.cells #[.string en.key, .int .u64 en.own, .int .u64 en.slack] 77)
          have A2 := (Blk.new wr #[.string en.key, .int .u64 en.own, .int .u64 en.slack] 77).cell
          have hsz := G2.size
          have Hcs := Lib.hid (show (#[Value.string en.key] : Array Value).toList = strB (entK en) by simp [strB, entK])
          generalize wr.alloc (.cells #[.string en.key, .int .u64 en.own, .int .u64 en.slack] 77) = w2 at *
          clear hO hg d0 d1 d2 hge
          go_wp2_with (at_builtin; refine app_one elt_str one_str strB_len O2 (entK en) hb1 hb2 hsz Hcs.out rfl (.tmp 21) (.tmp 24) rfl rfl rfl ?_; intro v3 w3 o3 g3 l3)
          exact ⟨⟨j + 1, by omega, by go_num, by rw [HT.out, List.map_append, ← List.append_assoc, HKK.out]; exact o3, grown_own G2 O2 (Nat.le_refl _) g3⟩, by simp [intOf]; omega⟩
        · have hje : s.es.take j = s.es := List.take_of_length_le (by omega)
          rw [hje] at hO
          go_wp2_with fail
          exact ⟨⟨k + 1, by omega, by go_num, by rw [HS.out, Hk.out]; exact hO, hg⟩, by simp [intOf]; omega⟩
    · have hke : l.take k = l := List.take_of_length_le (by omega)
      rw [hke] at hO
      obtain ⟨ra, rc, rfl⟩ := hO.shape
      have HO := Lib.hid hO
      have hb := Hs.out
      have HF := Lib.hid (show keysF l = Lib.compact (sortL (keysL l)) from rfl)
      have hsl : (sortL (keysL l)).length = (keysL l).length := (List.mergeSort_perm _ _).length_eq
      clear hO
      generalize keysF l = FF at *
      generalize keysL l = K at *
      have hc1 := ksort_c w.heap.size ra rc K wr HO.out (by omega)
      have Hc2 := Lib.hid fun w' h => kcompact_c w.heap.size ra rc (sortL K) w' h
      rw [hsl] at Hc2
      rw [← HF.out] at Hc2
      go_wp2_with (first
        | (go_at_call 85; refine hc1.mono ?_; rintro e w2 ⟨rfl, o2, g2⟩)
        | (go_at_call 86; refine (Hc2.out _ o2).mono ?_; rintro e w3 ⟨rfl, o3, g3⟩))
      go_ret
      exact ⟨_, rfl, o3, grown_own (grown_own hg HO.out (Nat.le_refl _) g2) o2 (Nat.le_refl _) g3⟩
end Go.Proofs.Ytiagjiaahnkefaa

/- merge.Line and the reference's Line. -/
namespace Go.Proofs.Ytiagjiaahnkefaa
open Go.RowKit
attribute [local go_sem ↓] exec_load_cfg
attribute [local go_sem] run_loadCfgS

def okShard (c : Cfg) (t : List Int) (l : List Summ) (k : ByteArray) (x : Int) : Bool := decide (x < (l.length : Int)) && (setF c t k).contains x
theorem fold_step (c : Cfg) (t : List Int) (l : List Summ) (k : ByteArray) (O : List Int) {j : Nat} (hj : j < O.length) :
    foldB c t l k ((O.take (j + 1)).filter (okShard c t l k)) = if okShard c t l k O[j] then addP (foldB c t l k ((O.take j).filter (okShard c t l k))) (bP c t l k O[j]) else foldB c t l k ((O.take j).filter (okShard c t l k)) := by
  rw [take_succ hj, List.filter_append]
  by_cases h : okShard c t l k O[j] = true
  · rw [if_pos h, List.filter_cons_of_pos h, List.filter_nil, foldB_snoc]
  · rw [if_neg h, List.filter_cons_of_neg h, List.filter_nil, List.append_nil]
theorem order_in (picks : List Int) (n : Nat) : ∀ x ∈ order picks n, 0 ≤ x ∧ x < n := fun _ hx => mem_rangeI.1 ((order_perm picks n).mem_iff.1 hx)

set_option maxHeartbeats 2000000 in
set_option maxRecDepth 100000 in
theorem line_c (c : Cfg) (t : List Int) (lv : Value) (l : List Summ) (k : ByteArray) (pv : Value) (P : List Int) (w : World) (h : RCfg w c t) (hl : SumsRd w lv l) (ho : SumsOk l) (hp : RdL intF 1 w pv P) (hk : k.size ≤ 9223372036854775807) :
    Calls Try.prog 33 #[c.val, lv, .string k, pv] w (RetVal (lineV k (lineF c t l k).1 (lineF c t l k).2) w) := by
  obtain ⟨la, lc, rfl⟩ := hl.rd.shape
  obtain ⟨pa, pc, rfl⟩ := hp.shape
  have H := Lib.hid h
  have HL := Lib.hid hl
  have HP := Lib.hid hp
  obtain ⟨s1, s2⟩ := h.shards
  clear h hl hp
  go_enter Try.func33, Try.ntmps33
  go_upto_region 1 with (refine box_cfg rfl _ rfl c rfl ?_; intro w1 B1 G1 z1)
  have kl : Blk (((w1.alloc (.cells #[.slice la l.length lc] 33)).alloc (.cells #[.string k] 9)).alloc (.cells #[.string ⟨#[]⟩, .int .u64 0, .int .u64 0] 71)) w1.heap.size #[.slice la l.length lc] := (by repeat (first | exact Blk.new' _ _ _ (by simp) | refine Blk.same ?_ (World.grownBy_alloc _ _ _) | refine Blk.drew ?_ _ | refine Blk.drew1 ?_ | refine Blk.set_ (by assumption) _ _ rfl | refine Blk.off ?_ (by first | omega | (simp; done) | (simp; omega)) _ _ | assumption))
  have kk : Blk (((w1.alloc (.cells #[.slice la l.length lc] 33)).alloc (.cells #[.string k] 9)).alloc (.cells #[.string ⟨#[]⟩, .int .u64 0, .int .u64 0] 71)) (w1.heap.size + 1) #[.string k] := (by repeat (first | exact Blk.new' _ _ _ (by simp) | refine Blk.same ?_ (World.grownBy_alloc _ _ _) | refine Blk.drew ?_ _ | refine Blk.drew1 ?_ | refine Blk.set_ (by assumption) _ _ rfl | refine Blk.off ?_ (by first | omega | (simp; done) | (simp; omega)) _ _ | assumption))
  have kr : Blk (((w1.alloc (.cells #[.slice la l.length lc] 33)).alloc (.cells #[.string k] 9)).alloc (.cells #[.string ⟨#[]⟩, .int .u64 0, .int .u64 0] 71)) (w1.heap.size + 1 + 1) #[.string ⟨#[]⟩, .int .u64 0, .int .u64 0] := (by repeat (first | exact Blk.new' _ _ _ (by simp) | refine Blk.same ?_ (World.grownBy_alloc _ _ _) | refine Blk.drew ?_ _ | refine Blk.drew1 ?_ | refine Blk.set_ (by assumption) _ _ rfl | refine Blk.off ?_ (by first | omega | (simp; done) | (simp; omega)) _ _ | assumption))
  have kg : w1.grownBy (((w1.alloc (.cells #[.slice la l.length lc] 33)).alloc (.cells #[.string k] 9)).alloc (.cells #[.string ⟨#[]⟩, .int .u64 0, .int .u64 0] 71)) none := (by (repeat (first | exact grownBy_refl _ _ | assumption | refine grownBy_new_block ?_ _ | refine grownBy_drew ?_ | refine grownBy_drewN ?_ _ | refine grownBy_setNew ?_ (by first | (simp; done) | omega | (simp; omega)) _)))
  replace kg := grownBy_trans G1 kg
  have kc : BoxAt (((w1.alloc (.cells #[.slice la l.length lc] 33)).alloc (.cells #[.string k] 9)).alloc (.cells #[.string ⟨#[]⟩, .int .u64 0, .int .u64 0] 71)) w.heap.size c := ((B1.same (World.grownBy_alloc _ _ _)).same (World.grownBy_alloc _ _ _)).same (World.grownBy_alloc _ _ _)
  generalize ((w1.alloc (.cells #[.slice la l.length lc] 33)).alloc (.cells #[.string k] 9)).alloc (.cells #[.string ⟨#[]⟩, .int .u64 0, .int .u64 0] 71) = w2 at *
  clear G1 B1
  generalize w1.heap.size = b at *
  have ck := kk.cell
  go_upto_region 2 with (first | (refine load_cfg rfl _ rfl _ rfl c (by assumption) ?_) | (go_at_call 31; refine (set_c c t k _ (H.out.same kg) hk).mono ?_; rintro e w3 ⟨sv, rfl, hsv, G3⟩; obtain ⟨sa, sc, rfl⟩ := hsv.shape))
  have K3 := grownBy_trans kg G3
  have E4 : LineEnv (w3.alloc (.cells #[.slice sa (setF c t k).length sc] 27)) b w3.heap.size w.heap.size (b + 1) c t (.slice la l.length lc) (.slice sa (setF c t k).length sc) l k :=
    ⟨(H.out.same K3).same (World.grownBy_alloc _ _ _), (HL.out.same K3).same (World.grownBy_alloc _ _ _), hsv.same (World.grownBy_alloc _ _ _), (kl.same G3).same (World.grownBy_alloc _ _ _), Blk.new _ _ _, (kc.same G3).same (World.grownBy_alloc _ _ _), (kk.same G3).same (World.grownBy_alloc _ _ _)⟩
  have kr4 : Blk (w3.alloc (.cells #[.slice sa (setF c t k).length sc] 27)) (b + 1 + 1) #[.string ⟨#[]⟩, .int .u64 0, .int .u64 0] := (kr.same G3).same (World.grownBy_alloc _ _ _)
  have K4 : w.grownBy (w3.alloc (.cells #[.slice sa (setF c t k).length sc] 27)) none := grownBy_new_block K3 _
  have z3 : b + 1 + 1 < w3.heap.size := (kr.same G3).lt
  clear kl kk kr kg kc ck G3 K3 hsv
  generalize w3.alloc (.cells #[.slice sa (setF c t k).length sc] 27) = w4 at *
  generalize w3.heap.size = bs at *
  have b4 := E4.kc.cell
  have b4' := fun o => (E4.kc.same (World.grownBy_alloc w4 o none)).cell
  go_upto_region 5 with (go_at_call 24; refine (order_c _ P c.Shards _ (HP.out.same (by (repeat (first | exact grownBy_refl _ _ | assumption | refine grownBy_new_block ?_ _ | refine grownBy_drew ?_ | refine grownBy_drewN ?_ _ | refine grownBy_setNew ?_ (by first | (simp; done) | omega | (simp; omega)) _)))) (by omega)).mono ?_; rintro e w6 ⟨ov, rfl, hov, G6⟩; obtain ⟨oa, oc, rfl⟩ := hov.shape)
  have kb : Blk w6 w4.heap.size #[.int .u64 0, .int .u64 0] := Blk.same (Blk.new w4 _ _) G6
  have K6 : w4.grownBy w6 none := grownBy_trans (World.grownBy_alloc _ _ _) G6
  have hlen := order_len P c.Shards.toNat
  have hin := order_in P c.Shards.toNat
  have Hfin := Lib.hid (line_order (c := c) (t := t) (k := k) ho ⟨s1, s2⟩ H.out.spread P)
  have hbase : ∀ g, Value.ownBlock (.slice oa (order P c.Shards.toNat).length oc) = some g → g ≠ w4.heap.size := fun g hg e => by have := (hov.lt g hg).1; simp at this; omega
  clear b4 b4'
  obtain ⟨O, hO⟩ : ∃ O, O = order P c.Shards.toNat := ⟨_, rfl⟩
  rw [← hO] at hov hlen hin Hfin hbase ⊢
  clear hO
  have HO : Hid (Own intF 1 3 (w4.alloc (.cells #[.int .u64 0, .int .u64 0] 62)).heap.size w6 (.slice oa O.length oc) O) := Lib.hid hov
  have Hin := Lib.hid hin
  have hlen8 : O.length ≤ 8 := by omega
  clear hov hin hlen G6
  go_loopw [13, 23] (fun s13 s23 wr => ∃ j : Nat, j ≤ O.length ∧ s23 = .int .i64 j ∧ Blk wr w4.heap.size #[.int .u64 (foldB c t l k ((O.take j).filter (okShard c t l k))).1, .int .u64 (foldB c t l k ((O.take j).filter (okShard c t l k))).2] ∧ w6.grownBy wr (some w4.heap.size) ∧ w4.grownBy wr none) (fun _ s23 _ => O.length - (intOf s23).toNat)
  case atStart => exact ⟨0, Nat.zero_le _, rfl, kb, grownBy_refl _ _, K6⟩
  case round =>
    obtain ⟨j, hj, rfl, kb, h6, h4⟩ := hrel
    by_cases hlt : j < O.length
    · obtain ⟨g, off, cap, hv, hgl, c0⟩ := ((HO.out.kept h6 (fun g hg e => hbase g hg (by injection e with e; exact e.symm))).rd).one int_one hlt
      cases hv
      have hF := fold_step c t l k O hlt
      obtain ⟨hx0, hx1⟩ := Hin.out _ (List.getElem_mem hlt)
      obtain ⟨hwa, hwb⟩ := foldB_w (c := c) (t := t) ho k ((O.take j).filter (okShard c t l k))
      have EE := E4.same h4
      generalize foldB c t l k ((O.take j).filter (okShard c t l k)) = f at *
      have kbc := kb.cell
      have kbf := kb.free
      cases hok : okShard c t l k O[j]
      · have hcall := lineFn_no b bs w.heap.size (b + 1) c t _ _ l k wr EE f.1 f.2 O[j] hok hx0 (by omega)
        rw [hok, if_neg (by decide)] at hF
        have HF := Lib.hid hF
        clear hok hF
        generalize O[j] = x at *
        go_wp2_with (go_at_call 78; refine hcall.mono ?_; rintro e w7 ⟨rfl, G7⟩; have kb7 := kb.same G7; have kbc7 := kb7.cell; have kbf7 := kb7.free)
        exact ⟨⟨j + 1, by omega, by go_num, by rw [HF.out]; exact (kb7.set_ 0 _ rfl).set_ 1 _ rfl, grownBy_set (grownBy_set (grownBy_trans h6 (grownBy_some G7 _)) 0 _) 1 _, grownBy_setNew (grownBy_setNew (grownBy_trans h4 G7) (Nat.le_refl _) _) (Nat.le_refl _) _⟩, by simp [intOf]; omega⟩
      · have hcall := lineFn_yes b bs w.heap.size (b + 1) c t _ _ l k wr EE ho hk f.1 f.2 O[j] hwa hwb hok hx0 (by omega)
        rw [hok, if_pos rfl] at hF
        have HF := Lib.hid hF
        clear hok hF
        generalize O[j] = x at *
        generalize hbp : bP c t l k x = bx at *
        clear hbp
        go_wp2_with (go_at_call 78; refine hcall.mono ?_; rintro e w7 ⟨rfl, G7⟩; have kb7 := kb.same G7; have kbc7 := kb7.cell; have kbf7 := kb7.free)
        exact ⟨⟨j + 1, by omega, by go_num, by rw [HF.out]; exact (kb7.set_ 0 _ rfl).set_ 1 _ rfl, grownBy_set (grownBy_set (grownBy_trans h6 (grownBy_some G7 _)) 0 _) 1 _, grownBy_setNew (grownBy_setNew (grownBy_trans h4 G7) (Nat.le_refl _) _) (Nat.le_refl _) _⟩, by simp [intOf]; omega⟩
    · have hl : foldB c t l k ((O.take j).filter (okShard c t l k)) = lineF c t l k := by rw [List.take_of_length_le (by omega)]; exact Hfin.out
      rw [hl] at kb
      clear hl Hfin
      generalize lineF c t l k = f at *
      have kbc := kb.cell
      have kkc := (E4.same h4).kk.cell
      have krc := (kr4.same h4).cell
      have krf := (kr4.same h4).free
      have hzz : b + 1 + 1 ≠ w4.heap.size := by have := kr4.lt; omega
      go_wp2_with fail
      have BZ := (((kr4.same h4).set_ 0 (.string k) rfl).set_ 1 (.int .u64 f.1) rfl).set_ 2 (.int .u64 f.2) rfl
      have bz := BZ.cell
      refine bodyPost_ret (v := lineV k f.1 f.2) (by simp [results, Try.results33, go_sem, bz]) rfl ?_
      exact retVal rfl (grownBy_setNew (grownBy_setNew (grownBy_setNew (grownBy_trans K4 h4) (by simp; omega) _) (by simp; omega) _) (by simp; omega) _)
end Go.Proofs.Ytiagjiaahnkefaa

/- Lines: how they lie; their order; lists put in order by insertion: plain, and the walk of the order. -/
namespace Go.Proofs.Ytiagjiaahnkefaa
open Go.RowKit Go.Sort

/-- A line. -/
structure Ln where
  (key : ByteArray) (lo hi : Int)
def lnF (x : Ln) : List Value := [.string x.key, .int .u64 x.lo, .int .u64 x.hi]
theorem lnF_len (x : Ln) : (lnF x).length = 3 := rfl
theorem one_ln : OneF lnF := by intro x u hu; simp [lnF] at hu; rcases hu with rfl | rfl | rfl <;> rfl
theorem elt_ln : Elt 23 71 (.agg #[.string ⟨#[]⟩, .int .u64 0, .int .u64 0]) 3 32 := ⟨Try.underlying23, by kernel_rfl, rfl, by decide⟩

abbrev lnV (x : Ln) : Value := .agg #[.string x.key, .int .u64 x.lo, .int .u64 x.hi]
/-- x comes before y. -/
def befB (x y : Ln) : Bool := decide (y.hi < x.hi) || (decide (x.hi = y.hi) && decide (x.key.data.toList < y.key.data.toList))
theorem blt_of (a b : ByteArray) : Op.bytesLess a.toList b.toList = decide (a.data.toList < b.data.toList) := by
  rw [ByteArray.toList_eq, ByteArray.toList_eq, bytesLess_eq]

set_option maxHeartbeats 400000 in
theorem before_c (x y : Ln) (w : World) : Calls Try.prog 95 #[lnV x, lnV y] w (RetBool (befB x y) w) := by
  have hb := blt_of x.key y.key
  obtain ⟨b, hd⟩ : ∃ b, decide (x.key.data.toList < y.key.data.toList) = b := ⟨_, rfl⟩
  rw [hd] at hb
  by_cases h1 : y.hi < x.hi
  · have HB := Lib.hid (show befB x y = true by simp [befB, h1])
    clear hd
    generalize befB x y = q at *
    go_enter Try.func95, Try.ntmps95
    go_wp2
    go_ret
    exact retBool HB.out (grownBy_new_block (grownBy_new_block (grownBy_refl _ _) _) _)
  · have h1' : decide (y.hi < x.hi) = false := by simpa using h1
    by_cases h2 : x.hi = y.hi
    · have h2' : ((x.hi : Int) == y.hi) = true := by simp [h2]
      have HB := Lib.hid (show befB x y = b by unfold befB; rw [h1', hd, decide_eq_true h2]; rfl)
      clear hd h2
      generalize befB x y = q at *
      go_enter Try.func95, Try.ntmps95
      go_wp2
      go_ret
      exact retBool HB.out (grownBy_new_block (grownBy_new_block (grownBy_refl _ _) _) _)
    · have h2' : ((x.hi : Int) == y.hi) = false := by simp [h2]
      have HB := Lib.hid (show befB x y = false by simp [befB, h1', h2])
      clear hd h2
      generalize befB x y = q at *
      go_enter Try.func95, Try.ntmps95
      go_wp2
      go_ret
      exact retBool HB.out (grownBy_new_block (grownBy_new_block (grownBy_refl _ _) _) _)
end Go.Proofs.Ytiagjiaahnkefaa

/- The lines of all tracked keys: the program; lists of lines compared. -/
namespace Go.Proofs.Ytiagjiaahnkefaa
open Go.RowKit Go.Sort
attribute [local go_sem ↓] exec_load_cfg
attribute [local go_sem] run_loadCfgS

def bA (b : Bytes) : ByteArray := ⟨b.toArray⟩
def lnOf (c : Cfg) (t : List Int) (l : List Summ) (b : Bytes) : Ln := ⟨bA b, (lineF c t l (bA b)).1, (lineF c t l (bA b)).2⟩
def allF (c : Cfg) (t : List Int) (l : List Summ) : List Ln := (keysF l).map (lnOf c t l)
theorem mem_keysF {l : List Summ} {b : Bytes} (h : b ∈ keysF l) : ∃ s ∈ l, ∃ e ∈ s.es, b = entK e := by
  have := ((ascF_ok _).2 b).1 h
  obtain ⟨s, hs, he⟩ := List.mem_flatMap.1 this
  obtain ⟨e, h1, h2⟩ := List.mem_map.1 he
  exact ⟨s, hs, e, h1, h2.symm⟩
theorem keysF_len (l : List Summ) : (keysF l).length ≤ (keysL l).length := by
  unfold keysF ascF
  exact Nat.le_trans (Lib.compact_length_le _) (by rw [show (sortL (keysL l)).length = (keysL l).length from (List.mergeSort_perm _ _).length_eq]; exact Nat.le_refl _)

set_option maxHeartbeats 1000000 in
set_option maxRecDepth 100000 in
theorem mall_c (c : Cfg) (t : List Int) (lv : Value) (l : List Summ) (pv : Value) (P : List Int) (w : World) (h : RCfg w c t) (hl : SumsRd w lv l) (ho : SumsOk l) (hs : (keysL l).length ≤ 100000) (hk : ∀ s ∈ l, ∀ e ∈ s.es, e.key.size ≤ 9223372036854775807) (hp : RdL intF 1 w pv P) :
    Calls Try.prog 45 #[c.val, lv, pv] w (RetOwn lnF 3 71 (allF c t l) w) := by
  obtain ⟨la, lc, rfl⟩ := hl.rd.shape
  obtain ⟨pa, pc, rfl⟩ := hp.shape
  have Hc1 := Lib.hid fun w' (h : w.grownBy w' none) => mkeys_c _ l w' (hl.same h) hs
  have Hc2 := Lib.hid fun (b : Bytes) (hb : b ∈ keysF l) w' (g : w.grownBy w' none) => line_c c t _ l (bA b) _ P w' (h.same g) (hl.same g) ho (RdL.same hp g) (by
    obtain ⟨s, h1, e, h2, rfl⟩ := mem_keysF hb
    have := hk s h1 e h2
    show (entK e).toArray.size ≤ _
    simpa [entK] using this)
  have HKl := Lib.hid (keysF_len l)
  have HA := Lib.hid (show allF c t l = (keysF l).map (lnOf c t l) from rfl)
  have hln : ∀ b, lnOf c t l b = ⟨bA b, (lineF c t l (bA b)).1, (lineF c t l (bA b)).2⟩ := fun _ => rfl
  have Hln := Lib.hid hln
  have Hs := Lib.hid hs
  clear h hl ho hs hk hp hln
  generalize allF c t l = AL at *
  generalize keysF l = K at *
  go_enter Try.func45, Try.ntmps45
  go_upto_region 2 with (refine box_cfg rfl _ rfl c rfl ?_; intro w1 B1 G1 z1)
  go_wp2_with (go_at_call 39; refine (Hc1.out _ G1).mono ?_; rintro e w2 ⟨v2, rfl, o2, g2⟩; have R2 := o2.rd; obtain ⟨ka, kc, rfl⟩ := R2.shape)
  have B2 := B1.same g2
  have K2 := grownBy_trans G1 g2
  have hkm := R2.2.1
  clear o2 B1 Hc1
  go_loopw [7, 13] (fun s7 s13 wk => ∃ (j : Nat), j ≤ K.length ∧ s13 = .int .i64 j ∧ Own lnF 3 71 w2.heap.size wk s7 ((K.take j).map (lnOf c t l)) ∧ w2.grownBy wk none) (fun _ s13 _ => K.length - (intOf s13).toNat)
  case atStart => exact ⟨0, Nat.zero_le _, rfl, Own.nil _ _ _ _ _, grownBy_refl _ _⟩
  case round =>
    obtain ⟨j, hj, rfl, hO, hg⟩ := hrel
    have B3 := B2.same hg
    by_cases hjl : j < K.length
    · obtain ⟨gk, ok, ck, hvk, hgk, ck0⟩ := (R2.same hg).one strB_one hjl
      cases hvk
      have HT := Lib.hid (show (K.take (j + 1)).map (lnOf c t l) = (K.take j).map (lnOf c t l) ++ [lnOf c t l K[j]] by rw [take_succ hjl, List.map_append]; rfl)
      have hcl := Lib.hid (Hc2.out _ (List.getElem_mem hjl))
      have hlb := Lib.hid (Hln.out K[j])
      have hb1 : (((K.take j).map (lnOf c t l)).length + 1) * 32 ≤ 140737488355328 := by have := HKl.out; have := Hs.out; rw [List.length_map, List.length_take]; omega
      have hb2 : ((K.take j).map (lnOf c t l)).length + 1 ≤ 9223372036854775807 := by omega
      generalize (K.take j).map (lnOf c t l) = M at *
      have hbA : (⟨K[j].toArray⟩ : ByteArray) = bA K[j] := rfl
      rw [hbA] at ck0
      generalize lnOf c t l K[j] = x at *
      generalize bA K[j] = kk at *
      generalize (lineF c t l kk).1 = lo at *
      generalize (lineF c t l kk).2 = hi at *
      have hx := hlb.out
      subst hx
      clear hlb hbA
      go_upto_region 6 with (first | (refine load_cfg rfl _ rfl _ rfl c (by assumption) ?_) | (go_at_call 33; refine (hcl.out _ (grownBy_trans K2 hg)).mono ?_; rintro e w4 ⟨rfl, g4⟩; have O4 := hO.same g4; have G4 := grownBy_trans hg g4; have hsz := G4.size; have Hcs := Lib.hid (show (#[Value.string kk, .int .u64 lo, .int .u64 hi] : Array Value).toList = lnF ⟨kk, lo, hi⟩ from rfl)) | (at_builtin; refine app_one elt_ln one_ln lnF_len O4 ⟨kk, lo, hi⟩ hb1 hb2 hsz Hcs.out rfl (.tmp 17) (.tmp 23) rfl rfl rfl ?_; intro v5 w5 o5 g5 l5))
      have K5 := grown_own G4 O4 (Nat.le_refl _) g5
      go_wp2_with fail
      exact ⟨⟨j + 1, by omega, by go_num, by rw [HT.out]; exact o5, K5⟩, by simp [intOf]; omega⟩
    · have hke : K.take j = K := List.take_of_length_le (by omega)
      rw [hke] at hO
      go_wp2_with fail
      go_ret
      refine ⟨_, rfl, ?_, grownBy_trans K2 hg⟩
      rw [HA.out]
      exact hO.base fun k hk => Nat.le_trans K2.size (hO.lt k hk).1
end Go.Proofs.Ytiagjiaahnkefaa
