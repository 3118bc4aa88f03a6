/- Several texts in one file; each begins with a comment that says what is proved in it. -/
import Derived.Test.YtiagjiaahnkefaaBunAO
import Derived.Test.YtiagjiaahnkefaaBunAK
import Derived.Test.YtiagjiaahnkefaaBunAB
import Derived.Test.YtiagjiaahnkefaaBunAI
import Derived.Test.YtiagjiaahnkefaaBunAA
import Derived.Test.YtiagjiaahnkefaaBunAN
import Derived.Deep.RegionWith
import Derived.Deep.RegionLaw

/- What stands while a report is read: the result's block, the reader's, the report's. -/
namespace Go.Proofs.Ytiagjiaahnkefaa
open Go.RowKit Go.Sort

def decV (l : List UInt8) (vl vr : Value) : Rep := ⟨(decR l).win, (decR l).tot, vl, (decR l).over, (decR l).trk, (decR l).rest, vr, (decR l).lines, (decR l).rej⟩
def DecPost (l : List UInt8) (w : World) (en : Ending) (w' : World) : Prop :=
  ∃ vl vr, en = .returned (.tuple #[repV (decR l).win (decR l).tot vl (decR l).over (decR l).trk (decR l).rest vr, .int .i64 (decE l)]) ∧ RepRd w' (decV l vl vr) ∧ w.grownBy w' none
structure DecS (B g bx : Nat) (w0 : World) (x : Rep) (l : List UInt8) (e : Int) (w : World) : Prop where
  res : Blk w B rep0
  box : Blk w bx (repA x.win x.tot x.vl x.over x.trk x.rest x.vr)
  rdr : Rdr B w g l e
  ol : Own lnF 3 71 (bx + 1) w x.vl x.lines
  oj : Own wordF 1 22 (bx + 1) w x.vr x.rej
  ap : Apart x.vl x.vr
  G : w0.grownBy w none
  hB : w0.heap.size = B
  hg : B < g
  hb : g < bx
variable {B g bx : Nat} {w0 w w' : World} {x : Rep} {l l' : List UInt8} {e e' : Int}
theorem DecS.call (h : DecS B g bx w0 x l e w) (hr : Rdr B w' g l' e') (hg : w.grownBy w' (some g)) : DecS B g bx w0 x l' e' w' := by
  have h1 := h.hB
  have h2 := h.hg
  have h3 := h.hb
  exact ⟨h.res.kept hg (by simp; omega), h.box.kept hg (by simp; omega), hr, h.ol.kept hg (fun k hk e => by cases e; have := (h.ol.lt _ hk).1; omega), h.oj.kept hg (fun k hk e => by cases e; have := (h.oj.lt _ hk).1; omega), h.ap, grownBy_new h.G hg (by omega), h1, h2, h3⟩
theorem DecS.same (h : DecS B g bx w0 x l e w) (hg : w.grownBy w' none) : DecS B g bx w0 x l e w' :=
  ⟨h.res.same hg, h.box.same hg, h.rdr.same hg, h.ol.same hg, h.oj.same hg, h.ap, grownBy_trans h.G hg, h.hB, h.hg, h.hb⟩
/-- A field of the report is written. -/
theorem DecS.set (h : DecS B g bx w0 x l e w) (y : Rep) (i : Nat) (v : Value) (he : (repA x.win x.tot x.vl x.over x.trk x.rest x.vr).setIfInBounds i v = repA y.win y.tot y.vl y.over y.trk y.rest y.vr)
    (ol : Own lnF 3 71 (bx + 1) w y.vl y.lines) (oj : Own wordF 1 22 (bx + 1) w y.vr y.rej) (ap : Apart y.vl y.vr) : DecS B g bx w0 y l e (w.setCell ⟨bx, i, none⟩ v) := by
  have h1 := h.hB
  have h2 := h.hg
  have h3 := h.hb
  have hg : w.grownBy (w.setCell ⟨bx, i, none⟩ v) (some bx) := grownBy_set (grownBy_refl w (some bx)) i v
  exact ⟨h.res.kept hg (by simp; omega), h.box.set_ i v he, h.rdr.kept hg (by simp; omega) (fun k e => by cases e; omega), ol.kept hg (fun k hk e => by cases e; have := (ol.lt _ hk).1; omega), oj.kept hg (fun k hk e => by cases e; have := (oj.lt _ hk).1; omega), ap, grownBy_new h.G hg (by omega), h1, h2, h3⟩
/-- The reader's error is written. -/
theorem DecS.setE (h : DecS B g bx w0 x l e w) (f : Int) : DecS B g bx w0 x l f (w.setCell ⟨g, 1, none⟩ (.int .i64 f)) := h.call (h.rdr.setE f).1 (h.rdr.setE f).2
/-- A word is written. -/
theorem DecS.word (h : DecS B g bx w0 x l e w) {q n cap : Nat} (hv : x.vr = .slice (some ⟨q, 0, none⟩) n cap) {i : Nat} (hi : i < x.rej.length) (u : Int) :
    DecS B g bx w0 ⟨x.win, x.tot, x.vl, x.over, x.trk, x.rest, x.vr, x.lines, x.rej.set i u⟩ l e (w.setCell ⟨q, i, none⟩ (.int .u64 u)) := by
  have h1 := h.hB
  have h2 := h.hg
  have h3 := h.hb
  have ho := h.oj
  have hap := h.ap
  rw [hv] at ho hap
  have hlt := (ho.lt q rfl)
  have hs := ho.stored (fun _ => rfl) hi (j := 0) (by omega) (.int .u64 u) u rfl
  rw [Nat.mul_one, Nat.add_zero] at hs
  obtain ⟨hs1, hg⟩ := hs
  rw [← hv] at hs1
  exact ⟨h.res.kept hg (by simp; omega), h.box.kept hg (by simp; omega), h.rdr.kept hg (by simp; omega) (fun k e => by cases e; omega), h.ol.kept hg (fun k hk e => by cases e; exact hap _ hk rfl), hs1, h.ap, grownBy_new h.G hg (by omega), h1, h2, h3⟩
theorem DecS.wfree (h : DecS B g bx w0 x l e w) {q n cap : Nat} (hv : x.vr = .slice (some ⟨q, 0, none⟩) n cap) (hn : 0 < x.rej.length) (j : Nat) : w.frozen? ⟨q, j, none⟩ = false := by
  obtain ⟨g', c', hv2, _, _, _, _, hf⟩ := h.oj.at_ (fun _ => rfl) hn
  rw [hv] at hv2
  simp only [Value.slice.injEq, Option.some.injEq, Addr.mk.injEq, and_true] at hv2
  rw [hv2.1]; exact hf j
theorem DecS.wcell (h : DecS B g bx w0 x l e w) {q n cap : Nat} (hv : x.vr = .slice (some ⟨q, 0, none⟩) n cap) {i : Nat} (hi : i < x.rej.length) : w.cell? ⟨q, i, none⟩ = some (.int .u64 x.rej[i]) := by
  obtain ⟨g', c', hv2, _, _, _, hc, _⟩ := h.oj.at_ (fun _ => rfl) hi
  rw [hv] at hv2
  simp only [Value.slice.injEq, Option.some.injEq, Addr.mk.injEq, and_true] at hv2
  rw [hv2.1]
  have := hc 0 _ rfl
  simpa using this
/-- A line has been appended: the report's block before the field is written, and behind. -/
theorem DecS.app (h : DecS B g bx w0 x l e w) {v' : Value} {ls' : List Ln} (o' : Own lnF 3 71 (bx + 1) w' v' ls') (hg : w.grownBy w' x.vl.ownBlock) (hl : Lies x.vl v' w.heap.size) :
    Blk w' bx (repA x.win x.tot x.vl x.over x.trk x.rest x.vr) ∧ DecS B g bx w0 ⟨x.win, x.tot, v', x.over, x.trk, x.rest, x.vr, ls', x.rej⟩ l e (w'.setCell ⟨bx, 2, none⟩ v') := by
  have h1 := h.hB
  have h2 := h.hg
  have h3 := h.hb
  have hlo : ∀ k, x.vl.ownBlock = some k → bx + 1 ≤ k := fun k hk => (h.ol.lt k hk).1
  have hb := h.box.kept hg (fun e => by have := hlo _ e; omega)
  refine ⟨hb, ?_⟩
  have hj := h.oj.kept hg (fun k hk e => h.ap _ e hk)
  have hs : w'.grownBy (w'.setCell ⟨bx, 2, none⟩ v') (some bx) := grownBy_set (grownBy_refl w' (some bx)) 2 v'
  exact ⟨(h.res.kept hg (fun e => by have := hlo _ e; omega)).kept hs (by simp; omega), hb.set_ 2 v' rfl, (h.rdr.kept hg (fun e => by have := hlo _ e; omega) (fun k hk => by have := hlo _ hk; omega)).kept hs (by simp; omega) (fun k e => by cases e; omega),
    o'.kept hs (fun k hk e => by cases e; have := (o'.lt _ hk).1; omega), hj.kept hs (fun k hk e => by cases e; have := (hj.lt _ hk).1; omega), h.ap.app (fun k hk => (h.oj.lt k hk).2) hl, grownBy_new (grown_own h.G h.ol (by omega) hg) hs (by omega), h1, h2, h3⟩
/-- A word has been appended. -/
theorem DecS.appw (h : DecS B g bx w0 x l e w) {v' : Value} {rj' : List Int} (o' : Own wordF 1 22 (bx + 1) w' v' rj') (hg : w.grownBy w' x.vr.ownBlock) (hl : Lies x.vr v' w.heap.size) :
    Blk w' bx (repA x.win x.tot x.vl x.over x.trk x.rest x.vr) ∧ DecS B g bx w0 ⟨x.win, x.tot, x.vl, x.over, x.trk, x.rest, v', x.lines, rj'⟩ l e (w'.setCell ⟨bx, 6, none⟩ v') := by
  have h1 := h.hB
  have h2 := h.hg
  have h3 := h.hb
  have hlo : ∀ k, x.vr.ownBlock = some k → bx + 1 ≤ k := fun k hk => (h.oj.lt k hk).1
  have hb := h.box.kept hg (fun e => by have := hlo _ e; omega)
  refine ⟨hb, ?_⟩
  have hj := h.ol.kept hg (fun k hk e => h.ap.symm _ e hk)
  have hs : w'.grownBy (w'.setCell ⟨bx, 6, none⟩ v') (some bx) := grownBy_set (grownBy_refl w' (some bx)) 6 v'
  exact ⟨(h.res.kept hg (fun e => by have := hlo _ e; omega)).kept hs (by simp; omega), hb.set_ 6 v' rfl, (h.rdr.kept hg (fun e => by have := hlo _ e; omega) (fun k hk => by have := hlo _ hk; omega)).kept hs (by simp; omega) (fun k e => by cases e; omega),
    hj.kept hs (fun k hk e => by cases e; have := (hj.lt _ hk).1; omega), o'.kept hs (fun k hk e => by cases e; have := (o'.lt _ hk).1; omega), (h.ap.symm.app (fun k hk => (h.ol.lt k hk).2) hl).symm, grownBy_new (grown_own h.G h.oj (by omega) hg) hs (by omega), h1, h2, h3⟩
/-- What is kept of the lines and the words. -/
theorem DecS.rd (h : DecS B g bx w0 x l e w) : RepRd w x := ⟨h.ol.rd, h.oj.rd, fun a n c hv => by have := h.ol; rw [hv] at this; obtain ⟨_, _, hv2⟩ := this.shape; cases hv2; exact this.cap, fun a n c hv => by have := h.oj; rw [hv] at this; obtain ⟨_, _, hv2⟩ := this.shape; cases hv2; exact this.cap⟩
/-- The slices' rows stand when the result is written. -/
theorem RepRd.kept_own {N k : Nat} {x : Rep} (hl : Own lnF 3 71 N w x.vl x.lines) (hj : Own wordF 1 22 N w x.vr x.rej) (hg : w.grownBy w' (some k)) (hk : k < N) : RepRd w' x := by
  have hl' := hl.kept hg (fun q hq e => by cases e; have := (hl.lt _ hq).1; omega)
  have hj' := hj.kept hg (fun q hq e => by cases e; have := (hj.lt _ hq).1; omega)
  exact ⟨hl'.rd, hj'.rd, fun a n c hv => by rw [hv] at hl'; obtain ⟨_, _, hv2⟩ := hl'.shape; cases hv2; exact hl'.cap, fun a n c hv => by rw [hv] at hj'; obtain ⟨_, _, hv2⟩ := hj'.shape; cases hv2; exact hj'.cap⟩
/-- Where the slices stand says nothing of which error there is. -/
theorem repErr_v (x : Rep) (vl vr : Value) : repErr ⟨x.win, x.tot, vl, x.over, x.trk, x.rest, vr, x.lines, x.rej⟩ = repErr x := rfl
theorem decR_0 {l : List UInt8} (h : decE l ≠ 0) : decR l = repZ := if_neg h
theorem decR_1 {l : List UInt8} (h : decE l = 0) : decR l = (decD l).1 := if_pos h
/-- No report: the zero report. -/
theorem decPost_zero {E : Int} (hE : decE l = E) (h0 : E ≠ 0) (hg : w.grownBy w' none) : DecPost l w (.returned (.tuple #[repV 0 0 (.slice none 0 0) 0 0 0 (.slice none 0 0), .int .i64 E])) w' := by
  have hr := decR_0 (l := l) (by rw [hE]; exact h0)
  refine ⟨.slice none 0 0, .slice none 0 0, by rw [hr, hE]; rfl, ?_, hg⟩
  unfold decV
  rw [hr]
  exact ⟨(Own.nil lnF 3 71 0 w').rd, (Own.nil wordF 1 22 0 w').rd, fun a n c e => by cases e; omega, fun a n c e => by cases e; omega⟩
/-- Another block, made since, is written. -/
theorem DecS.other (h : DecS B g bx w0 x l e w) {k : Nat} (hg : w.grownBy w' (some k)) (hk : bx < k) (hl : ∀ q, x.vl.ownBlock = some q → q < k) (hr : ∀ q, x.vr.ownBlock = some q → q < k) : DecS B g bx w0 x l e w' := by
  have h1 := h.hB
  have h2 := h.hg
  have h3 := h.hb
  exact ⟨h.res.kept hg (by simp; omega), h.box.kept hg (by simp; omega), h.rdr.kept hg (by simp; omega) (fun q e => by cases e; omega), h.ol.kept hg (fun q hq e => by cases e; have := hl _ hq; omega), h.oj.kept hg (fun q hq e => by cases e; have := hr _ hq; omega), h.ap, grownBy_new h.G hg (by omega), h1, h2, h3⟩
theorem decPost_ok {x : Rep} (hE : decE l = 0) (hx : (decD l).1 = ⟨x.win, x.tot, .slice none 0 0, x.over, x.trk, x.rest, .slice none 0 0, x.lines, x.rej⟩) (hR : RepRd w' x) (hg : w.grownBy w' none) :
    DecPost l w (.returned (.tuple #[repV x.win x.tot x.vl x.over x.trk x.rest x.vr, .int .i64 0])) w' := by
  have hr := (decR_1 hE).trans hx
  refine ⟨x.vl, x.vr, by rw [hr, hE], ?_, hg⟩
  unfold decV
  rw [hr]
  exact hR
end Go.Proofs.Ytiagjiaahnkefaa

/- The program's reader of lines. -/
namespace Go.Proofs.Ytiagjiaahnkefaa
open Go.RowKit Go.Sort

def LineP (B g : Nat) (w : World) (F : Ln × List UInt8 × Int) (en : Ending) (w' : World) : Prop :=
  en = .returned (.agg #[.string F.1.key, .int .u64 F.1.lo, .int .u64 F.1.hi]) ∧ Rdr B w' g F.2.1 F.2.2 ∧ w.grownBy w' (some g)

set_option maxHeartbeats 2000000 in
set_option maxRecDepth 100000 in
theorem line_rd_c (B g : Nat) (l : List UInt8) (e : Int) (w : World) (h : Rdr B w g l e) :
    Calls Try.prog 60 #[.pointer (some ⟨g, 0, none⟩)] w (LineP B g w (lineD l e)) := by
  have HLD := Lib.hid (show lineD l e = lineR (keyD l e).1 (weiF (keyD l e).2.1 (keyD l e).2.2) (weiF (weiF (keyD l e).2.1 (keyD l e).2.2).2.1 (weiF (keyD l e).2.1 (keyD l e).2.2).2.2) from rfl)
  have HN := Lib.hid (show keyD l e = if (numF 255 4 l e).2.2 ≠ 0 then ([], (numF 255 4 l e).2.1, (numF 255 4 l e).2.2) else if (numF 255 4 l e).2.1.length < (numF 255 4 l e).1 then ([], (numF 255 4 l e).2.1, 2) else ((numF 255 4 l e).2.1.take (numF 255 4 l e).1, (numF 255 4 l e).2.1.drop (numF 255 4 l e).1, 0) from rfl)
  have HLE := Lib.hid (p := ∀ L E, E ≠ 0 → lineR [] (weiF L E) (weiF (weiF L E).2.1 (weiF L E).2.2) = (⟨⟨#[]⟩, 0, 0⟩, L, E)) (fun L E hE => by
    unfold lineR weiF
    rw [numF_e hE]
    simp only
    rw [numF_e hE]
    simp [hE, satA])
  obtain ⟨gb, hgb⟩ : ∃ gb, w.heap.size = gb := ⟨_, rfl⟩
  have hgl : g < gb := by obtain ⟨a, c, hb, -⟩ := h.ex; rw [← hgb]; exact hb.lt
  have B0 := Blk.new' w #[.string ⟨#[]⟩, .int .u64 0, .int .u64 0] 71 hgb.symm
  have h0 := h.same (World.grownBy_alloc w (.cells #[.string ⟨#[]⟩, .int .u64 0, .int .u64 0] 71) none)
  have G0 := Lib.hid (World.grownBy_alloc w (.cells #[.string ⟨#[]⟩, .int .u64 0, .int .u64 0] 71) none)
  have C := Lib.hid (num_c B g 255 4 l e _ h0 (by omega) (by omega))
  have hw := (numF_w (most := 255) (over := 4) (l := l) (e := e)).2
  clear h h0
  go_enter Try.func60, Try.ntmps60
  go_upto_region 1 with fail
  have HGB := Lib.hid hgb
  generalize w.alloc (.cells #[.string ⟨#[]⟩, .int .u64 0, .int .u64 0] 71) = w0 at *
  clear hgb
  generalize keyD l e = K at *
  obtain ⟨n, r, f, hF⟩ : ∃ n r f, numF 255 4 l e = (n, r, f) := ⟨_, _, _, rfl⟩
  rw [hF] at C HN hw
  clear hF
  dsimp only at hw
  have hwr : IntKind.i64.wrap (n : Int) = (n : Int) := IntWalk.i64_in _ (by omega)
  go_upto_region 2 with (go_at_call 58; refine C.out.mono ?_; rintro en w1 ⟨rfl, R, g1⟩)
  have hne : gb ≠ g := by omega
  have hne2 : g ≠ gb := by omega
  have B1 := B0.kept g1 (by simp; omega)
  have R2 := Lib.hid (R.setE 2)
  have R4 := Lib.hid R
  have KW := Lib.hid (grownBy_trans (grownBy_some G0.out (some g)) g1)
  obtain ⟨a, c, hb, hr, hlc, hab⟩ := R.ex
  have hgB := R.hg
  have hbl := hb.cell
  have hfr := hb.free
  have HB := Lib.hid hb
  have HR := Lib.hid hr
  have HA := Lib.hid hab
  have hz1 := B1.lt
  have HB1 := Lib.hid B1
  clear R hb g1 C hr hab B0 B1 G0 hwr
  by_cases hf : f = 0
  · subst hf
    by_cases hn : r.length < n
    · have hn2 : (r.length : Int) < (n : Int) := by omega
      have HF := Lib.hid (show lineD l e = (⟨⟨#[]⟩, 0, 0⟩, r, 2) by rw [HLD.out, HN.out.trans ((if_neg (by simp)).trans (if_pos hn))]; exact HLE.out r 2 (by decide))
      have hb1 := HB1.out.cell
      have hb2 := HB1.out.free
      clear HN hn R4 HB HR HA HLD HLE
      go_wp2_with fail
      have Bx := HB1.out.off hne2 1 (.int .i64 2)
      (have hWw5 : World.grownBy (w1.setCell ⟨g, 1, none⟩ (.int .i64 2)) ((((w1.setCell ⟨g, 1, none⟩ (.int .i64 2)).setCell ⟨gb, 0, none⟩ (.string ⟨#[]⟩)).setCell ⟨gb, 1, none⟩ (.int .u64 0)).setCell ⟨gb, 2, none⟩ (.int .u64 0)) (some gb) := grownBy_set (grownBy_set (grownBy_set (grownBy_refl _ _) _ _) _ _) _ _); (have hBw5 : Blk ((((w1.setCell ⟨g, 1, none⟩ (.int .i64 2)).setCell ⟨gb, 0, none⟩ (.string ⟨#[]⟩)).setCell ⟨gb, 1, none⟩ (.int .u64 0)).setCell ⟨gb, 2, none⟩ (.int .u64 0)) gb #[.string ⟨#[]⟩, .int .u64 0, .int .u64 0] := ((Blk.set_ (by assumption) 0 _ rfl).set_ 1 _ rfl).set_ 2 _ rfl); generalize (((w1.setCell ⟨g, 1, none⟩ (.int .i64 2)).setCell ⟨gb, 0, none⟩ (.string ⟨#[]⟩)).setCell ⟨gb, 1, none⟩ (.int .u64 0)).setCell ⟨gb, 2, none⟩ (.int .u64 0) = w5 at *
      have rc := hBw5.cell
      refine bodyPost_ret (v := .agg #[.string ⟨#[]⟩, .int .u64 0, .int .u64 0]) (by simp [results, Try.results60, go_sem, rc]) rfl ?_
      exact ⟨by rw [HF.out], by rw [HF.out]; exact R2.out.1.kept hWw5 (by simp; omega) (fun k e => by cases e; omega), grownBy_new (grownBy_trans KW.out R2.out.2) hWw5 (by rw [HGB.out]; exact Nat.le_refl _)⟩
    · have hn2 : (n : Int) ≤ (r.length : Int) := by omega
      have hn3 : (n : Int) ≤ (c : Int) := by omega
      have hn0 : (0 : Int) ≤ (n : Int) := by omega
      have hlc2 : (r.length : Int) ≤ (c : Int) := by omega
      have HF := Lib.hid (show lineD l e = lineR (r.take n) (weiF (r.drop n) 0) (weiF (weiF (r.drop n) 0).2.1 (weiF (r.drop n) 0).2.2) by rw [HLD.out, HN.out.trans ((if_neg (by simp)).trans (if_neg hn))])
      have hcv := conv_by (RdL.take byF_len HR.out (k := n) (by omega) c)
      clear HN HLD HLE R2
      have HHn := Lib.hid hn
      have HF0 := Lib.hid hlc
      clear hn hlc
      go_upto_region 7 with fail
      clear hcv hbl hfr
      have A2 := Blk.new w1 #[.string ⟨(r.take n).toArray⟩, .int .u64 0, .int .u64 0] 71
      have G2 := World.grownBy_alloc w1 (.cells #[.string ⟨(r.take n).toArray⟩, .int .u64 0, .int .u64 0] 71) none
      generalize w1.alloc (.cells #[.string ⟨(r.take n).toArray⟩, .int .u64 0, .int .u64 0] 71) = w2 at *
      generalize w1.heap.size = b4 at *
      have hb4 : gb ≠ b4 := by omega
      have hb5 : g ≠ b4 := by omega
      obtain ⟨R5, g5⟩ := Rdr.setB (HB.out.same G2) (HR.out.same G2) HF0.out HA.out hgB (k := n) (by have := HHn.out; omega)
      have KW2 := Lib.hid (grownBy_trans KW.out (grownBy_some G2 (some g)))
      have HR5 := Lib.hid R5
      have HG5 := Lib.hid g5
      have hbl := (HB.out.same G2).cell
      have hfr := (HB.out.same G2).free
      have HA2 := Lib.hid A2
      have HB2 := Lib.hid (HB1.out.same G2)
      clear R5 g5 A2 G2 HB HR HA R4 HB1 KW
      go_upto_region 8 with fail
      clear hbl hfr
      have KZ := Lib.hid (grownBy_trans KW2.out HG5.out)
      have HAz := Lib.hid (HA2.out.kept HG5.out (by simp; omega))
      have HBz := Lib.hid (HB2.out.kept HG5.out (by simp; omega))
      have HRz := Lib.hid HR5.out
      clear KW2 HG5 HA2 HB2 HR5
      generalize (if c = n then a else a.map (·.add n)) = od at *
      generalize w2.setCell ⟨g, 0, none⟩ (.slice od (r.length - n) (c - n)) = z at *
      generalize r.take n = k at *
      generalize r.drop n = q at *
      have C1 := Lib.hid (weight_c B g q 0 z HRz.out)
      have hw1 := wei_w q 0
      clear hlc2 hn0 hn2 hn3 HHn HF0 HRz hw
      obtain ⟨n1, r1, f1, hX1⟩ : ∃ n1 r1 f1, weiF q 0 = (n1, r1, f1) := ⟨_, _, _, rfl⟩
      rw [hX1] at C1 HF hw1
      clear hX1
      dsimp only at hw1 HF
      have hgbw : w.heap.size ≤ b4 := by rw [HGB.out]; omega
      have hBb4 : B ≤ b4 := by omega
      have C2 := Lib.hid fun w' (h : Rdr B w' g r1 f1) => weight_c B g r1 f1 w' h
      have hw2 := wei_w r1 f1
      obtain ⟨n2, r2, f2, hX2⟩ : ∃ n2 r2 f2, weiF r1 f1 = (n2, r2, f2) := ⟨_, _, _, rfl⟩
      rw [hX2] at C2 HF hw2
      clear hX2
      dsimp only at hw2 HF
      go_upto_region 9 with (go_at_call 59; refine C1.out.mono ?_; rintro en w3 ⟨rfl, R3, g3⟩; have A3 := HAz.out.kept g3 (by simp; omega); have ac := A3.cell; have af := A3.free)
      clear ac af C1
      have g4 : w3.grownBy (w3.setCell ⟨b4, 1, none⟩ (.int .u64 n1)) (some b4) := grownBy_set (grownBy_refl w3 (some b4)) 1 (.int .u64 n1)
      have A4 := Lib.hid (A3.set_ 1 (.int .u64 n1) rfl)
      have B4 := Lib.hid ((HBz.out.kept g3 (by simp; omega)).off (Ne.symm hb4) 1 (.int .u64 n1))
      have R4 := Lib.hid (R3.kept g4 (by simp; omega) (fun k e => by cases e; exact hBb4))
      have K4 := Lib.hid (grownBy_new (grownBy_trans KZ.out g3) g4 hgbw)
      clear R3 A3 g3 g4 HAz HBz KZ
      generalize w3.setCell ⟨b4, 1, none⟩ (.int .u64 n1) = w4 at *
      go_upto_region 10 with (go_at_call 59; refine (C2.out _ R4.out).mono ?_; rintro en w5 ⟨rfl, R5, g5⟩)
      have A5 := Lib.hid (A4.out.kept g5 (by simp; omega))
      have B5 := Lib.hid (B4.out.kept g5 (by simp; omega))
      have K5 := Lib.hid (grownBy_trans K4.out g5)
      have HR5 := Lib.hid R5
      clear R5 g5 A4 B4 R4 K4 C2
      have C3 := Lib.hid (satAdd_c n1 n2 w5 hw1 hw2)
      have ac := A5.out.cell
      go_upto_region 11 with (go_at_call 52; refine C3.out.mono ?_; rintro en w6 ⟨rfl, rfl⟩)
      clear C3
      have HS := Lib.hid (show fitA (n1 : Int) n2 = decide ((n1 : Int) + n2 ≤ 18446744073709551615) from rfl)
      obtain ⟨sm, hsm⟩ : ∃ sm, satA (n1 : Int) n2 = sm := ⟨_, rfl⟩
      have HSM := Lib.hid hsm
      rw [hsm]
      clear hsm
      obtain ⟨ft, hft⟩ : ∃ ft, fitA (n1 : Int) n2 = ft := ⟨_, rfl⟩
      rw [hft] at HS ⊢
      clear hft
      obtain ⟨a5, c5, hb5', -, -, -⟩ := HR5.out.ex
      have bc := hb5'.cell
      have bf := hb5'.free
      have af := A5.out.free
      have tc := B5.out.cell
      have tf := B5.out.free
      clear hb5'
      have R6 := Lib.hid (HR5.out.setE 1)
      by_cases hx : f2 = 0
      · subst hx
        cases ft
        · have HL := Lib.hid (show lineD l e = (⟨⟨k.toArray⟩, n1, sm⟩, r2, 1) by
            rw [HF.out]; unfold lineR; simp only [HSM.out]
            have := HS.out
            rw [if_pos ⟨trivial, by simpa using this⟩])
          clear HF HS
          go_wp2_with fail
          have Ax := A5.out
          have g7 : World.grownBy ((w5.setCell ⟨g, 1, none⟩ (.int .i64 1))) (((w5.setCell ⟨g, 1, none⟩ (.int .i64 1))).setCell ⟨b4, 2, none⟩ (.int .u64 sm)) (some b4) := grownBy_set (grownBy_refl _ (some b4)) 2 _
          have R7 := (R6.out.1).kept g7 (by simp; omega) (fun k e => by cases e; exact hBb4)
          have K7 := grownBy_new (grownBy_trans K5.out R6.out.2) g7 hgbw
          have Bx := (B5.out.off hne2 1 (.int .i64 1)).off (Ne.symm hb4) 2 (.int .u64 sm)
          (have hWw9 : World.grownBy (((w5.setCell ⟨g, 1, none⟩ (.int .i64 1))).setCell ⟨b4, 2, none⟩ (.int .u64 sm)) ((((((w5.setCell ⟨g, 1, none⟩ (.int .i64 1))).setCell ⟨b4, 2, none⟩ (.int .u64 sm)).setCell ⟨gb, 0, none⟩ (.string ⟨k.toArray⟩)).setCell ⟨gb, 1, none⟩ (.int .u64 n1)).setCell ⟨gb, 2, none⟩ (.int .u64 sm)) (some gb) := grownBy_set (grownBy_set (grownBy_set (grownBy_refl _ _) _ _) _ _) _ _); (have hBw9 : Blk ((((((w5.setCell ⟨g, 1, none⟩ (.int .i64 1))).setCell ⟨b4, 2, none⟩ (.int .u64 sm)).setCell ⟨gb, 0, none⟩ (.string ⟨k.toArray⟩)).setCell ⟨gb, 1, none⟩ (.int .u64 n1)).setCell ⟨gb, 2, none⟩ (.int .u64 sm)) gb #[.string ⟨k.toArray⟩, .int .u64 n1, .int .u64 sm] := ((Blk.set_ (by assumption) 0 _ rfl).set_ 1 _ rfl).set_ 2 _ rfl); generalize (((((w5.setCell ⟨g, 1, none⟩ (.int .i64 1))).setCell ⟨b4, 2, none⟩ (.int .u64 sm)).setCell ⟨gb, 0, none⟩ (.string ⟨k.toArray⟩)).setCell ⟨gb, 1, none⟩ (.int .u64 n1)).setCell ⟨gb, 2, none⟩ (.int .u64 sm) = w9 at *
          have rc := hBw9.cell
          refine bodyPost_ret (v := .agg #[.string ⟨k.toArray⟩, .int .u64 n1, .int .u64 sm]) (by simp [results, Try.results60, go_sem, rc]) rfl ?_
          exact ⟨by rw [HL.out], by rw [HL.out]; exact R7.kept hWw9 (by simp; omega) (fun k e => by cases e; omega), grownBy_new K7 hWw9 (by rw [HGB.out]; exact Nat.le_refl _)⟩
        · have HL := Lib.hid (show lineD l e = (⟨⟨k.toArray⟩, n1, sm⟩, r2, 0) by
            rw [HF.out]; unfold lineR; simp only [HSM.out]
            have := HS.out
            rw [if_neg (by simp at this; omega)])
          clear HF HS R6
          go_wp2_with fail
          have Ax := A5.out
          have g7 : World.grownBy (w5) ((w5).setCell ⟨b4, 2, none⟩ (.int .u64 sm)) (some b4) := grownBy_set (grownBy_refl _ (some b4)) 2 _
          have R7 := (HR5.out).kept g7 (by simp; omega) (fun k e => by cases e; exact hBb4)
          have K7 := grownBy_new (K5.out) g7 hgbw
          have Bx := (B5.out).off (Ne.symm hb4) 2 (.int .u64 sm)
          (have hWw9 : World.grownBy ((w5).setCell ⟨b4, 2, none⟩ (.int .u64 sm)) (((((w5).setCell ⟨b4, 2, none⟩ (.int .u64 sm)).setCell ⟨gb, 0, none⟩ (.string ⟨k.toArray⟩)).setCell ⟨gb, 1, none⟩ (.int .u64 n1)).setCell ⟨gb, 2, none⟩ (.int .u64 sm)) (some gb) := grownBy_set (grownBy_set (grownBy_set (grownBy_refl _ _) _ _) _ _) _ _); (have hBw9 : Blk (((((w5).setCell ⟨b4, 2, none⟩ (.int .u64 sm)).setCell ⟨gb, 0, none⟩ (.string ⟨k.toArray⟩)).setCell ⟨gb, 1, none⟩ (.int .u64 n1)).setCell ⟨gb, 2, none⟩ (.int .u64 sm)) gb #[.string ⟨k.toArray⟩, .int .u64 n1, .int .u64 sm] := ((Blk.set_ (by assumption) 0 _ rfl).set_ 1 _ rfl).set_ 2 _ rfl); generalize ((((w5).setCell ⟨b4, 2, none⟩ (.int .u64 sm)).setCell ⟨gb, 0, none⟩ (.string ⟨k.toArray⟩)).setCell ⟨gb, 1, none⟩ (.int .u64 n1)).setCell ⟨gb, 2, none⟩ (.int .u64 sm) = w9 at *
          have rc := hBw9.cell
          refine bodyPost_ret (v := .agg #[.string ⟨k.toArray⟩, .int .u64 n1, .int .u64 sm]) (by simp [results, Try.results60, go_sem, rc]) rfl ?_
          exact ⟨by rw [HL.out], by rw [HL.out]; exact R7.kept hWw9 (by simp; omega) (fun k e => by cases e; omega), grownBy_new K7 hWw9 (by rw [HGB.out]; exact Nat.le_refl _)⟩
      · have hx2 : (f2 == 0) = false := by simp [hx]
        have HL := Lib.hid (show lineD l e = (⟨⟨k.toArray⟩, n1, sm⟩, r2, f2) by
          rw [HF.out]; unfold lineR; simp only [HSM.out]
          rw [if_neg (fun h => hx h.1)])
        clear HF HS hx R6
        go_wp2_with fail
        have Ax := A5.out
        have g7 : World.grownBy (w5) ((w5).setCell ⟨b4, 2, none⟩ (.int .u64 sm)) (some b4) := grownBy_set (grownBy_refl _ (some b4)) 2 _
        have R7 := (HR5.out).kept g7 (by simp; omega) (fun k e => by cases e; exact hBb4)
        have K7 := grownBy_new (K5.out) g7 hgbw
        have Bx := (B5.out).off (Ne.symm hb4) 2 (.int .u64 sm)
        (have hWw9 : World.grownBy ((w5).setCell ⟨b4, 2, none⟩ (.int .u64 sm)) (((((w5).setCell ⟨b4, 2, none⟩ (.int .u64 sm)).setCell ⟨gb, 0, none⟩ (.string ⟨k.toArray⟩)).setCell ⟨gb, 1, none⟩ (.int .u64 n1)).setCell ⟨gb, 2, none⟩ (.int .u64 sm)) (some gb) := grownBy_set (grownBy_set (grownBy_set (grownBy_refl _ _) _ _) _ _) _ _); (have hBw9 : Blk (((((w5).setCell ⟨b4, 2, none⟩ (.int .u64 sm)).setCell ⟨gb, 0, none⟩ (.string ⟨k.toArray⟩)).setCell ⟨gb, 1, none⟩ (.int .u64 n1)).setCell ⟨gb, 2, none⟩ (.int .u64 sm)) gb #[.string ⟨k.toArray⟩, .int .u64 n1, .int .u64 sm] := ((Blk.set_ (by assumption) 0 _ rfl).set_ 1 _ rfl).set_ 2 _ rfl); generalize ((((w5).setCell ⟨b4, 2, none⟩ (.int .u64 sm)).setCell ⟨gb, 0, none⟩ (.string ⟨k.toArray⟩)).setCell ⟨gb, 1, none⟩ (.int .u64 n1)).setCell ⟨gb, 2, none⟩ (.int .u64 sm) = w9 at *
        have rc := hBw9.cell
        refine bodyPost_ret (v := .agg #[.string ⟨k.toArray⟩, .int .u64 n1, .int .u64 sm]) (by simp [results, Try.results60, go_sem, rc]) rfl ?_
        exact ⟨by rw [HL.out], by rw [HL.out]; exact R7.kept hWw9 (by simp; omega) (fun k e => by cases e; omega), grownBy_new K7 hWw9 (by rw [HGB.out]; exact Nat.le_refl _)⟩
  · have hf1 : (f != 0) = true := by simp [hf]
    have hf2 : (f == 0) = false := by simp [hf]
    have HF := Lib.hid (show lineD l e = (⟨⟨#[]⟩, 0, 0⟩, r, f) by rw [HLD.out, HN.out.trans (if_pos hf)]; exact HLE.out r f hf)
    have hb1 := HB1.out.cell
    have hb2 := HB1.out.free
    clear HN hf R2 HB HR HA HLD HLE
    go_wp2_with fail
    have Bx := HB1.out
    (have hWw5 : World.grownBy w1 (((w1.setCell ⟨gb, 0, none⟩ (.string ⟨#[]⟩)).setCell ⟨gb, 1, none⟩ (.int .u64 0)).setCell ⟨gb, 2, none⟩ (.int .u64 0)) (some gb) := grownBy_set (grownBy_set (grownBy_set (grownBy_refl _ _) _ _) _ _) _ _); (have hBw5 : Blk (((w1.setCell ⟨gb, 0, none⟩ (.string ⟨#[]⟩)).setCell ⟨gb, 1, none⟩ (.int .u64 0)).setCell ⟨gb, 2, none⟩ (.int .u64 0)) gb #[.string ⟨#[]⟩, .int .u64 0, .int .u64 0] := ((Blk.set_ (by assumption) 0 _ rfl).set_ 1 _ rfl).set_ 2 _ rfl); generalize ((w1.setCell ⟨gb, 0, none⟩ (.string ⟨#[]⟩)).setCell ⟨gb, 1, none⟩ (.int .u64 0)).setCell ⟨gb, 2, none⟩ (.int .u64 0) = w5 at *
    have rc := hBw5.cell
    refine bodyPost_ret (v := .agg #[.string ⟨#[]⟩, .int .u64 0, .int .u64 0]) (by simp [results, Try.results60, go_sem, rc]) rfl ?_
    exact ⟨by rw [HF.out], by rw [HF.out]; exact R4.out.kept hWw5 (by simp; omega) (fun k e => by cases e; omega), grownBy_new KW.out hWw5 (by rw [HGB.out]; exact Nat.le_refl _)⟩
end Go.Proofs.Ytiagjiaahnkefaa

/- The report of bytes: the program's Decode. -/
namespace Go.Proofs.Ytiagjiaahnkefaa
open Go.RowKit Go.Sort

set_option maxHeartbeats 2000000 in
set_option maxRecDepth 100000 in
theorem dec_c (v : Value) (l : List UInt8) (w : World) (h : RdL byF 1 w v l) (hc : ∀ a n c, v = .slice a n c → n ≤ c) : Calls Try.prog 21 #[v] w (DecPost l w) := by
  obtain ⟨a, c, rfl⟩ := h.shape
  have hlc := hc _ _ _ rfl
  obtain ⟨n1, l1, e1, X1⟩ : ∃ n r e, numF 1099511627776 1 l 0 = (n, r, e) := ⟨_, _, _, rfl⟩
  obtain ⟨n2, l2, e2, X2⟩ : ∃ n r e, weiF l1 e1 = (n, r, e) := ⟨_, _, _, rfl⟩
  obtain ⟨n3, l3, e3, X3⟩ : ∃ n r e, weiF l2 e2 = (n, r, e) := ⟨_, _, _, rfl⟩
  obtain ⟨n4, l4, e4, X4⟩ : ∃ n r e, numF 1099511627776 1 l3 e3 = (n, r, e) := ⟨_, _, _, rfl⟩
  obtain ⟨n5, l5, e5, X5⟩ : ∃ n r e, weiF l4 e4 = (n, r, e) := ⟨_, _, _, rfl⟩
  obtain ⟨n7, l7, e7, X7⟩ : ∃ n r e, numF 64 7 (wordsD 6 l5 e5).2.1 (wordsD 6 l5 e5).2.2 = (n, r, e) := ⟨_, _, _, rfl⟩
  have HD := Lib.hid (show decD l = (⟨n1, n2, .slice none 0 0, n3, n4, n5, .slice none 0 0, (linesD n7 l7 e7).1, 0 :: (wordsD 6 l5 e5).1⟩, (linesD n7 l7 e7).2) by unfold decD; simp only [X1, X2, X3, X4, X5, X7])
  have C1 := Lib.hid fun (g : Nat) w' (h : Rdr w.heap.size w' g l 0) => X1 ▸ num_c w.heap.size g 1099511627776 1 l 0 w' h (by omega) (by omega)
  have C2 := Lib.hid fun (g : Nat) w' (h : Rdr w.heap.size w' g l1 e1) => X2 ▸ weight_c w.heap.size g l1 e1 w' h
  have C3 := Lib.hid fun (g : Nat) w' (h : Rdr w.heap.size w' g l2 e2) => X3 ▸ weight_c w.heap.size g l2 e2 w' h
  have C4 := Lib.hid fun (g : Nat) w' (h : Rdr w.heap.size w' g l3 e3) => X4 ▸ num_c w.heap.size g 1099511627776 1 l3 e3 w' h (by omega) (by omega)
  have C5 := Lib.hid fun (g : Nat) w' (h : Rdr w.heap.size w' g l4 e4) => X5 ▸ weight_c w.heap.size g l4 e4 w' h
  have C7 := Lib.hid fun (g : Nat) w' (h : Rdr w.heap.size w' g (wordsD 6 l5 e5).2.1 (wordsD 6 l5 e5).2.2) => X7 ▸ num_c w.heap.size g 64 7 _ _ w' h (by omega) (by omega)
  have hn1 : n1 ≤ 1099511627776 := by have := (numF_w (most := 1099511627776) (over := 1) (l := l) (e := 0)).2; rw [X1] at this; exact this
  have hn4 : n4 ≤ 1099511627776 := by have := (numF_w (most := 1099511627776) (over := 1) (l := l3) (e := e3)).2; rw [X4] at this; exact this
  have hn7 : n7 ≤ 64 := by have := (numF_w (most := 64) (over := 7) (l := (wordsD 6 l5 e5).2.1) (e := (wordsD 6 l5 e5).2.2)).2; rw [X7] at this; exact this
  have hwr1 : IntKind.i64.wrap (n1 : Int) = (n1 : Int) := IntWalk.i64_in _ (by omega)
  have hwr4 : IntKind.i64.wrap (n4 : Int) = (n4 : Int) := IntWalk.i64_in _ (by omega)
  clear X1 X2 X3 X4 X5 X7
  have H := Lib.hid h
  clear h hc
  go_enter Try.func21, Try.ntmps21
  go_upto_region 1 with (refine alloc_rep rfl rfl ?_; intro wa Aa ga za)
  (try simp only [Act.put, List.setIfInBounds_toArray, List.set_cons_zero, List.set_cons_succ])
  go_upto_region 2 with fail
  have Bb := Blk.new wa #[.slice a l.length c, .int .i64 0] 110
  have gb := World.grownBy_alloc wa (.cells #[.slice a l.length c, .int .i64 0] 110) none
  have zb : wa.heap.size < (wa.alloc (.cells #[.slice a l.length c, .int .i64 0] 110)).heap.size := by simp
  generalize wa.alloc (.cells #[.slice a l.length c, .int .i64 0] 110) = wb at *
  generalize wa.heap.size = g at *
  go_upto_region 3 with (refine alloc_rep rfl rfl ?_; intro wc Ac gc zc)
  simp only [Act.put, List.setIfInBounds_toArray, List.set_cons_zero, List.set_cons_succ]
  have D0 := Lib.hid (show DecS w.heap.size g wb.heap.size w ⟨0, 0, .slice none 0 0, 0, 0, 0, .slice none 0 0, [], []⟩ l 0 wc from
    ⟨(Aa.same gb).same gc, Ac, (Rdr.new H.out hlc Bb (grownBy_trans ga gb) (by omega)).same gc, Own.nil _ _ _ _ _, Own.nil _ _ _ _ _, apart_nil _, grownBy_trans (grownBy_trans ga gb) gc, rfl, za, zb⟩)
  clear Aa ga za Bb gb zb Ac gc zc H
  generalize wb.heap.size = bx at *
  go_upto_region 4 with (go_at_call 58; refine ((C1).out _ _ (D0).out.rdr).mono ?_; rintro en wx ⟨rfl, Rx, gx⟩; have Dx := (D0).out.call Rx gx; have ac := Dx.box.cell; have af := Dx.box.free)
  have D1 := Lib.hid (Dx.set ⟨n1, 0, .slice none 0 0, 0, 0, 0, .slice none 0 0, [], []⟩ 0 (.int .i64 n1) rfl Dx.ol Dx.oj Dx.ap)
  clear Dx Rx gx ac af C1 D0
  generalize wx.setCell ⟨bx, 0, none⟩ (.int .i64 n1) = w1 at *
  clear wx
  go_upto_region 5 with (go_at_call 59; refine ((C2).out _ _ (D1).out.rdr).mono ?_; rintro en wx ⟨rfl, Rx, gx⟩; have Dx := (D1).out.call Rx gx; have ac := Dx.box.cell; have af := Dx.box.free)
  have D2 := Lib.hid (Dx.set ⟨n1, n2, .slice none 0 0, 0, 0, 0, .slice none 0 0, [], []⟩ 1 (.int .u64 n2) rfl Dx.ol Dx.oj Dx.ap)
  clear Dx Rx gx ac af C2 D1
  generalize wx.setCell ⟨bx, 1, none⟩ (.int .u64 n2) = w2 at *
  clear wx
  go_upto_region 6 with (go_at_call 59; refine ((C3).out _ _ (D2).out.rdr).mono ?_; rintro en wx ⟨rfl, Rx, gx⟩; have Dx := (D2).out.call Rx gx; have ac := Dx.box.cell; have af := Dx.box.free)
  have D3 := Lib.hid (Dx.set ⟨n1, n2, .slice none 0 0, n3, 0, 0, .slice none 0 0, [], []⟩ 3 (.int .u64 n3) rfl Dx.ol Dx.oj Dx.ap)
  clear Dx Rx gx ac af C3 D2
  generalize wx.setCell ⟨bx, 3, none⟩ (.int .u64 n3) = w3 at *
  clear wx
  go_upto_region 7 with (go_at_call 58; refine ((C4).out _ _ (D3).out.rdr).mono ?_; rintro en wx ⟨rfl, Rx, gx⟩; have Dx := (D3).out.call Rx gx; have ac := Dx.box.cell; have af := Dx.box.free)
  have D4 := Lib.hid (Dx.set ⟨n1, n2, .slice none 0 0, n3, n4, 0, .slice none 0 0, [], []⟩ 4 (.int .i64 n4) rfl Dx.ol Dx.oj Dx.ap)
  clear Dx Rx gx ac af C4 D3
  generalize wx.setCell ⟨bx, 4, none⟩ (.int .i64 n4) = w4 at *
  clear wx
  go_upto_region 8 with (go_at_call 59; refine ((C5).out _ _ (D4).out.rdr).mono ?_; rintro en wx ⟨rfl, Rx, gx⟩; have Dx := (D4).out.call Rx gx; have ac := Dx.box.cell; have af := Dx.box.free)
  have D5 := Lib.hid (Dx.set ⟨n1, n2, .slice none 0 0, n3, n4, n5, .slice none 0 0, [], []⟩ 5 (.int .u64 n5) rfl Dx.ol Dx.oj Dx.ap)
  clear Dx Rx gx ac af C5 D4
  generalize wx.setCell ⟨bx, 5, none⟩ (.int .u64 n5) = w5 at *
  clear wx
  have hmk : ∀ w, (Instr.makeSlice 24 (.int .i64 7) (.int .i64 7)).run Try.prog w = .ok (.slice (some ⟨w.heap.size, 0, none⟩) 7 7) (w.alloc (.cells #[.int .u64 0, .int .u64 0, .int .u64 0, .int .u64 0, .int .u64 0, .int .u64 0, .int .u64 0] 22)) := fun _ => by kernel_rfl
  have gm := World.grownBy_alloc w5 (.cells #[.int .u64 0, .int .u64 0, .int .u64 0, .int .u64 0, .int .u64 0, .int .u64 0, .int .u64 0] 22) none
  have Dm := D5.out.same gm
  have ac := Dm.box.cell
  have af := Dm.box.free
  have om : Own wordF 1 22 (bx + 1) (w5.alloc (.cells #[.int .u64 0, .int .u64 0, .int .u64 0, .int .u64 0, .int .u64 0, .int .u64 0, .int .u64 0] 22)) (.slice (some ⟨w5.heap.size, 0, none⟩) 7 7) [0, 0, 0, 0, 0, 0, 0] :=
    ⟨by simp [cellsOf, wordF], .inr ⟨w5.heap.size, 7, _, rfl, D5.out.box.lt, heap_alloc_new w5 _, by simp, by unfold maxLen; omega, by simp, by simp [cellsOf, wordF]⟩⟩
  go_upto_region 10 with fail
  have D6 := Lib.hid (Dm.set ⟨n1, n2, .slice none 0 0, n3, n4, n5, .slice (some ⟨w5.heap.size, 0, none⟩) 7 7, [], [0, 0, 0, 0, 0, 0, 0]⟩ 6 (.slice (some ⟨w5.heap.size, 0, none⟩) 7 7) rfl Dm.ol om (apart_nil _))
  clear ac af om Dm gm hmk D5
  generalize (w5.alloc (.cells #[.int .u64 0, .int .u64 0, .int .u64 0, .int .u64 0, .int .u64 0, .int .u64 0, .int .u64 0] 22)).setCell ⟨bx, 6, none⟩ (.slice (some ⟨w5.heap.size, 0, none⟩) 7 7) = w6 at *
  generalize w5.heap.size = q at *
  have hwr : ∀ k : Nat, k ≤ 6 → (0 :: (wordsD k l5 e5).1 ++ List.replicate (6 - k) (0 : Int)).length = 7 := by intro k hk; rw [List.length_append, List.length_cons, words_len, List.length_replicate]; omega
  go_loopw [6] (fun s6 wk => ∃ k : Nat, k ≤ 6 ∧ s6 = .int .i64 ((k + 1 : Nat) : Int) ∧ DecS w.heap.size g bx w ⟨n1, n2, .slice none 0 0, n3, n4, n5, .slice (some ⟨q, 0, none⟩) 7 7, [], 0 :: (wordsD k l5 e5).1 ++ List.replicate (6 - k) 0⟩ (wordsD k l5 e5).2.1 (wordsD k l5 e5).2.2 wk) (fun s6 _ => 7 - (intOf s6).toNat)
  case atStart => exact ⟨0, by omega, rfl, D6.out⟩
  case round =>
    clear D6
    obtain ⟨k, hk, rfl, hD⟩ := hrel
    have HDk := Lib.hid hD
    clear hD
    by_cases hlt : k < 6
    · have hW := hwr k hk
      have HS := Lib.hid (show (0 :: (wordsD k l5 e5).1 ++ List.replicate (6 - k) (0 : Int)).set (k + 1) ((weiF (wordsD k l5 e5).2.1 (wordsD k l5 e5).2.2).1 : Int) = 0 :: (wordsD (k + 1) l5 e5).1 ++ List.replicate (6 - (k + 1)) 0 by
        simp only [wordsD, List.cons_append, List.set_cons_succ]
        rw [List.set_append_right _ _ (by rw [words_len]; exact Nat.le_refl _), words_len, Nat.sub_self, show 6 - k = (6 - (k + 1)) + 1 by omega, List.replicate_succ, List.set_cons_zero, List.append_assoc]
        rfl)
      have HT := Lib.hid (show (weiF (wordsD k l5 e5).2.1 (wordsD k l5 e5).2.2).2 = (wordsD (k + 1) l5 e5).2 from rfl)
      clear hwr
      generalize (0 :: (wordsD k l5 e5).1 ++ List.replicate (6 - k) (0 : Int)) = RJ at *
      generalize wordsD k l5 e5 = WD at *
      obtain ⟨nk, lk, ek, hXk⟩ : ∃ n r e, weiF WD.2.1 WD.2.2 = (n, r, e) := ⟨_, _, _, rfl⟩
      have Ck := Lib.hid fun w' (h : Rdr w.heap.size w' g WD.2.1 WD.2.2) => hXk ▸ weight_c w.heap.size g _ _ w' h
      rw [hXk] at HS HT
      clear hXk
      have Dd := HDk.out.same (w' := wr.drew) (by (repeat (first | exact grownBy_refl _ _ | assumption | refine grownBy_new_block ?_ _ | refine grownBy_drew ?_ | refine grownBy_drewN ?_ _ | refine grownBy_setNew ?_ (by first | (simp; done) | omega | (simp; omega)) _)))
      have ac := Dd.box.cell
      have hk1 : ((k + 1 : Nat) : Int) ≤ 6 := by omega
      have hk2 : (0 : Int) ≤ ((k + 1 : Nat) : Int) := by omega
      have hk3 : ((k + 1 : Nat) : Int) < 7 := by omega
      have HDd := Lib.hid Dd
      clear Dd HDk
      go_wp2_with fail
      go_region_with (go_at_call 59; refine (Ck.out _ HDd.out.rdr).mono ?_; rintro en wx ⟨rfl, Rx, gx⟩; have Dx := HDd.out.call Rx gx; have axc := Dx.box.cell; have axf := Dx.wfree rfl (show 0 < RJ.length by omega); have axg := Dx.wcell rfl (show k + 1 < RJ.length by omega))
      all_goals
        have Dw := Dx.word rfl (show k + 1 < RJ.length by omega) nk
        have HL := congrArg Prod.fst HT.out
        have HE := congrArg Prod.snd HT.out
        dsimp only at HL HE Dw
        rw [HS.out, HL, HE] at Dw
        have HDw := Lib.hid Dw
        clear Dw Dx axc axf axg Rx gx ac HDd HL HE HS HT Ck
        generalize wx.setCell ⟨q, k + 1, none⟩ (.int .u64 nk) = wz at *
        go_wp2_with fail
        exact ⟨⟨k + 1, by omega, by go_num, HDw.out⟩, by simp [intOf]; omega⟩
    · obtain rfl : k = 6 := by omega
      clear hlt hk
      have HRJ := Lib.hid (show 0 :: (wordsD 6 l5 e5).1 ++ List.replicate (6 - 6) (0 : Int) = 0 :: (wordsD 6 l5 e5).1 by simp)
      rw [HRJ.out] at HDk
      clear HRJ hwr
      generalize wordsD 6 l5 e5 = W6 at *
      go_upto_region 14 with (go_at_call 58; refine (C7.out _ _ HDk.out.rdr).mono ?_; rintro en wy ⟨rfl, Ry, gy⟩)
      have Dy := Lib.hid (HDk.out.call Ry gy)
      clear Ry gy HDk C7
      generalize 0 :: W6.1 = RJ at *
      go_loopw [41] (fun s41 wk => ∃ (j : Nat) (vl : Value), j ≤ n7 ∧ s41 = .int .u64 j ∧ DecS w.heap.size g bx w ⟨n1, n2, vl, n3, n4, n5, .slice (some ⟨q, 0, none⟩) 7 7, (linesD j l7 e7).1, RJ⟩ (linesD j l7 e7).2.1 (linesD j l7 e7).2.2 wk) (fun s41 _ => n7 - (intOf s41).toNat)
      case atStart => exact ⟨0, _, by omega, rfl, Dy.out⟩
      case round =>
        clear Dy
        obtain ⟨j, vl, hj, rfl, hD⟩ := hrel
        have HDk := Lib.hid hD
        clear hD
        by_cases hlt : j < n7
        · have hlen := lines_len j l7 e7
          have HS := Lib.hid (show ((linesD j l7 e7).1 ++ [(lineD (linesD j l7 e7).2.1 (linesD j l7 e7).2.2).1], (lineD (linesD j l7 e7).2.1 (linesD j l7 e7).2.2).2) = linesD (j + 1) l7 e7 from rfl)
          generalize linesD j l7 e7 = LD at *
          obtain ⟨y, ly, ey, hXk⟩ : ∃ y r e, lineD LD.2.1 LD.2.2 = (y, r, e) := ⟨_, _, _, rfl⟩
          have Ck := Lib.hid fun w' (h : Rdr w.heap.size w' g LD.2.1 LD.2.2) => hXk ▸ line_rd_c w.heap.size g _ _ w' h
          rw [hXk] at HS
          clear hXk
          have Dd := HDk.out.same (w' := wr.drew) (by (repeat (first | exact grownBy_refl _ _ | assumption | refine grownBy_new_block ?_ _ | refine grownBy_drew ?_ | refine grownBy_drewN ?_ _ | refine grownBy_setNew ?_ (by first | (simp; done) | omega | (simp; omega)) _)))
          have ac := Dd.box.cell
          have hj1 : (j : Int) < (n7 : Int) := by omega
          have HDd := Lib.hid Dd
          have hb3 : (LD.1.length + 1) * 32 ≤ 140737488355328 := by omega
          have hb4 : LD.1.length + 1 ≤ 9223372036854775807 := by omega
          have Hcs := Lib.hid (show (#[Value.string y.key, .int .u64 y.lo, .int .u64 y.hi] : Array Value).toList = lnF y from rfl)
          have tok := Lib.hid hj1
          have Hlen := Lib.hid hlen
          clear Dd HDk hlen
          go_wp2_with fail
          go_region_law (first
            | (have _t := tok; refine step_app_one elt_ln one_ln lnF_len Dx.ol y hb3 hb4 hbase Hcs.out (by rfl) _ _ (by rfl) (by rfl) (by rfl) ?_; intro v3 w3 o3 g3 l3; clear tok; obtain ⟨a3, c3, rfl⟩ := o3.shape; obtain ⟨b3, D3⟩ := Dx.app o3 g3 l3; have ac3 := b3.cell; have af3 := b3.free)
            | (go_simp; go_at_call 60; refine (Ck.out _ HDd.out.rdr).mono ?_; rintro en wx ⟨rfl, Rx, gx⟩; have Dx := HDd.out.call Rx gx; have axc := Dx.box.cell; have axd := (Dx.same (World.grownBy_alloc wx (.cells #[.string y.key, .int .u64 y.lo, .int .u64 y.hi] 71) none)).box.cell; have hbase : bx + 1 ≤ wx.heap.size := Dx.box.lt))
          all_goals
            have HD3 := Lib.hid D3
            clear D3 ac3 af3 b3 l3 o3 g3 axc axd Rx gx Dx ac HDd Ck
            go_wp2_with fail
            have D4 := HD3.out
            simp only [List.length_append, List.length_singleton] at D4
            exact ⟨⟨j + 1, _, by omega, by go_num, by rw [← HS.out]; exact D4⟩, by simp [intOf]; omega⟩
        · obtain rfl : j = n7 := by omega
          clear hlt hj
          generalize linesD j l7 e7 = LD at *
          obtain ⟨LS, lz, ez⟩ := LD
          dsimp only at HDk HD
          obtain ⟨az, cz, hbz, -, -, -⟩ := HDk.out.rdr.ex
          have bc := hbz.cell
          have bf := hbz.free
          by_cases hez : ez = 0
          · subst hez
            cases lz with
            | cons b0 lz =>
              have HE := Lib.hid (show decE l = 3 by unfold decE; rw [HD.out]; simp)
              have HE0 := Lib.hid (show (3 : Int) ≠ 0 by decide)
              have hp : (0 : Int) < ((b0 :: lz).length : Int) := by simp
              have D4 := HDk.out.setE 3
              generalize b0 :: lz = LZ at *
              go_upto_region 19 with fail
              clear bc bf hbz
              generalize wr.setCell ⟨g, 1, none⟩ (.int .i64 3) = ws at *
              obtain ⟨az, cz, hbz, -, -, -⟩ := (D4).rdr.ex
              have bc := hbz.cell
              have bf := hbz.free
              go_upto_region 22 with fail
              have rc3 := (D4).res.cell
              have rc4 := (D4).res.free
              clear bf hbz
              have Dg := (D4).same (w' := World.drew (ws)) (by exact (by (repeat (first | exact grownBy_refl _ _ | assumption | refine grownBy_new_block ?_ _ | refine grownBy_drew ?_ | refine grownBy_drewN ?_ _ | refine grownBy_setNew ?_ (by first | (simp; done) | omega | (simp; omega)) _))))
              obtain ⟨az2, cz2, hbz, -, -, -⟩ := Dg.rdr.ex
              have bc2 := hbz.cell
              have rc1 := Dg.res.cell
              have rc2 := Dg.res.free
              have hgn1 : g ≠ w.heap.size := Nat.ne_of_gt Dg.hg
              have hgn2 : w.heap.size ≠ g := Nat.ne_of_lt Dg.hg
              clear Dg hbz
              go_region_law (fail)
              all_goals
                clear bc bc2 rc1 rc2 rc3 rc4
                have Ag := (D4).res
                have hgW : World.grownBy (ws) ((((((((ws).setCell ⟨w.heap.size, 0, none⟩ (.int .i64 0)).setCell ⟨w.heap.size, 1, none⟩ (.int .u64 0)).setCell ⟨w.heap.size, 2, none⟩ (.slice none 0 0)).setCell ⟨w.heap.size, 3, none⟩ (.int .u64 0)).setCell ⟨w.heap.size, 4, none⟩ (.int .i64 0)).setCell ⟨w.heap.size, 5, none⟩ (.int .u64 0)).setCell ⟨w.heap.size, 6, none⟩ (.slice none 0 0)) (some (w.heap.size)) := grownBy_set (grownBy_set (grownBy_set (grownBy_set (grownBy_set (grownBy_set (grownBy_set (grownBy_refl _ _) _ _) _ _) _ _) _ _) _ _) _ _) _ _
                have hBW : Blk ((((((((ws).setCell ⟨w.heap.size, 0, none⟩ (.int .i64 0)).setCell ⟨w.heap.size, 1, none⟩ (.int .u64 0)).setCell ⟨w.heap.size, 2, none⟩ (.slice none 0 0)).setCell ⟨w.heap.size, 3, none⟩ (.int .u64 0)).setCell ⟨w.heap.size, 4, none⟩ (.int .i64 0)).setCell ⟨w.heap.size, 5, none⟩ (.int .u64 0)).setCell ⟨w.heap.size, 6, none⟩ (.slice none 0 0)) (w.heap.size) #[.int .i64 0, .int .u64 0, .slice none 0 0, .int .u64 0, .int .i64 0, .int .u64 0, .slice none 0 0] := ((((((Ag.set_ 0 _ rfl).set_ 1 _ rfl).set_ 2 _ rfl).set_ 3 _ rfl).set_ 4 _ rfl).set_ 5 _ rfl).set_ 6 _ rfl
                generalize ((((((((ws).setCell ⟨w.heap.size, 0, none⟩ (.int .i64 0)).setCell ⟨w.heap.size, 1, none⟩ (.int .u64 0)).setCell ⟨w.heap.size, 2, none⟩ (.slice none 0 0)).setCell ⟨w.heap.size, 3, none⟩ (.int .u64 0)).setCell ⟨w.heap.size, 4, none⟩ (.int .i64 0)).setCell ⟨w.heap.size, 5, none⟩ (.int .u64 0)).setCell ⟨w.heap.size, 6, none⟩ (.slice none 0 0)) = wh at *
                go_wp2_with fail
                have rc := hBW.cell
                refine bodyPost_ret (v := .tuple #[repV 0 0 (.slice none 0 0) 0 0 0 (.slice none 0 0), .int .i64 (3)]) (by simp [results, Try.results21, go_sem, rc]) rfl ?_
                exact decPost_zero HE.out HE0.out (grownBy_drew (grownBy_new (D4).G hgW (Nat.le_refl _)))
            | nil =>
              have hW0 := decD_w l
              rw [HD.out] at hW0
              have hW : RepW ⟨n1, n2, vl, n3, n4, n5, .slice (some ⟨q, 0, none⟩) 7 7, LS, RJ⟩ := ⟨hW0.win, hW0.tot, hW0.over, hW0.trk, hW0.rest, hW0.lines, hW0.rej⟩
              have Cc := repcheck_c _ _ HDk.out.rd hW
              obtain ⟨E, hE⟩ : ∃ E, repErr ⟨n1, n2, vl, n3, n4, n5, .slice (some ⟨q, 0, none⟩) 7 7, LS, RJ⟩ = E := ⟨_, rfl⟩
              have HE := Lib.hid (show decE l = E by unfold decE; rw [HD.out]; rw [if_neg (by simp), if_neg (by simp), ← hE]; rfl)
              rw [hE] at Cc
              have HCc := Lib.hid Cc
              have HBx := Lib.hid HDk.out.box
              clear hE Cc hW hW0
              go_upto_region 21 with (first
                | (refine load_rep rfl _ rfl _ rfl HBx.out ?_)
                | (go_at_call 16; refine HCc.out.mono ?_; rintro en wt ⟨rfl, gt⟩; have bct := (hbz.same gt).cell; have bft := (hbz.same gt).free))
              have D4 := (HDk.out.same gt).setE E
              clear bc bf bct bft hbz HBx HCc gt HDk
              generalize wt.setCell ⟨g, 1, none⟩ (.int .i64 E) = ws at *
              by_cases hE0 : E = 0
              · subst hE0
                have HB := Lib.hid D4.box
                obtain ⟨az, cz, hbz, -, -, -⟩ := D4.rdr.ex
                have bc := hbz.cell
                have HD4 := Lib.hid D4
                clear hbz D4
                go_wp2_with (first
                  | (refine load_rep rfl _ rfl _ rfl HB.out ?_)
                  | (refine store_rep rfl _ _ rfl _ rfl rfl ?_ rfl _ rfl HD4.out.res ?_; · obtain ⟨_, _, hv⟩ := HD4.out.ol.shape; dsimp only at hv; rw [hv]; rfl
                     intro wh Ah Gh))
                have rc := Ah.cell
                refine bodyPost_ret (v := .tuple #[repV n1 n2 vl n3 n4 n5 (.slice (some ⟨q, 0, none⟩) 7 7), .int .i64 0]) (by simp [results, Try.results21, go_sem, rc]) rfl ?_
                exact decPost_ok (x := ⟨n1, n2, vl, n3, n4, n5, .slice (some ⟨q, 0, none⟩) 7 7, LS, RJ⟩) HE.out (by rw [HD.out]) (RepRd.kept_own HD4.out.ol HD4.out.oj Gh (by have h1 := HD4.out.hg; have h2 := HD4.out.hb; omega)) (grownBy_new HD4.out.G Gh (Nat.le_refl _))
              · have hE2 : (E != 0) = true := by simp [hE0]
                have hE3 : (E == 0) = false := by simp [hE0]
                have HE0 := Lib.hid hE0
                clear hE0
                obtain ⟨az, cz, hbz, -, -, -⟩ := (D4).rdr.ex
                have bc := hbz.cell
                have bf := hbz.free
                go_upto_region 22 with fail
                have rc3 := (D4).res.cell
                have rc4 := (D4).res.free
                clear bf hbz
                have Dg := (D4).same (w' := World.drew (ws)) (by exact (by (repeat (first | exact grownBy_refl _ _ | assumption | refine grownBy_new_block ?_ _ | refine grownBy_drew ?_ | refine grownBy_drewN ?_ _ | refine grownBy_setNew ?_ (by first | (simp; done) | omega | (simp; omega)) _))))
                obtain ⟨az2, cz2, hbz, -, -, -⟩ := Dg.rdr.ex
                have bc2 := hbz.cell
                have rc1 := Dg.res.cell
                have rc2 := Dg.res.free
                have hgn1 : g ≠ w.heap.size := Nat.ne_of_gt Dg.hg
                have hgn2 : w.heap.size ≠ g := Nat.ne_of_lt Dg.hg
                clear Dg hbz
                go_region_law (fail)
                all_goals
                  clear bc bc2 rc1 rc2 rc3 rc4
                  have Ag := (D4).res
                  have hgW : World.grownBy (ws) ((((((((ws).setCell ⟨w.heap.size, 0, none⟩ (.int .i64 0)).setCell ⟨w.heap.size, 1, none⟩ (.int .u64 0)).setCell ⟨w.heap.size, 2, none⟩ (.slice none 0 0)).setCell ⟨w.heap.size, 3, none⟩ (.int .u64 0)).setCell ⟨w.heap.size, 4, none⟩ (.int .i64 0)).setCell ⟨w.heap.size, 5, none⟩ (.int .u64 0)).setCell ⟨w.heap.size, 6, none⟩ (.slice none 0 0)) (some (w.heap.size)) := grownBy_set (grownBy_set (grownBy_set (grownBy_set (grownBy_set (grownBy_set (grownBy_set (grownBy_refl _ _) _ _) _ _) _ _) _ _) _ _) _ _) _ _
                  have hBW : Blk ((((((((ws).setCell ⟨w.heap.size, 0, none⟩ (.int .i64 0)).setCell ⟨w.heap.size, 1, none⟩ (.int .u64 0)).setCell ⟨w.heap.size, 2, none⟩ (.slice none 0 0)).setCell ⟨w.heap.size, 3, none⟩ (.int .u64 0)).setCell ⟨w.heap.size, 4, none⟩ (.int .i64 0)).setCell ⟨w.heap.size, 5, none⟩ (.int .u64 0)).setCell ⟨w.heap.size, 6, none⟩ (.slice none 0 0)) (w.heap.size) #[.int .i64 0, .int .u64 0, .slice none 0 0, .int .u64 0, .int .i64 0, .int .u64 0, .slice none 0 0] := ((((((Ag.set_ 0 _ rfl).set_ 1 _ rfl).set_ 2 _ rfl).set_ 3 _ rfl).set_ 4 _ rfl).set_ 5 _ rfl).set_ 6 _ rfl
                  generalize ((((((((ws).setCell ⟨w.heap.size, 0, none⟩ (.int .i64 0)).setCell ⟨w.heap.size, 1, none⟩ (.int .u64 0)).setCell ⟨w.heap.size, 2, none⟩ (.slice none 0 0)).setCell ⟨w.heap.size, 3, none⟩ (.int .u64 0)).setCell ⟨w.heap.size, 4, none⟩ (.int .i64 0)).setCell ⟨w.heap.size, 5, none⟩ (.int .u64 0)).setCell ⟨w.heap.size, 6, none⟩ (.slice none 0 0)) = wh at *
                  go_wp2_with fail
                  have rc := hBW.cell
                  refine bodyPost_ret (v := .tuple #[repV 0 0 (.slice none 0 0) 0 0 0 (.slice none 0 0), .int .i64 (E)]) (by simp [results, Try.results21, go_sem, rc]) rfl ?_
                  exact decPost_zero HE.out HE0.out (grownBy_drew (grownBy_new (D4).G hgW (Nat.le_refl _)))
          · have hez2 : (ez == 0) = false := by simp [hez]
            have hez3 : (ez != 0) = true := by simp [hez]
            have HE := Lib.hid (show decE l = ez by unfold decE; rw [HD.out]; simp [hez])
            have HE0 := Lib.hid hez
            have D4 := HDk.out
            obtain ⟨az, cz, hbz, -, -, -⟩ := (D4).rdr.ex
            have bc := hbz.cell
            have bf := hbz.free
            go_upto_region 22 with fail
            have rc3 := (D4).res.cell
            have rc4 := (D4).res.free
            clear bf hbz
            have Dg := (D4).same (w' := World.drew (wr)) (by exact (by (repeat (first | exact grownBy_refl _ _ | assumption | refine grownBy_new_block ?_ _ | refine grownBy_drew ?_ | refine grownBy_drewN ?_ _ | refine grownBy_setNew ?_ (by first | (simp; done) | omega | (simp; omega)) _))))
            obtain ⟨az2, cz2, hbz, -, -, -⟩ := Dg.rdr.ex
            have bc2 := hbz.cell
            have rc1 := Dg.res.cell
            have rc2 := Dg.res.free
            have hgn1 : g ≠ w.heap.size := Nat.ne_of_gt Dg.hg
            have hgn2 : w.heap.size ≠ g := Nat.ne_of_lt Dg.hg
            clear Dg hbz
            go_region_law (fail)
            all_goals
              clear bc bc2 rc1 rc2 rc3 rc4
              have Ag := (D4).res
              have hgW : World.grownBy (wr) ((((((((wr).setCell ⟨w.heap.size, 0, none⟩ (.int .i64 0)).setCell ⟨w.heap.size, 1, none⟩ (.int .u64 0)).setCell ⟨w.heap.size, 2, none⟩ (.slice none 0 0)).setCell ⟨w.heap.size, 3, none⟩ (.int .u64 0)).setCell ⟨w.heap.size, 4, none⟩ (.int .i64 0)).setCell ⟨w.heap.size, 5, none⟩ (.int .u64 0)).setCell ⟨w.heap.size, 6, none⟩ (.slice none 0 0)) (some (w.heap.size)) := grownBy_set (grownBy_set (grownBy_set (grownBy_set (grownBy_set (grownBy_set (grownBy_set (grownBy_refl _ _) _ _) _ _) _ _) _ _) _ _) _ _) _ _
              have hBW : Blk ((((((((wr).setCell ⟨w.heap.size, 0, none⟩ (.int .i64 0)).setCell ⟨w.heap.size, 1, none⟩ (.int .u64 0)).setCell ⟨w.heap.size, 2, none⟩ (.slice none 0 0)).setCell ⟨w.heap.size, 3, none⟩ (.int .u64 0)).setCell ⟨w.heap.size, 4, none⟩ (.int .i64 0)).setCell ⟨w.heap.size, 5, none⟩ (.int .u64 0)).setCell ⟨w.heap.size, 6, none⟩ (.slice none 0 0)) (w.heap.size) #[.int .i64 0, .int .u64 0, .slice none 0 0, .int .u64 0, .int .i64 0, .int .u64 0, .slice none 0 0] := ((((((Ag.set_ 0 _ rfl).set_ 1 _ rfl).set_ 2 _ rfl).set_ 3 _ rfl).set_ 4 _ rfl).set_ 5 _ rfl).set_ 6 _ rfl
              generalize ((((((((wr).setCell ⟨w.heap.size, 0, none⟩ (.int .i64 0)).setCell ⟨w.heap.size, 1, none⟩ (.int .u64 0)).setCell ⟨w.heap.size, 2, none⟩ (.slice none 0 0)).setCell ⟨w.heap.size, 3, none⟩ (.int .u64 0)).setCell ⟨w.heap.size, 4, none⟩ (.int .i64 0)).setCell ⟨w.heap.size, 5, none⟩ (.int .u64 0)).setCell ⟨w.heap.size, 6, none⟩ (.slice none 0 0)) = wh at *
              go_wp2_with fail
              have rc := hBW.cell
              refine bodyPost_ret (v := .tuple #[repV 0 0 (.slice none 0 0) 0 0 0 (.slice none 0 0), .int .i64 (ez)]) (by simp [results, Try.results21, go_sem, rc]) rfl ?_
              exact decPost_zero HE.out HE0.out (grownBy_drew (grownBy_new (D4).G hgW (Nat.le_refl _)))
end Go.Proofs.Ytiagjiaahnkefaa

/- The reference's reader of bytes. -/
namespace Go.Proofs.Ytiagjiaahnkefaa
open Go.RowKit Go.Sort

set_option maxHeartbeats 1000000 in
set_option maxRecDepth 100000 in
theorem rnumber_c (B g : Nat) (l : List UInt8) (e : Int) (w : World) (h : Rdr B w g l e) :
    Calls Try.prog 62 #[.pointer (some ⟨g, 0, none⟩)] w (NumP B g w (weiF l e)) := by
  obtain ⟨a, c, hb, hr, hlc, hab⟩ := h.ex
  have hgB := h.hg
  have hbl := hb.cell
  by_cases he : e ≠ 0
  · have hF := Lib.hid (show weiF l e = (0, l, e) from if_pos he)
    have he2 : (e != 0) = true := by simp [he]
    have H := Lib.hid h
    clear h hr he hb
    go_enter Try.func62, Try.ntmps62
    go_wp2
    go_ret
    exact ⟨by rw [hF.out]; rfl, by rw [hF.out]; exact H.out, grownBy_refl _ _⟩
  · obtain rfl : e = 0 := by omega
    have C := Lib.hid (rread_c _ l w hr)
    have hu := readF_used l
    have hw := readF_w l
    have HE := Lib.hid (readF_err l)
    have HN := Lib.hid (show weiF l 0 = if (readF l).2.2 ≠ 0 then (0, l, (readF l).2.2) else if 18446744073709551615 < (readF l).1 then (0, l.drop (readF l).2.1, 1) else ((readF l).1, l.drop (readF l).2.1, 0) from if_neg he)
    have HR := Lib.hid hr
    have HB := Lib.hid hb
    have HA := Lib.hid hab
    have H := Lib.hid h
    clear h hr he hb hab
    obtain ⟨n, u, f, hF⟩ : ∃ n u f, readF l = (n, u, f) := ⟨_, _, _, rfl⟩
    rw [hF] at C hu hw HE HN
    clear hF
    dsimp only at hu hw
    have hu0 : (0 : Int) ≤ (u : Int) := by omega
    have hu1 : (u : Int) ≤ (c : Int) := by omega
    have hu2 : (u : Int) ≤ (l.length : Int) := by omega
    have hl2 : (l.length : Int) ≤ (c : Int) := by omega
    go_enter Try.func62, Try.ntmps62
    go_upto_region 4 with (go_at_call 99; refine C.out.mono ?_; rintro en w1 ⟨rfl, g1⟩)
    clear hbl
    have HB1 := HB.out.same g1
    have H1 := H.out.same g1
    have hfr := HB1.free
    have hbl := HB1.cell
    obtain ⟨R2, g2⟩ := Rdr.setB HB1 (HR.out.same g1) hlc HA.out hgB hu
    have R3 := Lib.hid (H1.setE f)
    have R4 := Lib.hid R2
    have KW := Lib.hid (grownBy_trans (grownBy_some g1 (some g)) g2)
    have G1 := Lib.hid g1
    clear HB1 H1 H HB HR HA R2 g2 g1
    by_cases hf : f = 0
    · subst hf
      have HF := Lib.hid (HN.out.trans ((if_neg (by simp)).trans (if_neg (by omega))))
      clear HN HE C R3
      go_wp2_with fail
      · go_ret
        have r4 := R4.out
        have kw := KW.out
        rw [if_pos h, show c - u = 0 by omega] at r4 kw
        exact ⟨by rw [HF.out]; rfl, by rw [HF.out]; exact r4, kw⟩
      · go_ret
        have r4 := R4.out
        have kw := KW.out
        rw [if_neg h] at r4 kw
        exact ⟨by rw [HF.out]; rfl, by rw [HF.out]; exact r4, kw⟩
    · have hf1 : (f != 0) = true := by simp [hf]
      have HF := Lib.hid (HN.out.trans (if_pos hf))
      clear HN HE hf C R4 KW
      go_wp2_with fail
      go_ret
      exact ⟨by rw [HF.out]; rfl, by rw [HF.out]; exact R3.out.1, grownBy_trans (grownBy_some G1.out (some g)) R3.out.2⟩

/-- A number as an int. -/
def UpP (B g : Nat) (w : World) (F : Nat × List UInt8 × Int) (en : Ending) (w' : World) : Prop :=
  en = .returned (.int .i64 F.1) ∧ Rdr B w' g F.2.1 F.2.2 ∧ w.grownBy w' (some g)
theorem numF_wei {most : Nat} {over : Int} {l : List UInt8} {e : Int} : numF most over l e = if (weiF l e).2.2 ≠ 0 then (0, (weiF l e).2.1, (weiF l e).2.2) else if most < (weiF l e).1 then (0, (weiF l e).2.1, over) else weiF l e := by
  have hw := readF_w l
  unfold weiF numF
  by_cases h1 : e ≠ 0
  · rw [if_pos h1, if_pos h1]; simp [h1]
  rw [if_neg h1, if_neg h1]
  by_cases h2 : (readF l).2.2 ≠ 0
  · rw [if_pos h2, if_pos h2]; simp [h2]
  rw [if_neg h2, if_neg h2, if_neg (show ¬ 18446744073709551615 < (readF l).1 by omega)]
  simp

set_option maxHeartbeats 1000000 in
set_option maxRecDepth 100000 in
theorem rupto_c (B g most : Nat) (over : Int) (l : List UInt8) (e : Int) (w : World) (h : Rdr B w g l e) (hm : most < 9223372036854775808) (ho : 0 < over) :
    Calls Try.prog 61 #[.pointer (some ⟨g, 0, none⟩), .int .u64 most, .int .i64 over] w (UpP B g w (numF most over l e)) := by
  have C := Lib.hid (rnumber_c B g l e w h)
  have HN := Lib.hid (numF_wei (most := most) (over := over) (l := l) (e := e))
  clear h
  obtain ⟨n, r, f, hF⟩ : ∃ n r f, weiF l e = (n, r, f) := ⟨_, _, _, rfl⟩
  rw [hF] at C HN
  clear hF
  go_enter Try.func61, Try.ntmps61
  go_upto_region 2 with (go_at_call 62; refine C.out.mono ?_; rintro en w1 ⟨rfl, R, g1⟩)
  have R3 := Lib.hid (R.setE over)
  have R4 := Lib.hid R
  have KW := Lib.hid g1
  obtain ⟨a, c, hb, -, -, -⟩ := R.ex
  have hbl := hb.cell
  have hfr := hb.free
  clear R hb g1 C
  by_cases hf : f = 0
  · subst hf
    by_cases hn : most < n
    · have hn2 : (most : Int) < (n : Int) := by omega
      have HF := Lib.hid (HN.out.trans ((if_neg (by simp)).trans (if_pos hn)))
      have ho2 : (over != 0) = true := by simp; omega
      clear HN hn
      go_wp2_with fail
      go_ret
      exact ⟨by rw [HF.out]; rfl, by rw [HF.out]; exact R3.out.1, grownBy_trans KW.out R3.out.2⟩
    · have hn2 : (n : Int) ≤ (most : Int) := by omega
      have HF := Lib.hid (HN.out.trans ((if_neg (by simp)).trans (if_neg hn)))
      have hwr : IntKind.i64.wrap (n : Int) = (n : Int) := IntWalk.i64_in _ (by omega)
      clear HN hn R3
      go_wp2_with fail
      go_ret
      exact ⟨by rw [HF.out]; rfl, by rw [HF.out]; exact R4.out, KW.out⟩
  · have hf1 : (f != 0) = true := by simp [hf]
    have hf2 : (f == 0) = false := by simp [hf]
    have HF := Lib.hid (HN.out.trans (if_pos hf))
    clear HN hf R3
    go_wp2_with fail
    go_ret
    exact ⟨by rw [HF.out]; rfl, by rw [HF.out]; exact R4.out, KW.out⟩
end Go.Proofs.Ytiagjiaahnkefaa

/- The reference's reader of bytes: texts, the end. -/
namespace Go.Proofs.Ytiagjiaahnkefaa
open Go.RowKit Go.Sort

def TextP (B g : Nat) (w : World) (F : List UInt8 × List UInt8 × Int) (en : Ending) (w' : World) : Prop :=
  en = .returned (.string ⟨F.1.toArray⟩) ∧ Rdr B w' g F.2.1 F.2.2 ∧ w.grownBy w' (some g)

set_option maxHeartbeats 1000000 in
set_option maxRecDepth 100000 in
theorem rtext_c (B g : Nat) (l : List UInt8) (e : Int) (w : World) (h : Rdr B w g l e) :
    Calls Try.prog 63 #[.pointer (some ⟨g, 0, none⟩), .int .u64 255] w (TextP B g w (keyD l e)) := by
  have C := Lib.hid (rupto_c B g 255 4 l e w h (by omega) (by omega))
  have HN := Lib.hid (show keyD l e = if (numF 255 4 l e).2.2 ≠ 0 then ([], (numF 255 4 l e).2.1, (numF 255 4 l e).2.2) else if (numF 255 4 l e).2.1.length < (numF 255 4 l e).1 then ([], (numF 255 4 l e).2.1, 2) else ((numF 255 4 l e).2.1.take (numF 255 4 l e).1, (numF 255 4 l e).2.1.drop (numF 255 4 l e).1, 0) from rfl)
  have hw := (numF_w (most := 255) (over := 4) (l := l) (e := e)).2
  clear h
  obtain ⟨n, r, f, hF⟩ : ∃ n r f, numF 255 4 l e = (n, r, f) := ⟨_, _, _, rfl⟩
  rw [hF] at C HN hw
  clear hF
  dsimp only at hw
  go_enter Try.func63, Try.ntmps63
  go_upto_region 2 with (go_at_call 61; refine C.out.mono ?_; rintro en w1 ⟨rfl, R, g1⟩)
  have R2 := Lib.hid (R.setE 2)
  have R4 := Lib.hid R
  have KW := Lib.hid g1
  obtain ⟨a, c, hb, hr, hlc, hab⟩ := R.ex
  have hgB := R.hg
  have hbl := hb.cell
  have hfr := hb.free
  have HB := Lib.hid hb
  have HR := Lib.hid hr
  have HA := Lib.hid hab
  clear R hb g1 C hr hab
  by_cases hf : f = 0
  · subst hf
    by_cases hn : r.length < n
    · have hn2 : (r.length : Int) < (n : Int) := by omega
      have HF := Lib.hid (HN.out.trans ((if_neg (by simp)).trans (if_pos hn)))
      clear HN hn R4 HB HR HA
      go_wp2_with fail
      go_ret
      exact ⟨by rw [HF.out]; rfl, by rw [HF.out]; exact R2.out.1, grownBy_trans KW.out R2.out.2⟩
    · have hn2 : (n : Int) ≤ (r.length : Int) := by omega
      have hn3 : (n : Int) ≤ (c : Int) := by omega
      have hn0 : (0 : Int) ≤ (n : Int) := by omega
      have hlc2 : (r.length : Int) ≤ (c : Int) := by omega
      have HF := Lib.hid (HN.out.trans ((if_neg (by simp)).trans (if_neg hn)))
      have hcv := conv_by (RdL.take byF_len HR.out (k := n) (by omega) c)
      obtain ⟨R5, g2⟩ := Rdr.setB HB.out HR.out hlc HA.out hgB (k := n) (by omega)
      have HR5 := Lib.hid R5
      have HG2 := Lib.hid g2
      have HHn := Lib.hid hn
      clear HN R2 R4 HB HR HA R5 g2 hn
      go_wp2_with fail
      · go_ret
        have r4 := HR5.out
        have kw := HG2.out
        rw [if_pos h, show c - n = 0 by omega] at r4 kw
        exact ⟨by rw [HF.out]; rfl, by rw [HF.out]; exact r4, grownBy_trans KW.out kw⟩
      · go_ret
        have r4 := HR5.out
        have kw := HG2.out
        rw [if_neg h] at r4 kw
        exact ⟨by rw [HF.out]; rfl, by rw [HF.out]; exact r4, grownBy_trans KW.out kw⟩
  · have hf1 : (f != 0) = true := by simp [hf]
    have hf2 : (f == 0) = false := by simp [hf]
    have HF := Lib.hid (HN.out.trans (if_pos hf))
    clear HN hf R2 HB HR HA
    go_wp2_with fail
    go_ret
    exact ⟨by rw [HF.out]; rfl, by rw [HF.out]; exact R4.out, KW.out⟩

/-- The first error, or that there are more bytes. -/
def endE (l : List UInt8) (e : Int) : Int := if e ≠ 0 then e else if l ≠ [] then 3 else 0
set_option maxHeartbeats 1000000 in
theorem rend_c (B g : Nat) (l : List UInt8) (e : Int) (w : World) (h : Rdr B w g l e) :
    Calls Try.prog 64 #[.pointer (some ⟨g, 0, none⟩)] w (fun en w' => en = .returned (.int .i64 (endE l e)) ∧ Rdr B w' g l (endE l e) ∧ w.grownBy w' (some g)) := by
  obtain ⟨a, c, hb, hr, hlc, hab⟩ := h.ex
  have hbl := hb.cell
  have hfr := hb.free
  have H := Lib.hid h
  have KW := Lib.hid (h.setE 3)
  clear h hb hr hab
  by_cases he : e = 0
  · subst he
    cases l with
    | nil =>
      go_enter Try.func64, Try.ntmps64
      go_wp2_with fail
      go_ret
      exact ⟨rfl, H.out, grownBy_refl _ _⟩
    | cons b l =>
      have HE := Lib.hid (show endE (b :: l) 0 = 3 by simp [endE])
      have hp : (0 : Int) < ((b :: l).length : Int) := by simp
      generalize b :: l = L at *
      go_enter Try.func64, Try.ntmps64
      go_wp2_with fail
      go_ret
      exact ⟨by rw [HE.out]; rfl, by rw [HE.out]; exact KW.out.1, KW.out.2⟩
  · have hf2 : (e == 0) = false := by simp [he]
    have HE := Lib.hid (show endE l e = e from if_pos he)
    clear he
    go_enter Try.func64, Try.ntmps64
    go_wp2_with fail
    go_ret
    exact ⟨by rw [HE.out]; rfl, by rw [HE.out]; exact H.out, grownBy_refl _ _⟩
end Go.Proofs.Ytiagjiaahnkefaa
