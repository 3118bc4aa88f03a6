/- Several texts in one file; each begins with a comment that says what is proved in it. -/
import Derived.Test.YtiagjiaahnkefaaBunAK
import Derived.Test.YtiagjiaahnkefaaBunAI
import Derived.Test.YtiagjiaahnkefaaBunAL
import Derived.Test.YtiagjiaahnkefaaBunAC
import Derived.Laws.Bits128
import Derived.Test.YtiagjiaahnkefaaBunAB
import Derived.Lib.AppendStr

/- Reports that are changed in one place. -/
namespace Go.Proofs.Ytiagjiaahnkefaa
open Go.RowKit Go.Sort

def SpoPost (r : Rep) (w : World) (e : Ending) (w' : World) : Prop :=
  ∃ x : Rep, e = .returned (repV x.win x.tot x.vl x.over x.trk x.rest x.vr) ∧ RepRd w' x ∧ RepW x ∧ 1 ≤ x.rej.length ∧ x.rej.length ≤ r.rej.length + 1 ∧ x.lines.length ≤ r.lines.length + 1 ∧ w.grownBy w' none
/-- Towards the end: the report in its block, the result's block, and that nothing of it lies in these. -/
structure SpoE (r : Rep) (w0 : World) (B br rb : Nat) (w : World) (x : Rep) : Prop where
  A : Blk w br (repA x.win x.tot x.vl x.over x.trk x.rest x.vr)
  C : Blk w rb rep0
  rd : RepRd w x
  fl : From B x.vl
  fr : From B x.vr
  W : RepW x
  G : w0.grownBy w none
  lo : w0.heap.size ≤ rb
  hi : rb < B
  n1 : 1 ≤ x.rej.length
  n2 : x.rej.length ≤ r.rej.length + 1
  n3 : x.lines.length ≤ r.lines.length + 1
theorem SpoE.fin {r : Rep} {w0 : World} {B br rb : Nat} {w w' : World} {x : Rep} (h : SpoE r w0 B br rb w x) (hg : w.grownBy w' (some rb)) : SpoPost r w0 (.returned (repV x.win x.tot x.vl x.over x.trk x.rest x.vr)) w' :=
  ⟨x, rfl, ⟨h.rd.lines.keptFrom h.fl hg h.hi, h.rd.rej.keptFrom h.fr hg h.hi, h.rd.lcap, h.rd.rcap⟩, h.W, h.n1, h.n2, h.n3, grownBy_new h.G hg h.lo⟩
/-- In between: the slices are the call's own. -/
structure Spo (w0 : World) (B br rb : Nat) (w : World) (x : Rep) : Prop where
  A : Blk w br (repA x.win x.tot x.vl x.over x.trk x.rest x.vr)
  C : Blk w rb rep0
  ol : Own lnF 3 71 B w x.vl x.lines
  oj : Own wordF 1 22 B w x.vr x.rej
  ap : Apart x.vl x.vr
  W : RepW x
  G : w0.grownBy w none
  lb : w0.heap.size ≤ br
  lo : w0.heap.size ≤ rb
  hi : rb < B
  hb : br < B
  ne : br ≠ rb
theorem Own.rcap {α : Type} {f : α → List Value} {s : Nat} {e : TypeId} {B : Nat} {w : World} {v : Value} {l : List α} (h : Own f s e B w v l) : ∀ a n c, v = .slice a n c → n ≤ c := h.capOk
theorem Spo.e {r : Rep} {w0 : World} {B br rb : Nat} {w : World} {x : Rep} (h : Spo w0 B br rb w x) (n1 : 1 ≤ x.rej.length) (n2 : x.rej.length ≤ r.rej.length + 1) (n3 : x.lines.length ≤ r.lines.length + 1) : SpoE r w0 B br rb w x :=
  ⟨h.A, h.C, ⟨h.ol.rd, h.oj.rd, h.ol.capOk, h.oj.capOk⟩, h.ol.from_, h.oj.from_, h.W, h.G, h.lo, h.hi, n1, n2, n3⟩
/-- A field of the report's block is written. -/
theorem Spo.set {w0 : World} {B br rb : Nat} {w : World} {x : Rep} (h : Spo w0 B br rb w x) (y : Rep) (i : Nat) (v : Value) (e : (repA x.win x.tot x.vl x.over x.trk x.rest x.vr).setIfInBounds i v = repA y.win y.tot y.vl y.over y.trk y.rest y.vr)
    (ol : Own lnF 3 71 B w y.vl y.lines) (oj : Own wordF 1 22 B w y.vr y.rej) (ap : Apart y.vl y.vr) (hW : RepW y) : Spo w0 B br rb (w.setCell ⟨br, i, none⟩ v) y := by
  have hg := grownBy_set (grownBy_refl w (some br)) i v
  have hb := h.hb
  exact ⟨h.A.set_ i v e, h.C.kept hg (by simp; exact h.ne), ol.kept hg (fun k hk e => by cases e; have := (ol.lt _ hk).1; omega), oj.kept hg (fun k hk e => by cases e; have := (oj.lt _ hk).1; omega), ap, hW, grownBy_setNew (p := ⟨br, i, none⟩) h.G h.lb v, h.lb, h.lo, h.hi, h.hb, h.ne⟩
theorem Spo.drewN {w0 : World} {B br rb : Nat} {w : World} {x : Rep} (h : Spo w0 B br rb w x) (k : Nat) : Spo w0 B br rb (w.drewN k) x := by
  have g := grownBy_drewN (grownBy_refl w none) k
  exact ⟨h.A.same g, h.C.same g, h.ol.same g, h.oj.same g, h.ap, h.W, grownBy_drewN h.G k, h.lb, h.lo, h.hi, h.hb, h.ne⟩
/-- A cell of a line is written. -/
theorem Spo.line {w0 : World} {B br rb : Nat} {w : World} {x : Rep} (h : Spo w0 B br rb w x) {gl n cap : Nat} (hv : x.vl = .slice (some ⟨gl, 0, none⟩) n cap) {i j : Nat} (hi : i < x.lines.length) (hj : j < 3) (u : Value) (y : Ln) (hy : lnF y = (lnF x.lines[i]).set j u) (hw : LnW y) :
    Spo w0 B br rb (w.setCell ⟨gl, i * 3 + j, none⟩ u) ⟨x.win, x.tot, x.vl, x.over, x.trk, x.rest, x.vr, x.lines.set i y, x.rej⟩ := by
  have ho := h.ol
  rw [hv] at ho
  have hl := ho.lt gl rfl
  have hb := h.hb
  have hr := h.hi
  have hlb := h.lb
  obtain ⟨st, hg⟩ := ho.stored lnF_len hi hj u y hy
  refine ⟨h.A.kept hg (by simp; omega), h.C.kept hg (by simp; omega), by rw [hv]; exact st, h.oj.kept hg (fun k hk e => ?_), h.ap, ⟨h.W.win, h.W.tot, h.W.over, h.W.trk, h.W.rest, fun z hz => ?_, h.W.rej⟩, grownBy_setNew (p := ⟨gl, i * 3 + j, none⟩) h.G (by simp only; omega) u, h.lb, h.lo, h.hi, h.hb, h.ne⟩
  · cases e
    exact h.ap gl (by rw [hv]; rfl) hk
  · rcases List.mem_or_eq_of_mem_set hz with h1 | h1
    · exact h.W.lines z h1
    · rw [h1]; exact hw
/-- A count is written. -/
theorem Spo.rejc {w0 : World} {B br rb : Nat} {w : World} {x : Rep} (h : Spo w0 B br rb w x) {gl n cap : Nat} (hv : x.vr = .slice (some ⟨gl, 0, none⟩) n cap) {i : Nat} (hi : i < x.rej.length) (y : Int) (hw : W64 y) :
    Spo w0 B br rb (w.setCell ⟨gl, i, none⟩ (.int .u64 y)) ⟨x.win, x.tot, x.vl, x.over, x.trk, x.rest, x.vr, x.lines, x.rej.set i y⟩ := by
  have ho := h.oj
  rw [hv] at ho
  have hl := ho.lt gl rfl
  have hb := h.hb
  have hr := h.hi
  have hlb := h.lb
  have hst := ho.stored (fun _ => rfl) hi (show 0 < 1 by omega) (.int .u64 y) y rfl
  rw [Nat.mul_one, Nat.add_zero] at hst
  obtain ⟨st, hg⟩ := hst
  refine ⟨h.A.kept hg (by simp; omega), h.C.kept hg (by simp; omega), h.ol.kept hg (fun k hk e => ?_), by rw [hv]; exact st, h.ap, ⟨h.W.win, h.W.tot, h.W.over, h.W.trk, h.W.rest, h.W.lines, fun z hz => ?_⟩, grownBy_setNew (p := ⟨gl, i, none⟩) h.G (by simp only; omega) _, h.lb, h.lo, h.hi, h.hb, h.ne⟩
  · cases e
    exact h.ap gl hk (by rw [hv]; rfl)
  · rcases List.mem_or_eq_of_mem_set hz with h1 | h1
    · exact h.W.rej z h1
    · rw [h1]; exact hw
theorem wrapW (n : Int) : W64 (IntKind.u64.wrap n) := by have := IntKind.wrap_u64 n; unfold W64; rw [this]; omega
theorem i64_half {n : Int} (h : W64 n) : I64 (n / 2) ∧ 0 ≤ n / 2 ∧ n / 2 ≤ 9223372036854775807 := by unfold W64 at h; unfold I64; omega
theorem lnW_set {ls : List Ln} (h : ∀ x ∈ ls, LnW x) {i : Nat} {y : Ln} (hy : LnW y) : ∀ x ∈ ls.set i y, LnW x := fun x hx => by
  rcases List.mem_or_eq_of_mem_set hx with h1 | h1
  · exact h x h1
  · exact h1 ▸ hy

set_option maxHeartbeats 3200000 in
set_option maxRecDepth 100000 in
theorem spoilt_c (x : Rep) (at_ n : Int) (w : World) (hR : RepRd w x) (hW : RepW x) (hn : W64 n) (hl : x.lines.length ≤ 100000) (hj1 : 1 ≤ x.rej.length) (hj2 : x.rej.length ≤ 100000) :
    Calls Try.prog 15 #[repV x.win x.tot x.vl x.over x.trk x.rest x.vr, .int .i64 at_, .int .u64 n] w (SpoPost x w) := by
  have HR := Lib.hid hR
  have HW := Lib.hid hW
  obtain ⟨win, tot, vl, over, trk, rest, vr, ls, rj⟩ := x
  obtain ⟨la, lc, e1⟩ := hR.lines.shape
  obtain ⟨ja, jc, e2⟩ := hR.rej.shape
  dsimp only at *
  subst e1 e2
  clear hR hW
  have ha15 : bits .and .i64 at_ 15 = at_ % 16 := and_low at_ 4 (by omega)
  have ha7 : bits .and .i64 (at_ / 16) 7 = at_ / 16 % 8 := and_low _ 3 (by omega)
  go_enter Try.func15, Try.ntmps15
  go_upto_region 1 with fail
  have A1 := (Blk.new w (repA win tot (.slice la ls.length lc) over trk rest (.slice ja rj.length jc)) 26).same (World.grownBy_alloc _ (.cells rep0 26) none)
  have C1 := Blk.new' (w.alloc (.cells (repA win tot (.slice la ls.length lc) over trk rest (.slice ja rj.length jc)) 26)) rep0 26 (g := w.heap.size + 1) (by simp)
  have G1 := grownBy_new_block (grownBy_new_block (grownBy_refl w none) (.cells (repA win tot (.slice la ls.length lc) over trk rest (.slice ja rj.length jc)) 26)) (.cells rep0 26)
  have z1 : ((w.alloc (.cells (repA win tot (.slice la ls.length lc) over trk rest (.slice ja rj.length jc)) 26)).alloc (.cells rep0 26)).heap.size = w.heap.size + 2 := by simp
  generalize (w.alloc (.cells (repA win tot (.slice la ls.length lc) over trk rest (.slice ja rj.length jc)) 26)).alloc (.cells rep0 26) = w1 at *
  obtain ⟨br, hbr⟩ : ∃ br, w.heap.size = br := ⟨_, rfl⟩
  obtain ⟨rb, hrb⟩ : ∃ rb, w.heap.size + 1 = rb := ⟨_, rfl⟩
  obtain ⟨B, hB⟩ : ∃ B, w1.heap.size = B := ⟨_, rfl⟩
  rw [hrb] at C1 ⊢
  rw [hbr] at A1 ⊢
  have hbB : br < B := by omega
  have hrB : rb < B := by omega
  have hne : br ≠ rb := by omega
  have hlo : w.heap.size ≤ rb := by omega
  have hlb : w.heap.size ≤ br := by omega
  have HB := Lib.hid hB
  clear hbr hrb z1 hB
  have hml : ls.length * 32 ≤ 140737488355328 := by omega
  have hml2 : ls.length ≤ 9223372036854775807 := by omega
  have hmj : rj.length * 8 ≤ 140737488355328 := by omega
  have hmj2 : rj.length ≤ 9223372036854775807 := by omega
  -- the lines
  have R1 := Lib.hid (RdL.same HR.out.lines G1)
  have A1b := A1.same (World.grownBy_alloc w1 (.cells #[] 71) none)
  have N1 := own_lit0 (e := 71) lnF 3 (Nat.le_refl w1.heap.size)
  have RL := RdL.same R1.out (World.grownBy_alloc w1 (.cells #[] 71) none)
  have ab := A1b.cell
  have tok := Lib.hid hml
  go_upto_region 2 with (at_builtin; have _t := tok; refine app_lit elt_ln one_ln N1 RL rfl hml hml2 (by simp) (by rfl) _ _ (by rfl) (by rfl) (by rfl) ?_; intro v2 w2 o2 g2 l2; clear tok ab; have A2 := A1b.same g2; have C2 := (C1.same (World.grownBy_alloc w1 (.cells #[] 71) none)).same g2; have K2 := grownBy_trans (World.grownBy_alloc w1 (.cells #[] 71) none) g2; clear A1b N1 RL g2 l2; have f2 := A2.free; have a2 := A2.cell; obtain ⟨la2, lc2, rfl⟩ := o2.shape)
  have o2' : Own lnF 3 71 B w2 (.slice la2 ls.length lc2) ls := HB.out ▸ o2
  have gs := grownBy_set (grownBy_refl w2 (some br)) 2 (.slice la2 ls.length lc2)
  have A3 : Blk _ br (repA win tot (.slice la2 ls.length lc2) over trk rest (.slice ja rj.length jc)) := A2.set_ 2 (.slice la2 ls.length lc2) rfl
  have C3 := C2.kept gs (by simp; exact hne)
  have o3 := o2'.kept gs (fun k hk e => by cases e; have := (o2'.lt _ hk).1; omega)
  have K3 := grownBy_setNew (p := ⟨br, 2, none⟩) (grownBy_trans G1 K2) hlb (.slice la2 ls.length lc2)
  have z3 : B ≤ (w2.setCell ⟨br, 2, none⟩ (.slice la2 ls.length lc2)).heap.size := Nat.le_trans (HB.out ▸ K2.size) gs.size
  have R3 := Lib.hid ((RdL.same HR.out.rej (grownBy_trans G1 K2)).kept0 gs (fun h0 k e a n' c hv => by cases e; have := (HR.out.rej.blockLt h0 _ _ _ hv); omega))
  generalize w2.setCell ⟨br, 2, none⟩ (.slice la2 ls.length lc2) = w3 at *
  clear f2 a2 gs A2 C2 o2 o2' A1 C1 K2
  -- the counts of rejects
  have A3b := A3.same (World.grownBy_alloc w3 (.cells #[] 22) none)
  have N3 := own_lit0 (e := 22) wordF 1 (Nat.le_refl w3.heap.size)
  have RJ := RdL.same R3.out (World.grownBy_alloc w3 (.cells #[] 22) none)
  have ab := A3b.cell
  have tok := Lib.hid hml
  go_upto_region 3 with (at_builtin; have _t := tok; refine app_lit elt_word one_word N3 RJ rfl hmj hmj2 (by simp) (by rfl) _ _ (by rfl) (by rfl) (by rfl) ?_; intro v4 w4 o4 g4 l4; clear tok ab; have A4 := A3b.same g4; have K4 := grownBy_trans (World.grownBy_alloc w3 (.cells #[] 22) none) g4; clear A3b N3 RJ g4 l4; have f4 := A4.free; have a4 := A4.cell; obtain ⟨ja2, jc2, rfl⟩ := o4.shape)
  have C4 := C3.same K4
  have o3' := o3.same K4
  have o4' : Own wordF 1 22 B w4 (.slice ja2 rj.length jc2) rj := o4.base (fun k hk => Nat.le_trans z3 (o4.lt _ hk).1)
  have hap : Apart (.slice la2 ls.length lc2) (.slice ja2 rj.length jc2) := fun g hg e => by
    have h1 := (o3.lt _ hg).2
    have h2 := (o4.lt _ e).1
    omega
  have gs := grownBy_set (grownBy_refl w4 (some br)) 6 (.slice ja2 rj.length jc2)
  have HWo := HW.out
  have S0 : Spo w B br rb (w4.setCell ⟨br, 6, none⟩ (.slice ja2 rj.length jc2)) ⟨win, tot, .slice la2 ls.length lc2, over, trk, rest, .slice ja2 rj.length jc2, ls, rj⟩ :=
    ⟨A4.set_ 6 (.slice ja2 rj.length jc2) rfl, C4.kept gs (by simp; exact hne), o3'.kept gs (fun k hk e => by cases e; have := (o3'.lt _ hk).1; omega), o4'.kept gs (fun k hk e => by cases e; have := (o4'.lt _ hk).1; omega), hap,
      ⟨HWo.win, HWo.tot, HWo.over, HWo.trk, HWo.rest, HWo.lines, HWo.rej⟩, grownBy_setNew (p := ⟨br, 6, none⟩) (grownBy_trans K3 K4) hlb _, hlb, hlo, hrB, hbB, hne⟩
  generalize w4.setCell ⟨br, 6, none⟩ (.slice ja2 rj.length jc2) = w5 at *
  clear f4 a4 gs A4 C4 o4 o4' o3 o3' A3 C3 K4 K3 z3 R3 hap HWo R1 G1 HR
  have hq1 : (rj.length) ≤ rj.length + 1 := by omega
  have hq2 : (ls.length) ≤ ls.length + 1 := by omega
  obtain ⟨r0, hr0⟩ : ∃ r0 : Rep, (⟨win, tot, .slice la ls.length lc, over, trk, rest, .slice ja rj.length jc, ls, rj⟩ : Rep) = r0 := ⟨_, rfl⟩
  have hq1 : rj.length ≤ r0.rej.length + 1 := by rw [← hr0]; exact Nat.le_succ _
  have hq2 : ls.length ≤ r0.lines.length + 1 := by rw [← hr0]; exact Nat.le_succ _
  have hq3 : rj.length + 1 ≤ r0.rej.length + 1 := by rw [← hr0]; exact Nat.le_refl _
  have hq4 : ls.length + 1 ≤ r0.lines.length + 1 := by rw [← hr0]; exact Nat.le_refl _
  have HW0 := HW.out
  have Hr0 := Lib.hid hr0
  clear HW HB hr0
  go_upto_region 5 with fail
  obtain ⟨i, hi⟩ : ∃ i : Nat, at_ / 16 % 8 = i := ⟨(at_ / 16 % 8).toNat, by omega⟩
  rw [hi]
  obtain ⟨r, hr⟩ : ∃ r, at_ % 16 = r := ⟨_, rfl⟩
  rw [hr]
  have hr16 : 0 ≤ r ∧ r < 16 := by omega
  have hi0 : (0 : Int) ≤ (i : Int) := by omega
  clear ha15 ha7 hi hr
  obtain ⟨hh0, hh1, hh2⟩ := i64_half hn
  have hwr := IntWalk.i64_in (n / 2) (by omega)
  have a5 := S0.A.cell
  have f5 := S0.A.free
  have hr15 : r = 0 ∨ r = 1 ∨ r = 2 ∨ r = 3 ∨ r = 4 ∨ r = 5 ∨ r = 6 ∨ r = 7 ∨ r = 8 ∨ r = 9 ∨ r = 10 ∨ r = 11 ∨ r = 12 ∨ r = 13 ∨ (r = 14 ∨ r = 15) := by omega
  clear hr16
  rcases hr15 with rfl | rfl | rfl | rfl | rfl | rfl | rfl | rfl | rfl | rfl | rfl | rfl | rfl | rfl | hrr
  · go_upto_region 34 with fail
    have S1 := S0.set ⟨n / 2, tot, .slice la2 ls.length lc2, over, trk, rest, .slice ja2 rj.length jc2, ls, rj⟩ 0 (.int .i64 (n / 2)) rfl S0.ol S0.oj S0.ap ⟨hh0, HW0.tot, HW0.over, HW0.trk, HW0.rest, HW0.lines, HW0.rej⟩
    have hE := S1.e (r := r0) hj1 hq1 hq2
    generalize w5.setCell ⟨br, 0, none⟩ (.int .i64 (n / 2)) = w6 at *
    clear S0 S1 a5 f5
    have hA := (hE).A
    have hC := (hE).C
    dsimp only at hA hC
    go_wp2_with (first
      | (refine load_rep rfl _ rfl _ rfl hA ?_)
      | (refine store_rep rfl _ _ rfl _ rfl rfl rfl rfl _ rfl hC ?_; intro wz Cz Gz))
    (try simp only [Act.put, List.setIfInBounds_toArray, List.set_cons_zero, List.set_cons_succ])
    have hF := (hE).fin Gz
    obtain ⟨td, hbd⟩ := Cz.blk
    have L2 := run_loadVar_row (P := Try.prog) wz rb td 26 _ _ _ hbd Try.underlying26 rfl (by kernel_rfl)
    refine bodyPost_ret (v := repV (n / 2) tot (.slice la2 ls.length lc2) over trk rest (.slice ja2 rj.length jc2)) (by simp [results, Try.results15, asAddr, L2]) rfl ?_
    rw [← Hr0.out] at hF
    exact hF
  · go_upto_region 34 with fail
    have S1 := S0.set ⟨win, n, .slice la2 ls.length lc2, over, trk, rest, .slice ja2 rj.length jc2, ls, rj⟩ 1 (.int .u64 n) rfl S0.ol S0.oj S0.ap ⟨HW0.win, hn, HW0.over, HW0.trk, HW0.rest, HW0.lines, HW0.rej⟩
    have hE := S1.e (r := r0) hj1 hq1 hq2
    generalize w5.setCell ⟨br, 1, none⟩ (.int .u64 n) = w6 at *
    clear S0 S1 a5 f5
    have hA := (hE).A
    have hC := (hE).C
    dsimp only at hA hC
    go_wp2_with (first
      | (refine load_rep rfl _ rfl _ rfl hA ?_)
      | (refine store_rep rfl _ _ rfl _ rfl rfl rfl rfl _ rfl hC ?_; intro wz Cz Gz))
    (try simp only [Act.put, List.setIfInBounds_toArray, List.set_cons_zero, List.set_cons_succ])
    have hF := (hE).fin Gz
    obtain ⟨td, hbd⟩ := Cz.blk
    have L2 := run_loadVar_row (P := Try.prog) wz rb td 26 _ _ _ hbd Try.underlying26 rfl (by kernel_rfl)
    refine bodyPost_ret (v := repV win n (.slice la2 ls.length lc2) over trk rest (.slice ja2 rj.length jc2)) (by simp [results, Try.results15, asAddr, L2]) rfl ?_
    rw [← Hr0.out] at hF
    exact hF
  · go_upto_region 34 with fail
    have S1 := S0.set ⟨win, tot, .slice la2 ls.length lc2, n, trk, rest, .slice ja2 rj.length jc2, ls, rj⟩ 3 (.int .u64 n) rfl S0.ol S0.oj S0.ap ⟨HW0.win, HW0.tot, hn, HW0.trk, HW0.rest, HW0.lines, HW0.rej⟩
    have hE := S1.e (r := r0) hj1 hq1 hq2
    generalize w5.setCell ⟨br, 3, none⟩ (.int .u64 n) = w6 at *
    clear S0 S1 a5 f5
    have hA := (hE).A
    have hC := (hE).C
    dsimp only at hA hC
    go_wp2_with (first
      | (refine load_rep rfl _ rfl _ rfl hA ?_)
      | (refine store_rep rfl _ _ rfl _ rfl rfl rfl rfl _ rfl hC ?_; intro wz Cz Gz))
    (try simp only [Act.put, List.setIfInBounds_toArray, List.set_cons_zero, List.set_cons_succ])
    have hF := (hE).fin Gz
    obtain ⟨td, hbd⟩ := Cz.blk
    have L2 := run_loadVar_row (P := Try.prog) wz rb td 26 _ _ _ hbd Try.underlying26 rfl (by kernel_rfl)
    refine bodyPost_ret (v := repV win tot (.slice la2 ls.length lc2) n trk rest (.slice ja2 rj.length jc2)) (by simp [results, Try.results15, asAddr, L2]) rfl ?_
    rw [← Hr0.out] at hF
    exact hF
  · have hb := and_low (n / 2) 10 (by omega)
    have hb2 : bits .and .i64 (n / 2) 1023 = n / 2 % 1024 := hb
    have hI : I64 (n / 2 % 1024) := by unfold I64; omega
    clear hb
    go_upto_region 34 with fail
    have S1 := S0.set ⟨win, tot, .slice la2 ls.length lc2, over, n / 2 % 1024, rest, .slice ja2 rj.length jc2, ls, rj⟩ 4 (.int .i64 (n / 2 % 1024)) rfl S0.ol S0.oj S0.ap ⟨HW0.win, HW0.tot, HW0.over, hI, HW0.rest, HW0.lines, HW0.rej⟩
    have hE := S1.e (r := r0) hj1 hq1 hq2
    generalize w5.setCell ⟨br, 4, none⟩ (.int .i64 (n / 2 % 1024)) = w6 at *
    clear S0 S1 a5 f5
    have hA := (hE).A
    have hC := (hE).C
    dsimp only at hA hC
    go_wp2_with (first
      | (refine load_rep rfl _ rfl _ rfl hA ?_)
      | (refine store_rep rfl _ _ rfl _ rfl rfl rfl rfl _ rfl hC ?_; intro wz Cz Gz))
    (try simp only [Act.put, List.setIfInBounds_toArray, List.set_cons_zero, List.set_cons_succ])
    have hF := (hE).fin Gz
    obtain ⟨td, hbd⟩ := Cz.blk
    have L2 := run_loadVar_row (P := Try.prog) wz rb td 26 _ _ _ hbd Try.underlying26 rfl (by kernel_rfl)
    refine bodyPost_ret (v := repV win tot (.slice la2 ls.length lc2) over (n / 2 % 1024) rest (.slice ja2 rj.length jc2)) (by simp [results, Try.results15, asAddr, L2]) rfl ?_
    rw [← Hr0.out] at hF
    exact hF
  · go_upto_region 34 with fail
    have S1 := S0.set ⟨win, tot, .slice la2 ls.length lc2, over, trk, n, .slice ja2 rj.length jc2, ls, rj⟩ 5 (.int .u64 n) rfl S0.ol S0.oj S0.ap ⟨HW0.win, HW0.tot, HW0.over, HW0.trk, hn, HW0.lines, HW0.rej⟩
    have hE := S1.e (r := r0) hj1 hq1 hq2
    generalize w5.setCell ⟨br, 5, none⟩ (.int .u64 n) = w6 at *
    clear S0 S1 a5 f5
    have hA := (hE).A
    have hC := (hE).C
    dsimp only at hA hC
    go_wp2_with (first
      | (refine load_rep rfl _ rfl _ rfl hA ?_)
      | (refine store_rep rfl _ _ rfl _ rfl rfl rfl rfl _ rfl hC ?_; intro wz Cz Gz))
    (try simp only [Act.put, List.setIfInBounds_toArray, List.set_cons_zero, List.set_cons_succ])
    have hF := (hE).fin Gz
    obtain ⟨td, hbd⟩ := Cz.blk
    have L2 := run_loadVar_row (P := Try.prog) wz rb td 26 _ _ _ hbd Try.underlying26 rfl (by kernel_rfl)
    refine bodyPost_ret (v := repV win tot (.slice la2 ls.length lc2) over trk n (.slice ja2 rj.length jc2)) (by simp [results, Try.results15, asAddr, L2]) rfl ?_
    rw [← Hr0.out] at hF
    exact hF
  · have hb3 : (rj.length + 1) * 8 ≤ 140737488355328 := by omega
    have hb4 : rj.length + 1 ≤ 9223372036854775807 := by omega
    obtain ⟨gl, cap', hv', hgB, hgl, -⟩ := S0.oj.at_ (fun _ => rfl) (show 0 < rj.length by omega)
    cases hv'
    have hsB : B ≤ w5.heap.size := by omega
    have Hlen := Lib.hid (show (rj ++ [n]).length = rj.length + 1 by simp)
    have Hcs := Lib.hid (show (#[Value.int .u64 n] : Array Value).toList = wordF n from rfl)
    have OJ := S0.oj
    dsimp only at OJ
    have HS := Lib.hid S0
    clear S0
    go_upto_region 34 with (at_builtin; refine app_one elt_word one_word (fun _ => rfl) OJ n hb3 hb4 hsB Hcs.out (by rfl) _ _ (by rfl) (by rfl) (by rfl) ?_; intro v6 w6 o6 g6 l6; have A6 := HS.out.A.kept g6 (by simp [Value.ownBlock]; omega); have a6 := A6.cell; have f6 := A6.free; obtain ⟨ja6, jc6, hv6⟩ := o6.shape; rw [Hlen.out] at hv6; subst hv6)
    have gs := grownBy_set (grownBy_refl w6 (some br)) 6 (.slice ja6 (rj.length + 1) jc6)
    have ol6 := (HS.out.ol.kept g6 (fun k hk e => HS.out.ap k hk e)).kept gs (fun k hk e => by cases e; have := (HS.out.ol.lt _ hk).1; omega)
    have oj6 := o6.kept gs (fun k hk e => by cases e; have := (o6.lt _ hk).1; omega)
    have hE : SpoE r0 w B br rb (w6.setCell ⟨br, 6, none⟩ (.slice ja6 (rj.length + 1) jc6)) ⟨win, tot, .slice la2 ls.length lc2, over, trk, rest, .slice ja6 (rj.length + 1) jc6, ls, rj ++ [n]⟩ :=
      ⟨A6.set_ 6 _ rfl, (HS.out.C.kept g6 (show some gl ≠ some rb by simp; omega)).kept gs (by simp; exact hne), ⟨ol6.rd, oj6.rd, ol6.capOk, oj6.capOk⟩, ol6.from_, oj6.from_,
        ⟨HW0.win, HW0.tot, HW0.over, HW0.trk, HW0.rest, HW0.lines, fun z hz => by
          rcases List.mem_append.1 hz with h | h
          · exact HW0.rej z h
          · obtain rfl := List.mem_singleton.1 h; exact hn⟩,
        grownBy_setNew (p := ⟨br, 6, none⟩) (grownBy_new HS.out.G (show w5.grownBy w6 (some gl) from g6) (show w.heap.size ≤ gl by omega)) hlb _, hlo, hrB, by simp, by rw [Hlen.out]; exact hq3, hq2⟩
    generalize w6.setCell ⟨br, 6, none⟩ (.slice ja6 (rj.length + 1) jc6) = w7 at *
    clear HS a5 f5 a6 f6 A6 gs ol6 oj6 o6 OJ g6 l6
    have hA := (hE).A
    have hC := (hE).C
    dsimp only at hA hC
    go_wp2_with (first
      | (refine load_rep rfl _ rfl _ rfl hA ?_)
      | (refine store_rep rfl _ _ rfl _ rfl rfl rfl rfl _ rfl hC ?_; intro wz Cz Gz))
    (try simp only [Act.put, List.setIfInBounds_toArray, List.set_cons_zero, List.set_cons_succ])
    have hF := (hE).fin Gz
    obtain ⟨td, hbd⟩ := Cz.blk
    have L2 := run_loadVar_row (P := Try.prog) wz rb td 26 _ _ _ hbd Try.underlying26 rfl (by kernel_rfl)
    refine bodyPost_ret (v := repV win tot (.slice la2 ls.length lc2) over trk rest (.slice ja6 (rj.length + 1) jc6)) (by simp [results, Try.results15, asAddr, L2]) rfl ?_
    rw [← Hr0.out] at hF
    exact hF
  · obtain ⟨gl, cap', hv', hgB, hgl, hcap, hcx, hfz⟩ := S0.oj.at_ (fun _ => rfl) (show 0 < rj.length by omega)
    cases hv'
    have fz := hfz 0
    have c0 := hcx 0 _ rfl
    rw [Nat.zero_mul, Nat.add_zero] at c0
    clear hcx hfz
    have hi1 : (0 : Int) < (rj.length : Int) := by omega
    go_upto_region 34 with fail
    have S1 := S0.rejc rfl (show 0 < rj.length by omega) n hn
    have hE := S1.e (r := r0) (by simp only [List.length_set]; exact hj1) (by simp only [List.length_set]; exact hq1) hq2
    clear S1
    generalize w5.setCell ⟨gl, 0, none⟩ (.int .u64 n) = w6 at *
    clear S0 a5 f5 fz c0
    have hA := (hE).A
    have hC := (hE).C
    dsimp only at hA hC
    go_wp2_with (first
      | (refine load_rep rfl _ rfl _ rfl hA ?_)
      | (refine store_rep rfl _ _ rfl _ rfl rfl rfl rfl _ rfl hC ?_; intro wz Cz Gz))
    (try simp only [Act.put, List.setIfInBounds_toArray, List.set_cons_zero, List.set_cons_succ])
    have hF := (hE).fin Gz
    obtain ⟨td, hbd⟩ := Cz.blk
    have L2 := run_loadVar_row (P := Try.prog) wz rb td 26 _ _ _ hbd Try.underlying26 rfl (by kernel_rfl)
    refine bodyPost_ret (v := repV win tot (.slice la2 ls.length lc2) over trk rest (.slice (some ⟨gl, 0, none⟩) rj.length jc2)) (by simp [results, Try.results15, asAddr, L2]) rfl ?_
    rw [← Hr0.out] at hF
    exact hF
  · by_cases hil : i < ls.length
    · obtain ⟨gl, cap', hv', hgB, hgl, hcap, hcx, hfz⟩ := S0.ol.at_ lnF_len hil
      cases hv'
      have fz := hfz (i * 3 + 1)
      (try rw [Nat.add_zero] at fz)
      have c0 := hcx 0 _ rfl
      have c1 := hcx 1 _ rfl
      have c2 := hcx 2 _ rfl
      rw [Nat.add_zero] at c0
      clear hcx hfz
      have hi1 : (i : Int) < (ls.length : Int) := by omega
      have Hil := Lib.hid hil
      go_upto_region 34 with fail
      have S1 := S0.line rfl Hil.out (show 1 < 3 by omega) (.int .u64 n) (⟨ls[i].key, n, ls[i].hi⟩) rfl ⟨hn, (HW0.lines _ (List.getElem_mem Hil.out)).hi, (HW0.lines _ (List.getElem_mem Hil.out)).key⟩
      (try rw [Nat.add_zero] at S1)
      have hE := S1.e (r := r0) hj1 hq1 (by simp only [List.length_set]; exact hq2)
      clear S1
      generalize w5.setCell ⟨gl, i * 3 + 1, none⟩ (.int .u64 n) = w6 at *
      clear S0 a5 f5 fz c0 c1 c2
      have hA := (hE).A
      have hC := (hE).C
      dsimp only at hA hC
      go_wp2_with (first
        | (refine load_rep rfl _ rfl _ rfl hA ?_)
        | (refine store_rep rfl _ _ rfl _ rfl rfl rfl rfl _ rfl hC ?_; intro wz Cz Gz))
      (try simp only [Act.put, List.setIfInBounds_toArray, List.set_cons_zero, List.set_cons_succ])
      have hF := (hE).fin Gz
      obtain ⟨td, hbd⟩ := Cz.blk
      have L2 := run_loadVar_row (P := Try.prog) wz rb td 26 _ _ _ hbd Try.underlying26 rfl (by kernel_rfl)
      refine bodyPost_ret (v := repV win tot (.slice (some ⟨gl, 0, none⟩) ls.length lc2) over trk rest (.slice ja2 rj.length jc2)) (by simp [results, Try.results15, asAddr, L2]) rfl ?_
      rw [← Hr0.out] at hF
      exact hF
    · have hi1 : ¬ ((i : Int) < (ls.length : Int)) := by omega
      clear hil
      go_upto_region 34 with fail
      have hE := S0.e (r := r0) hj1 hq1 hq2
      clear S0 a5 f5
      have hA := (hE).A
      have hC := (hE).C
      dsimp only at hA hC
      go_wp2_with (first
        | (refine load_rep rfl _ rfl _ rfl hA ?_)
        | (refine store_rep rfl _ _ rfl _ rfl rfl rfl rfl _ rfl hC ?_; intro wz Cz Gz))
      (try simp only [Act.put, List.setIfInBounds_toArray, List.set_cons_zero, List.set_cons_succ])
      have hF := (hE).fin Gz
      obtain ⟨td, hbd⟩ := Cz.blk
      have L2 := run_loadVar_row (P := Try.prog) wz rb td 26 _ _ _ hbd Try.underlying26 rfl (by kernel_rfl)
      refine bodyPost_ret (v := repV win tot (.slice la2 ls.length lc2) over trk rest (.slice ja2 rj.length jc2)) (by simp [results, Try.results15, asAddr, L2]) rfl ?_
      rw [← Hr0.out] at hF
      exact hF
  · by_cases hil : i < ls.length
    · obtain ⟨gl, cap', hv', hgB, hgl, hcap, hcx, hfz⟩ := S0.ol.at_ lnF_len hil
      cases hv'
      have fz := hfz (i * 3 + 2)
      (try rw [Nat.add_zero] at fz)
      have c0 := hcx 0 _ rfl
      have c1 := hcx 1 _ rfl
      have c2 := hcx 2 _ rfl
      rw [Nat.add_zero] at c0
      clear hcx hfz
      have hi1 : (i : Int) < (ls.length : Int) := by omega
      have Hil := Lib.hid hil
      go_upto_region 34 with fail
      have S1 := S0.line rfl Hil.out (show 2 < 3 by omega) (.int .u64 n) (⟨ls[i].key, ls[i].lo, n⟩) rfl ⟨(HW0.lines _ (List.getElem_mem Hil.out)).lo, hn, (HW0.lines _ (List.getElem_mem Hil.out)).key⟩
      (try rw [Nat.add_zero] at S1)
      have hE := S1.e (r := r0) hj1 hq1 (by simp only [List.length_set]; exact hq2)
      clear S1
      generalize w5.setCell ⟨gl, i * 3 + 2, none⟩ (.int .u64 n) = w6 at *
      clear S0 a5 f5 fz c0 c1 c2
      have hA := (hE).A
      have hC := (hE).C
      dsimp only at hA hC
      go_wp2_with (first
        | (refine load_rep rfl _ rfl _ rfl hA ?_)
        | (refine store_rep rfl _ _ rfl _ rfl rfl rfl rfl _ rfl hC ?_; intro wz Cz Gz))
      (try simp only [Act.put, List.setIfInBounds_toArray, List.set_cons_zero, List.set_cons_succ])
      have hF := (hE).fin Gz
      obtain ⟨td, hbd⟩ := Cz.blk
      have L2 := run_loadVar_row (P := Try.prog) wz rb td 26 _ _ _ hbd Try.underlying26 rfl (by kernel_rfl)
      refine bodyPost_ret (v := repV win tot (.slice (some ⟨gl, 0, none⟩) ls.length lc2) over trk rest (.slice ja2 rj.length jc2)) (by simp [results, Try.results15, asAddr, L2]) rfl ?_
      rw [← Hr0.out] at hF
      exact hF
    · have hi1 : ¬ ((i : Int) < (ls.length : Int)) := by omega
      clear hil
      go_upto_region 34 with fail
      have hE := S0.e (r := r0) hj1 hq1 hq2
      clear S0 a5 f5
      have hA := (hE).A
      have hC := (hE).C
      dsimp only at hA hC
      go_wp2_with (first
        | (refine load_rep rfl _ rfl _ rfl hA ?_)
        | (refine store_rep rfl _ _ rfl _ rfl rfl rfl rfl _ rfl hC ?_; intro wz Cz Gz))
      (try simp only [Act.put, List.setIfInBounds_toArray, List.set_cons_zero, List.set_cons_succ])
      have hF := (hE).fin Gz
      obtain ⟨td, hbd⟩ := Cz.blk
      have L2 := run_loadVar_row (P := Try.prog) wz rb td 26 _ _ _ hbd Try.underlying26 rfl (by kernel_rfl)
      refine bodyPost_ret (v := repV win tot (.slice la2 ls.length lc2) over trk rest (.slice ja2 rj.length jc2)) (by simp [results, Try.results15, asAddr, L2]) rfl ?_
      rw [← Hr0.out] at hF
      exact hF
  · by_cases hil : i < ls.length
    · obtain ⟨gl, cap', hv', hgB, hgl, hcap, hcx, hfz⟩ := S0.ol.at_ lnF_len hil
      cases hv'
      obtain ⟨gl', cap2, hv', -, -, -, hcy, -⟩ := S0.ol.at_ lnF_len (show 0 < ls.length by omega)
      cases hv'
      have fz := hfz (i * 3)
      have c0 := hcx 0 _ rfl
      have d0 := hcy 0 _ rfl
      rw [Nat.zero_mul, Nat.add_zero] at d0
      rw [Nat.add_zero] at c0
      clear hcx hfz hcy
      have hi1 : (i : Int) < (ls.length : Int) := by omega
      have hi2 : (0 : Int) < (ls.length : Int) := by omega
      have Hil := Lib.hid hil
      go_upto_region 24 with fail
      (refine Tail.wp_region_tail_drawn 10 (by kernel_rfl) (by kernel_rfl) ?_; simp only [List.take, List.drop]; (repeat (go_big_quiet_step (fail))); refine wpQuiet_nil ?_; rintro _ ⟨nq, rfl⟩)
      have S1 := (S0.drewN nq).line rfl Hil.out (show 0 < 3 by omega) (.string ls[0].key) (⟨ls[0].key, ls[i].lo, ls[i].hi⟩) rfl ⟨(HW0.lines _ (List.getElem_mem Hil.out)).lo, (HW0.lines _ (List.getElem_mem Hil.out)).hi, (HW0.lines ls[0] (List.getElem_mem _)).key⟩
      rw [Nat.add_zero] at S1
      have hE := S1.e (r := r0) hj1 hq1 (by simp only [List.length_set]; exact hq2)
      go_upto_region 34 with fail
      clear S1
      generalize (w5.drewN nq).setCell ⟨gl, i * 3, none⟩ (.string ls[0].key) = w6 at *
      clear S0 a5 f5 fz c0 d0
      have hA := (hE).A
      have hC := (hE).C
      dsimp only at hA hC
      go_wp2_with (first
        | (refine load_rep rfl _ rfl _ rfl hA ?_)
        | (refine store_rep rfl _ _ rfl _ rfl rfl rfl rfl _ rfl hC ?_; intro wz Cz Gz))
      (try simp only [Act.put, List.setIfInBounds_toArray, List.set_cons_zero, List.set_cons_succ])
      have hF := (hE).fin Gz
      obtain ⟨td, hbd⟩ := Cz.blk
      have L2 := run_loadVar_row (P := Try.prog) wz rb td 26 _ _ _ hbd Try.underlying26 rfl (by kernel_rfl)
      refine bodyPost_ret (v := repV win tot (.slice (some ⟨gl, 0, none⟩) ls.length lc2) over trk rest (.slice ja2 rj.length jc2)) (by simp [results, Try.results15, asAddr, L2]) rfl ?_
      rw [← Hr0.out] at hF
      exact hF
    · have hi1 : ¬ ((i : Int) < (ls.length : Int)) := by omega
      clear hil
      go_upto_region 34 with fail
      have hE := S0.e (r := r0) hj1 hq1 hq2
      clear S0 a5 f5
      have hA := (hE).A
      have hC := (hE).C
      dsimp only at hA hC
      go_wp2_with (first
        | (refine load_rep rfl _ rfl _ rfl hA ?_)
        | (refine store_rep rfl _ _ rfl _ rfl rfl rfl rfl _ rfl hC ?_; intro wz Cz Gz))
      (try simp only [Act.put, List.setIfInBounds_toArray, List.set_cons_zero, List.set_cons_succ])
      have hF := (hE).fin Gz
      obtain ⟨td, hbd⟩ := Cz.blk
      have L2 := run_loadVar_row (P := Try.prog) wz rb td 26 _ _ _ hbd Try.underlying26 rfl (by kernel_rfl)
      refine bodyPost_ret (v := repV win tot (.slice la2 ls.length lc2) over trk rest (.slice ja2 rj.length jc2)) (by simp [results, Try.results15, asAddr, L2]) rfl ?_
      rw [← Hr0.out] at hF
      exact hF
  · by_cases hil : i < ls.length
    · obtain ⟨gl, cap', hv', hgB, hgl, hcap, hcx, hfz⟩ := S0.ol.at_ lnF_len hil
      cases hv'
      have fz := hfz (i * 3 + 0)
      (try rw [Nat.add_zero] at fz)
      have c0 := hcx 0 _ rfl
      have c1 := hcx 1 _ rfl
      have c2 := hcx 2 _ rfl
      rw [Nat.add_zero] at c0
      clear hcx hfz
      have hi1 : (i : Int) < (ls.length : Int) := by omega
      have Hil := Lib.hid hil
      go_upto_region 34 with fail
      have S1 := S0.line rfl Hil.out (show 0 < 3 by omega) (.string ⟨#[]⟩) (⟨⟨#[]⟩, ls[i].lo, ls[i].hi⟩) rfl ⟨(HW0.lines _ (List.getElem_mem Hil.out)).lo, (HW0.lines _ (List.getElem_mem Hil.out)).hi, (by show (0 : Nat) ≤ _; omega)⟩
      (try rw [Nat.add_zero] at S1)
      have hE := S1.e (r := r0) hj1 hq1 (by simp only [List.length_set]; exact hq2)
      clear S1
      generalize w5.setCell ⟨gl, i * 3, none⟩ (.string ⟨#[]⟩) = w6 at *
      clear S0 a5 f5 fz c0 c1 c2
      have hA := (hE).A
      have hC := (hE).C
      dsimp only at hA hC
      go_wp2_with (first
        | (refine load_rep rfl _ rfl _ rfl hA ?_)
        | (refine store_rep rfl _ _ rfl _ rfl rfl rfl rfl _ rfl hC ?_; intro wz Cz Gz))
      (try simp only [Act.put, List.setIfInBounds_toArray, List.set_cons_zero, List.set_cons_succ])
      have hF := (hE).fin Gz
      obtain ⟨td, hbd⟩ := Cz.blk
      have L2 := run_loadVar_row (P := Try.prog) wz rb td 26 _ _ _ hbd Try.underlying26 rfl (by kernel_rfl)
      refine bodyPost_ret (v := repV win tot (.slice (some ⟨gl, 0, none⟩) ls.length lc2) over trk rest (.slice ja2 rj.length jc2)) (by simp [results, Try.results15, asAddr, L2]) rfl ?_
      rw [← Hr0.out] at hF
      exact hF
    · have hi1 : ¬ ((i : Int) < (ls.length : Int)) := by omega
      clear hil
      go_upto_region 34 with fail
      have hE := S0.e (r := r0) hj1 hq1 hq2
      clear S0 a5 f5
      have hA := (hE).A
      have hC := (hE).C
      dsimp only at hA hC
      go_wp2_with (first
        | (refine load_rep rfl _ rfl _ rfl hA ?_)
        | (refine store_rep rfl _ _ rfl _ rfl rfl rfl rfl _ rfl hC ?_; intro wz Cz Gz))
      (try simp only [Act.put, List.setIfInBounds_toArray, List.set_cons_zero, List.set_cons_succ])
      have hF := (hE).fin Gz
      obtain ⟨td, hbd⟩ := Cz.blk
      have L2 := run_loadVar_row (P := Try.prog) wz rb td 26 _ _ _ hbd Try.underlying26 rfl (by kernel_rfl)
      refine bodyPost_ret (v := repV win tot (.slice la2 ls.length lc2) over trk rest (.slice ja2 rj.length jc2)) (by simp [results, Try.results15, asAddr, L2]) rfl ?_
      rw [← Hr0.out] at hF
      exact hF
  · by_cases hil : 0 < ls.length
    · obtain ⟨gl, cap', hv', hgB, hgl, hcap, hcx, hfz⟩ := S0.ol.at_ lnF_len hil
      cases hv'
      have c0 := hcx 0 _ rfl
      have c1 := hcx 1 _ rfl
      have c2 := hcx 2 _ rfl
      rw [Nat.zero_mul, Nat.zero_add] at c0 c1 c2
      clear hcx hfz
      have hi1 : (0 : Int) < (ls.length : Int) := by omega
      have Hil := Lib.hid hil
      have hb3 : (ls.length + 1) * 32 ≤ 140737488355328 := by omega
      have hb4 : ls.length + 1 ≤ 9223372036854775807 := by omega
      have hLW := HW0.lines ls[0] (List.getElem_mem hil)
      have HS := Lib.hid S0
      go_upto_region 28 with fail
      obtain ⟨x, hx, c0, c1, c2, hLW⟩ : ∃ x, ls[0]'hil = x ∧ w5.cell? ⟨gl, 0, none⟩ = some (.string x.key) ∧ w5.cell? ⟨gl, 1, none⟩ = some (.int .u64 x.lo) ∧ w5.cell? ⟨gl, 2, none⟩ = some (.int .u64 x.hi) ∧ LnW x := ⟨_, rfl, c0, c1, c2, hLW⟩
      have HC0 := Lib.hid fun w' (h : World.grownBy w5 w' none) => ((grownBy_cells h).1 gl 0 hgl (by simp)).trans c0
      have HC1 := Lib.hid fun w' (h : World.grownBy w5 w' none) => ((grownBy_cells h).1 gl 1 hgl (by simp)).trans c1
      have HC2 := Lib.hid fun w' (h : World.grownBy w5 w' none) => ((grownBy_cells h).1 gl 2 hgl (by simp)).trans c2
      have HA := Lib.hid fun w' (h : World.grownBy w5 w' none) => (S0.A.same h).cell
      have HO := Lib.hid fun w' (h : World.grownBy w5 w' none) => S0.ol.same h
      have HN := Lib.hid (show B ≤ w5.heap.size by omega)
      have Hlw := Lib.hid hLW
      have Hlen := Lib.hid (show (ls ++ [x]).length = ls.length + 1 by simp)
      clear S0 a5 f5 c0 c1 c2 hx hLW
      have K6 : World.grownBy w5 w5.drew none := (by (repeat (first | exact grownBy_refl _ _ | assumption | refine grownBy_new_block ?_ _ | refine grownBy_drew ?_ | refine grownBy_drewN ?_ _ | refine grownBy_setNew ?_ (by first | (simp; done) | omega | (simp; omega)) _)))
      (refine Rg.wp_region_rgZ 7 #[false, false, true] (fun w w' => World.grownBy w w' none) (fun _ _ _ _ _ => False) (by kernel_rfl) (by kernel_rfl) (fun w => grownBy_refl w none) (fun _ _ _ h k => grownBy_trans h k) (fun _ _ _ _ _ h => h) ?_; simp only [List.take, List.drop])
      generalize w5.drew = w6 at *
      (refine Rg.tree_quiet 1 rfl (by first | exact Or.inl rfl | exact Or.inr rfl) ?_; simp only [List.take, List.drop, List.length_cons, List.length_nil, List.replicate, Nat.reduceAdd]; (try simp only [List.cons_append]); (try simp only [List.nil_append]); (repeat (go_big_quiet_step (fail))); refine wpQuiet_nil ?_)
      (refine Rg.tree_op rfl rfl ?_; intro x1 mx1 dx1)
      clear dx1
      have ax := HA.out _ (grownBy_trans K6 mx1)
      go_wp2_with fail
      refine ⟨grownBy_refl _ _, ?_⟩
      clear ax
      (refine Rg.tree_quiet 1 rfl (by first | exact Or.inl rfl | exact Or.inr rfl) ?_; simp only [List.take, List.drop, List.length_cons, List.length_nil, List.replicate, Nat.reduceAdd]; (try simp only [List.cons_append]); (try simp only [List.nil_append]); (repeat (go_big_quiet_step (fail))); refine wpQuiet_nil ?_)
      (refine Rg.tree_op rfl rfl ?_; intro x3 mx3 dx3)
      clear dx3
      have ax := HA.out _ (grownBy_trans K6 mx3)
      go_wp2_with fail
      refine ⟨grownBy_refl _ _, ?_⟩
      clear ax
      (refine Rg.tree_quiet 1 rfl (by first | exact Or.inl rfl | exact Or.inr rfl) ?_; simp only [List.take, List.drop, List.length_cons, List.length_nil, List.replicate, Nat.reduceAdd]; (try simp only [List.cons_append]); (try simp only [List.nil_append]); (repeat (go_big_quiet_step (fail))); refine wpQuiet_nil ?_)
      (refine Rg.tree_op rfl rfl ?_; intro x5 mx5 dx5)
      clear dx5
      have cx0 := HC0.out _ (grownBy_trans K6 mx5)
      have cx1 := HC1.out _ (grownBy_trans K6 mx5)
      have cx2 := HC2.out _ (grownBy_trans K6 mx5)
      go_wp2_with fail
      refine ⟨grownBy_refl _ _, ?_⟩
      clear cx0 cx1 cx2
      (refine Rg.tree_op rfl rfl ?_; intro x6 mx6 dx6)
      clear dx6
      go_wp2_with fail
      refine ⟨World.grownBy_alloc _ _ _, ?_⟩
      have R6 := rd_one' lnF_len x6 x #[.string x.key, .int .u64 x.lo, .int .u64 x.hi] 71 rfl
      generalize x6.alloc (.cells #[.string x.key, .int .u64 x.lo, .int .u64 x.hi] 71) = e6 at *
      generalize x6.heap.size = g6 at *
      (refine Rg.tree_nil ?_; intro z mz dz cz)
      have KZ := grownBy_trans K6 mz
      have Rz := RdL.same R6 (dz.out 6 (by omega))
      have Oz := HO.out z KZ
      have zz : B ≤ z.heap.size := Nat.le_trans HN.out KZ.size
      have Az := HS.out.A.same KZ
      dsimp only at Oz Az
      clear dz cz R6 mx1 mx3 mx5 mx6
      have hne2 : some gl ≠ some br := by simp; omega
      go_upto_region 34 with (at_builtin; refine app elt_ln one_ln Oz Rz rfl hb3 hb4 zz (by rfl) _ _ (by rfl) (by rfl) (by rfl) ?_; intro v8 w8 o8 g8 l8; have A8 := Az.kept (r := some gl) g8 hne2; have a8 := A8.cell; have f8 := A8.free; obtain ⟨la8, lc8, hv8⟩ := o8.shape; rw [Hlen.out] at hv8; subst hv8)
      have gs := grownBy_set (grownBy_refl w8 (some br)) 2 (.slice la8 (ls.length + 1) lc8)
      have ol8 := o8.kept gs (fun k hk e => by cases e; have := (o8.lt _ hk).1; omega)
      have oj8 := ((HS.out.oj.same KZ).kept g8 (fun k hk e => HS.out.ap k e hk)).kept gs (fun k hk e => by cases e; have := (HS.out.oj.lt _ hk).1; omega)
      have hE : SpoE r0 w B br rb (w8.setCell ⟨br, 2, none⟩ (.slice la8 (ls.length + 1) lc8)) ⟨win, tot, .slice la8 (ls.length + 1) lc8, over, trk, rest, .slice ja2 rj.length jc2, ls ++ [x], rj⟩ :=
        ⟨A8.set_ 2 _ rfl, ((HS.out.C.same KZ).kept g8 (show some gl ≠ some rb by simp; omega)).kept gs (by simp; exact hne), ⟨ol8.rd, oj8.rd, ol8.capOk, oj8.capOk⟩, ol8.from_, oj8.from_,
          ⟨HW0.win, HW0.tot, HW0.over, HW0.trk, HW0.rest, fun z hz => by
            rcases List.mem_append.1 hz with h | h
            · exact HW0.lines z h
            · obtain rfl := List.mem_singleton.1 h; exact Hlw.out, HW0.rej⟩,
          grownBy_setNew (p := ⟨br, 2, none⟩) (grownBy_new (grownBy_trans HS.out.G KZ) (show z.grownBy w8 (some gl) from g8) (show w.heap.size ≤ gl by omega)) hlb _, hlo, hrB, hj1, hq1, by rw [Hlen.out]; exact hq4⟩
      generalize w8.setCell ⟨br, 2, none⟩ (.slice la8 (ls.length + 1) lc8) = w9 at *
      clear HS a8 f8 A8 gs ol8 oj8 o8 g8 l8 Oz Rz Az KZ mz
      have hA := (hE).A
      have hC := (hE).C
      dsimp only at hA hC
      go_wp2_with (first
        | (refine load_rep rfl _ rfl _ rfl hA ?_)
        | (refine store_rep rfl _ _ rfl _ rfl rfl rfl rfl _ rfl hC ?_; intro wz Cz Gz))
      (try simp only [Act.put, List.setIfInBounds_toArray, List.set_cons_zero, List.set_cons_succ])
      have hF := (hE).fin Gz
      obtain ⟨td, hbd⟩ := Cz.blk
      have L2 := run_loadVar_row (P := Try.prog) wz rb td 26 _ _ _ hbd Try.underlying26 rfl (by kernel_rfl)
      refine bodyPost_ret (v := repV win tot (.slice la8 (ls.length + 1) lc8) over trk rest (.slice ja2 rj.length jc2)) (by simp [results, Try.results15, asAddr, L2]) rfl ?_
      rw [← Hr0.out] at hF
      exact hF
    · have hi1 : ¬ ((0 : Int) < (ls.length : Int)) := by omega
      clear hil
      go_upto_region 34 with fail
      have hE := S0.e (r := r0) hj1 hq1 hq2
      clear S0 a5 f5
      have hA := (hE).A
      have hC := (hE).C
      dsimp only at hA hC
      go_wp2_with (first
        | (refine load_rep rfl _ rfl _ rfl hA ?_)
        | (refine store_rep rfl _ _ rfl _ rfl rfl rfl rfl _ rfl hC ?_; intro wz Cz Gz))
      (try simp only [Act.put, List.setIfInBounds_toArray, List.set_cons_zero, List.set_cons_succ])
      have hF := (hE).fin Gz
      obtain ⟨td, hbd⟩ := Cz.blk
      have L2 := run_loadVar_row (P := Try.prog) wz rb td 26 _ _ _ hbd Try.underlying26 rfl (by kernel_rfl)
      refine bodyPost_ret (v := repV win tot (.slice la2 ls.length lc2) over trk rest (.slice ja2 rj.length jc2)) (by simp [results, Try.results15, asAddr, L2]) rfl ?_
      rw [← Hr0.out] at hF
      exact hF
  · by_cases hil : 0 < ls.length
    · obtain ⟨gl, cap', hv', hgB, hgl, hcap, hcx, hfz⟩ := S0.ol.at_ lnF_len hil
      cases hv'
      have c1 := hcx 1 _ rfl
      rw [Nat.zero_mul, Nat.zero_add] at c1
      clear hcx hfz
      have hi1 : (0 : Int) < (ls.length : Int) := by omega
      go_upto_region 30 with fail
      (refine Tail.wp_region_tail_drawn 9 (by kernel_rfl) (by kernel_rfl) ?_; simp only [List.take, List.drop]; (repeat (go_big_quiet_step (fail))); refine wpQuiet_nil ?_; rintro _ ⟨nq, rfl⟩)
      have hx := (HW0.lines ls[0] (List.getElem_mem hil)).lo
      have S1 := (S0.drewN nq).set ⟨win, tot, .slice (some ⟨gl, 0, none⟩) ls.length lc2, IntKind.u64.wrap (over + ls[0].lo), trk, rest, .slice ja2 rj.length jc2, ls, rj⟩ 3 (.int .u64 (IntKind.u64.wrap (over + ls[0].lo))) rfl S0.ol S0.oj S0.ap ⟨HW0.win, HW0.tot, wrapW _, HW0.trk, HW0.rest, HW0.lines, HW0.rej⟩
      go_upto_region 31 with fail
      generalize (w5.drewN nq).setCell ⟨br, 3, none⟩ (.int .u64 (IntKind.u64.wrap (over + ls[0].lo))) = w6 at *
      generalize IntKind.u64.wrap (over + ls[0].lo) = ov at *
      clear S0 a5 f5 c1 hx
      have a6 := S1.A.cell
      have f6 := S1.A.free
      have hc1 : (1 : Int) ≤ (ls.length : Int) := by omega
      have hcap2 : ls.length ≤ lc2 := hcap
      have hc2 : (ls.length : Int) ≤ (lc2 : Int) := by omega
      have hc3 : (1 : Int) ≤ (lc2 : Int) := by omega
      go_upto_region 34 with fail
      have Rl : RdL lnF 3 w6 (.slice (if lc2 = 1 then some ⟨gl, 0, none⟩ else some ⟨gl, 3, none⟩) (ls.length - 1) (lc2 - 1)) (ls.drop 1) := S1.ol.rd.dropS lnF_len hil hcap2 (lc2 - 1)
      have Fl : From B (.slice (if lc2 = 1 then some ⟨gl, 0, none⟩ else some ⟨gl, 3, none⟩) (ls.length - 1) (lc2 - 1)) := fun a n c e => by
        split at e <;> (cases e; exact hgB)
      generalize (if lc2 = 1 then some (⟨gl, 0, none⟩ : Addr) else some ⟨gl, 3, none⟩) = la6 at *
      have gs := grownBy_set (grownBy_refl w6 (some br)) 2 (.slice la6 (ls.length - 1) (lc2 - 1))
      have oj6 := S1.oj.kept gs (fun k hk e => by cases e; have := (S1.oj.lt _ hk).1; omega)
      have hE : SpoE r0 w B br rb (w6.setCell ⟨br, 2, none⟩ (.slice la6 (ls.length - 1) (lc2 - 1))) ⟨win, tot, .slice la6 (ls.length - 1) (lc2 - 1), ov, trk, rest, .slice ja2 rj.length jc2, ls.drop 1, rj⟩ :=
        ⟨S1.A.set_ 2 _ rfl, S1.C.kept gs (by simp; exact hne), ⟨Rl.keptFrom Fl gs hbB, oj6.rd, fun a n c e => by cases e; omega, oj6.capOk⟩, Fl, oj6.from_,
          ⟨HW0.win, HW0.tot, S1.W.over, HW0.trk, HW0.rest, fun z hz => HW0.lines z (List.mem_of_mem_drop hz), HW0.rej⟩,
          grownBy_setNew (p := ⟨br, 2, none⟩) S1.G hlb _, hlo, hrB, hj1, hq1, by simp only [List.length_drop]; omega⟩
      generalize w6.setCell ⟨br, 2, none⟩ (.slice la6 (ls.length - 1) (lc2 - 1)) = w7 at *
      clear S1 a6 f6 Rl Fl gs oj6
      have hA := (hE).A
      have hC := (hE).C
      dsimp only at hA hC
      go_wp2_with (first
        | (refine load_rep rfl _ rfl _ rfl hA ?_)
        | (refine store_rep rfl _ _ rfl _ rfl rfl rfl rfl _ rfl hC ?_; intro wz Cz Gz))
      (try simp only [Act.put, List.setIfInBounds_toArray, List.set_cons_zero, List.set_cons_succ])
      have hF := (hE).fin Gz
      obtain ⟨td, hbd⟩ := Cz.blk
      have L2 := run_loadVar_row (P := Try.prog) wz rb td 26 _ _ _ hbd Try.underlying26 rfl (by kernel_rfl)
      refine bodyPost_ret (v := repV win tot (.slice la6 (ls.length - 1) (lc2 - 1)) ov trk rest (.slice ja2 rj.length jc2)) (by simp [results, Try.results15, asAddr, L2]) rfl ?_
      rw [← Hr0.out] at hF
      exact hF
    · have hi1 : ¬ ((0 : Int) < (ls.length : Int)) := by omega
      clear hil
      go_upto_region 34 with fail
      have hE := S0.e (r := r0) hj1 hq1 hq2
      clear S0 a5 f5
      have hA := (hE).A
      have hC := (hE).C
      dsimp only at hA hC
      go_wp2_with (first
        | (refine load_rep rfl _ rfl _ rfl hA ?_)
        | (refine store_rep rfl _ _ rfl _ rfl rfl rfl rfl _ rfl hC ?_; intro wz Cz Gz))
      (try simp only [Act.put, List.setIfInBounds_toArray, List.set_cons_zero, List.set_cons_succ])
      have hF := (hE).fin Gz
      obtain ⟨td, hbd⟩ := Cz.blk
      have L2 := run_loadVar_row (P := Try.prog) wz rb td 26 _ _ _ hbd Try.underlying26 rfl (by kernel_rfl)
      refine bodyPost_ret (v := repV win tot (.slice la2 ls.length lc2) over trk rest (.slice ja2 rj.length jc2)) (by simp [results, Try.results15, asAddr, L2]) rfl ?_
      rw [← Hr0.out] at hF
      exact hF
  · have hI : I64 (-(n / 2) - 1) := by unfold I64; omega
    have hwr2 := IntWalk.i64_in (-(n / 2)) (by omega)
    have hwr3 := IntWalk.i64_in (-(n / 2) - 1) (by omega)
    go_upto_region 34 with fail
    have S1 := S0.set ⟨-(n / 2) - 1, tot, .slice la2 ls.length lc2, over, trk, rest, .slice ja2 rj.length jc2, ls, rj⟩ 0 (.int .i64 (-(n / 2) - 1)) rfl S0.ol S0.oj S0.ap ⟨hI, HW0.tot, HW0.over, HW0.trk, HW0.rest, HW0.lines, HW0.rej⟩
    have hE := S1.e (r := r0) hj1 hq1 hq2
    generalize w5.setCell ⟨br, 0, none⟩ (.int .i64 (-(n / 2) - 1)) = w6 at *
    clear S0 S1 a5 f5
    have hA := (hE).A
    have hC := (hE).C
    dsimp only at hA hC
    go_wp2_with (first
      | (refine load_rep rfl _ rfl _ rfl hA ?_)
      | (refine store_rep rfl _ _ rfl _ rfl rfl rfl rfl _ rfl hC ?_; intro wz Cz Gz))
    (try simp only [Act.put, List.setIfInBounds_toArray, List.set_cons_zero, List.set_cons_succ])
    have hF := (hE).fin Gz
    obtain ⟨td, hbd⟩ := Cz.blk
    have L2 := run_loadVar_row (P := Try.prog) wz rb td 26 _ _ _ hbd Try.underlying26 rfl (by kernel_rfl)
    refine bodyPost_ret (v := repV (-(n / 2) - 1) tot (.slice la2 ls.length lc2) over trk rest (.slice ja2 rj.length jc2)) (by simp [results, Try.results15, asAddr, L2]) rfl ?_
    rw [← Hr0.out] at hF
    exact hF
  · rcases hrr with rfl | rfl
    · go_upto_region 34 with fail
      have hE := S0.e (r := r0) hj1 hq1 hq2
      clear S0 a5 f5
      have hA := (hE).A
      have hC := (hE).C
      dsimp only at hA hC
      go_wp2_with (first
        | (refine load_rep rfl _ rfl _ rfl hA ?_)
        | (refine store_rep rfl _ _ rfl _ rfl rfl rfl rfl _ rfl hC ?_; intro wz Cz Gz))
      (try simp only [Act.put, List.setIfInBounds_toArray, List.set_cons_zero, List.set_cons_succ])
      have hF := (hE).fin Gz
      obtain ⟨td, hbd⟩ := Cz.blk
      have L2 := run_loadVar_row (P := Try.prog) wz rb td 26 _ _ _ hbd Try.underlying26 rfl (by kernel_rfl)
      refine bodyPost_ret (v := repV win tot (.slice la2 ls.length lc2) over trk rest (.slice ja2 rj.length jc2)) (by simp [results, Try.results15, asAddr, L2]) rfl ?_
      rw [← Hr0.out] at hF
      exact hF
    · go_upto_region 34 with fail
      have hE := S0.e (r := r0) hj1 hq1 hq2
      clear S0 a5 f5
      have hA := (hE).A
      have hC := (hE).C
      dsimp only at hA hC
      go_wp2_with (first
        | (refine load_rep rfl _ rfl _ rfl hA ?_)
        | (refine store_rep rfl _ _ rfl _ rfl rfl rfl rfl _ rfl hC ?_; intro wz Cz Gz))
      (try simp only [Act.put, List.setIfInBounds_toArray, List.set_cons_zero, List.set_cons_succ])
      have hF := (hE).fin Gz
      obtain ⟨td, hbd⟩ := Cz.blk
      have L2 := run_loadVar_row (P := Try.prog) wz rb td 26 _ _ _ hbd Try.underlying26 rfl (by kernel_rfl)
      refine bodyPost_ret (v := repV win tot (.slice la2 ls.length lc2) over trk rest (.slice ja2 rj.length jc2)) (by simp [results, Try.results15, asAddr, L2]) rfl ?_
      rw [← Hr0.out] at hF
      exact hF
end Go.Proofs.Ytiagjiaahnkefaa

/- Numbers as bytes: what Append appends. -/
namespace Go.Proofs.Ytiagjiaahnkefaa
open Go.RowKit Go.Sort

def byF (b : UInt8) : List Value := [.int .u8 b.toNat]
theorem byF_len (b : UInt8) : (byF b).length = 1 := rfl
theorem by_one (b : UInt8) : byF b = [Value.int .u8 b.toNat] := rfl
theorem one_by : OneF byF := by intro x u hu; simp [byF] at hu; subst hu; rfl
theorem elt_by : Elt 40 5 (.int .u8 0) 1 1 := ⟨Try.underlying40, by kernel_rfl, rfl, by decide⟩
/-- The bytes of a number. -/
def vb (n : Nat) : List UInt8 := if n < 128 then [UInt8.ofNat n] else UInt8.ofNat (n % 128 + 128) :: vb (n / 128)
termination_by n
decreasing_by omega
theorem vb_small {n : Nat} (h : n < 128) : vb n = [UInt8.ofNat n] := by rw [vb, if_pos h]
theorem vb_big {n : Nat} (h : ¬ n < 128) : vb n = UInt8.ofNat (n % 128 + 128) :: vb (n / 128) := by rw [vb, if_neg h]
theorem vb_len : ∀ (k n : Nat), n < 128 ^ (k + 1) → (vb n).length ≤ k + 1
  | 0, n, h => by rw [vb_small (by simpa using h)]; simp
  | k + 1, n, h => by
    by_cases hn : n < 128
    · rw [vb_small hn]; simp
    · rw [vb_big hn, List.length_cons]
      have := vb_len k (n / 128) (by rw [Nat.div_lt_iff_lt_mul (by omega)]; rw [Nat.pow_succ] at h; exact h)
      omega
theorem vb_ten {n : Nat} (h : n < 18446744073709551616) : (vb n).length ≤ 10 := vb_len 9 n (Nat.lt_trans h (by decide))
theorem by_wrap (n : Nat) : IntKind.u8.wrap (n : Int) = ((n % 256 : Nat) : Int) := by
  have := IntKind.wrap_u8 (n : Int)
  rw [this]; omega
theorem by_of {m : Nat} (h : m < 256) : ((UInt8.ofNat m).toNat : Int) = (m : Int) := by
  rw [UInt8.toNat_ofNat']
  omega
theorem by_or (n : Nat) : bits .or .u8 ((n % 256 : Nat) : Int) 128 = ((n % 128 + 128 : Nat) : Int) := by
  have key : ∀ m : Fin 256, bits .or .u8 (((m.val : Nat) : Int)) 128 = ((m.val % 128 + 128 : Nat) : Int) := by decide +kernel
  have := key ⟨n % 256, Nat.mod_lt _ (by omega)⟩
  simp only at this
  rw [this]
  omega

set_option maxHeartbeats 1000000 in
set_option maxRecDepth 100000 in
theorem vappend_c (v : Value) (l : List UInt8) (n : Nat) (w : World) (h : RdL byF 1 w v l) (hn : n < 18446744073709551616) (hl : l.length ≤ 1000000000000) : Calls Try.prog 97 #[v, .int .u64 n] w (RetOwn byF 1 5 (l ++ vb n) w) := by
  obtain ⟨a, c, rfl⟩ := h.shape
  have H := Lib.hid h
  have hn64 : (n : Int) ≤ 18446744073709551615 := by omega
  have hb1 : l.length * 1 ≤ 140737488355328 := by omega
  have hb2 : l.length ≤ 9223372036854775807 := by omega
  have hten := vb_ten hn
  clear h hn
  go_enter Try.func97, Try.ntmps97
  go_upto_region 1 with fail
  have N := own_lit0 (e := 5) byF 1 (Nat.le_refl w.heap.size)
  have R := H.out.same (World.grownBy_alloc w (.cells #[] 5) none)
  go_wp2_with (at_builtin; refine app_lit elt_by one_by N R rfl hb1 hb2 (by simp) (by rfl) _ _ (by rfl) (by rfl) (by rfl) ?_; intro v4 w4 o4 g4 l4)
  have G4 : w.grownBy w4 none := grownBy_trans (World.grownBy_alloc w _ none) g4
  clear N R g4 l4
  go_loopw [1, 5] (fun s1 s5 wk => ∃ (m : Nat) (L : List UInt8), s1 = .int .u64 m ∧ (m : Int) ≤ 18446744073709551615 ∧ Own byF 1 5 w.heap.size wk s5 L ∧ L ++ vb m = l ++ vb n ∧ w.grownBy wk none) (fun s1 _ _ => (intOf s1).toNat)
  case atStart => exact ⟨n, l, rfl, hn64, o4, rfl, G4⟩
  case round =>
    obtain ⟨m, L, rfl, hm, hO, hLv, hg⟩ := hrel
    have hLl : L.length ≤ l.length + 10 := by
      have h1 := congrArg List.length hLv
      rw [List.length_append, List.length_append] at h1
      omega
    have HL := Lib.hid hLv
    have hb3 : (L.length + 1) * 1 ≤ 140737488355328 := by omega
    have hb4 : L.length + 1 ≤ 9223372036854775807 := by omega
    have hsz := hg.size
    clear hLv
    by_cases hbig : m < 128
    · have Hv := Lib.hid (vb_small hbig)
      have hm1 : (m : Int) < 128 := by omega
      have hw : IntKind.u8.wrap (m : Int) = ((UInt8.ofNat m).toNat : Int) := by rw [by_wrap, by_of (by omega)]; omega
      have Hcs := Lib.hid (show (#[Value.int .u8 ((UInt8.ofNat m).toNat : Int)] : Array Value).toList = byF (UInt8.ofNat m) from rfl)
      go_wp2_with (at_builtin; refine app_one elt_by one_by byF_len hO (UInt8.ofNat m) hb3 hb4 hsz Hcs.out rfl (.tmp 19) (.tmp 22) rfl rfl rfl ?_; intro v5 w5 o5 g5 l5)
      go_ret
      exact ⟨_, rfl, by rw [← HL.out, Hv.out]; exact o5, grown_own hg hO (Nat.le_refl _) g5⟩
    · have Hv := Lib.hid (vb_big hbig)
      have hm1 : (128 : Int) ≤ (m : Int) := by omega
      have hm2 : ¬ ((m : Int) < 128) := by omega
      obtain ⟨q, hq⟩ : ∃ q : Nat, m % 256 = q := ⟨_, rfl⟩
      have hw1 : IntKind.u8.wrap (m : Int) = (q : Int) := by rw [by_wrap, hq]
      obtain ⟨b0, hb0⟩ : ∃ b0, UInt8.ofNat (m % 128 + 128) = b0 := ⟨_, rfl⟩
      have hw2 : bits .or .u8 (q : Int) 128 = (b0.toNat : Int) := by rw [← hq, by_or, ← hb0, by_of (by omega)]
      rw [hb0] at Hv
      clear hb0 hq
      have Hcs := Lib.hid (show (#[Value.int .u8 (b0.toNat : Int)] : Array Value).toList = byF b0 from rfl)
      go_wp2_with (at_builtin; refine app_one elt_by one_by byF_len hO b0 hb3 hb4 hsz Hcs.out rfl (.tmp 11) (.tmp 15) rfl rfl rfl ?_; intro v5 w5 o5 g5 l5)
      exact ⟨⟨m / 128, L ++ [b0], rfl, by omega, o5, by rw [List.append_assoc, List.singleton_append, ← Hv.out, HL.out], grown_own hg hO (Nat.le_refl _) g5⟩, by simp [intOf]; omega⟩
end Go.Proofs.Ytiagjiaahnkefaa

/- A buffer of bytes behind a pointer; texts that are appended. -/
namespace Go.Proofs.Ytiagjiaahnkefaa
open Go.RowKit Go.Sort

def natF (n : Nat) : List Value := [.int .u64 n]
theorem natF_len (n : Nat) : (natF n).length = 1 := rfl
theorem nat_one (n : Nat) : natF n = [Value.int .u64 n] := rfl
def vbs (ns : List Nat) : List UInt8 := ns.flatMap vb
theorem vbs_snoc (ns : List Nat) (n : Nat) : vbs (ns ++ [n]) = vbs ns ++ vb n := by simp [vbs]
theorem vbs_len {ns : List Nat} (h : ∀ n ∈ ns, n < 18446744073709551616) : (vbs ns).length ≤ 10 * ns.length := by
  induction ns with
  | nil => simp [vbs]
  | cons n ns ih =>
    have h1 := ih fun x hx => h x (List.mem_cons_of_mem _ hx)
    have h2 := vb_ten (h n (by simp))
    simp only [vbs, List.flatMap_cons, List.length_append, List.length_cons] at *
    omega
/-- The buffer at g. -/
structure BufAt (B : Nat) (w : World) (g : Nat) (l : List UInt8) : Prop where
  ex : ∃ v, Blk w g #[v] ∧ Own byF 1 5 B w v l
  lt : g < B
theorem BufAt.base {B B' : Nat} {w : World} {g : Nat} {l : List UInt8} (h : BufAt B w g l) (hB : B' ≤ B) (hg : g < B') : BufAt B' w g l := by
  obtain ⟨v, h1, h2⟩ := h.ex
  exact ⟨⟨v, h1, h2.base fun k hk => Nat.le_trans hB (h2.lt k hk).1⟩, hg⟩
theorem BufAt.same {B : Nat} {w w' : World} {g : Nat} {l : List UInt8} (h : BufAt B w g l) (hg : w.grownBy w' none) : BufAt B w' g l := by
  obtain ⟨v, h1, h2⟩ := h.ex
  exact ⟨⟨v, h1.same hg, h2.same hg⟩, h.lt⟩
def baseK (B h k : Nat) : Nat := if k = 0 then B else h
theorem baseK_0 (B h : Nat) : baseK B h 0 = B := rfl
theorem baseK_s (B h : Nat) {k : Nat} (hk : k ≠ 0) : baseK B h k = h := if_neg hk
def NumPost (B : Nat) (w : World) (g : Nat) (l : List UInt8) (e : Ending) (w' : World) : Prop := e = .returned (.tuple #[]) ∧ BufAt B w' g l ∧ w.grownBy w' (some g)

theorem cells_str (s : ByteArray) : cellsOf byF s.data.toList = Lib.strCells s := by
  have : ∀ l : List UInt8, cellsOf byF l = l.map fun b => Value.int .u8 b.toNat := by
    intro l
    induction l with
    | nil => rfl
    | cons x l ih => simp only [cellsOf, List.flatMap_cons, List.map_cons] at *; rw [ih]; rfl
  rw [this]; rfl
theorem info_by : (Try.prog.info? 5).map (fun i => (i.zero, i.size, i.bytes)) = some (some (.int .u8 0), 1, 1) := by kernel_rfl
theorem app_str {B : Nat} {w : World} {v : Value} {l : List UInt8} {o : Oper} {a : Act} {ops : Array Oper} {rest : List Oper} {Q : Exit → Act → World → Prop} (hown : Own byF 1 5 B w v l) (s : ByteArray) (hb : l.length + s.size ≤ 140737488355328) (hbase : B ≤ w.heap.size)
    (hgd : o.guard = none) (sl x : Operand) (ho : o.op = .call { callee := .builtin .append, args := #[sl, x], argTypes := #[40, 9] }) (hs : a.eval sl = v) (hx : a.eval x = .string s)
    (h : ∀ v' w', Own byF 1 5 B w' v' (l ++ s.data.toList) → w.grownBy w' v.ownBlock → wpList Try.prog ops Q rest (a.put o.dst v') w') : wpList Try.prog ops Q (o :: rest) a w := by
  obtain ⟨i, hi, hz0, hz1, hz2⟩ := info_parts info_by
  refine Lib.wpList_append_own_string w hgd sl x 40 9 ho B 5 i Try.underlying40 Try.underlying9 hi hz0 hz1 hz2 v l.length _ hs hown s hx (by unfold maxLen; omega) hb hbase fun v' w' h1 h2 _ => h v' w' ?_ h2
  unfold Own
  rw [cellsOf_append, cells_str, List.length_append]
  have e : s.data.toList.length = s.size := Array.length_toList
  rw [e]; exact h1

end Go.Proofs.Ytiagjiaahnkefaa

/- Reports as bytes: the program's encoder. -/
namespace Go.Proofs.Ytiagjiaahnkefaa
open Go.RowKit Go.Sort

set_option maxHeartbeats 1000000 in
set_option maxRecDepth 100000 in
theorem number_c (B g : Nat) (l : List UInt8) (nv : Value) (ns : List Nat) (w : World) (h : BufAt B w g l) (hn : RdL natF 1 w nv ns) (hni : NotIn nv g) (hN : ∀ n ∈ ns, n < 18446744073709551616) (hl : l.length + 10 * ns.length ≤ 1000000000) (hB : B ≤ w.heap.size) :
    Calls Try.prog 55 #[.pointer (some ⟨g, 0, none⟩), nv] w (NumPost (baseK B w.heap.size ns.length) w g (l ++ vbs ns)) := by
  obtain ⟨na, nc, rfl⟩ := hn.shape
  have hm := hn.2.1
  have HN := Lib.hid hn
  have HI := Lib.hid hni
  have HW := Lib.hid hN
  have H := Lib.hid h
  clear hn hni hN h
  go_enter Try.func55, Try.ntmps55
  go_wp2_with fail
  go_loopw [8] (fun s8 wk => ∃ k : Nat, k ≤ ns.length ∧ s8 = .int .i64 k ∧ BufAt (baseK B w.heap.size k) wk g (l ++ vbs (ns.take k)) ∧ w.grownBy wk (some g)) (fun s8 _ => ns.length - (intOf s8).toNat)
  case atStart => exact ⟨0, Nat.zero_le _, rfl, by rw [baseK_0]; simpa [vbs] using H.out, grownBy_refl _ _⟩
  case round =>
    obtain ⟨k, hk, rfl, hb, hg⟩ := hrel
    by_cases hlt : k < ns.length
    · have hR : RdL natF 1 wr (.slice na ns.length nc) ns := Rd.kept HN.out hg fun b e => by cases e; exact HI.out
      obtain ⟨gn, on, cn, hv, hgn, hcn⟩ := RdL.one nat_one hR hlt
      cases hv
      have HS := Lib.hid (show l ++ vbs (ns.take (k + 1)) = (l ++ vbs (ns.take k)) ++ vb ns[k] by rw [List.take_succ_eq_append_getElem hlt, vbs_snoc, List.append_assoc])
      have hll : (vbs (ns.take k)).length ≤ 10 * (ns.take k).length := vbs_len fun n hn => HW.out n (List.mem_of_mem_take hn)
      have hnk := HW.out _ (List.getElem_mem hlt)
      have hlen : (l ++ vbs (ns.take k)).length ≤ 1000000000000 := by
        rw [List.length_append]
        rw [List.length_take] at hll
        omega
      clear hll hR
      generalize l ++ vbs (ns.take k) = L at *
      generalize ns[k] = n at *
      obtain ⟨v, h1, h2⟩ := hb.ex
      obtain ⟨va, vc, rfl⟩ := h2.shape
      have hgl := h1.lt
      have hgB : g < w.heap.size := Nat.lt_of_lt_of_le H.out.lt hB
      have Hc := Lib.hid (vappend_c _ L n wr h2.rd hnk hlen)
      have c1 := h1.cell
      have f1 := h1.free
      have hBs := Nat.le_trans hB hg.size
      have HB1 := Lib.hid h1
      clear hnk h2 hb
      go_wp2_with (go_at_call 97; refine Hc.out.mono ?_; rintro e w2 ⟨v2, rfl, o2, g2⟩; obtain ⟨a2, c2, rfl⟩ := o2.shape; have b2 := HB1.out.same g2; have d2 := b2.cell; have e2 := b2.free)
      have o3 := (o2.base (fun q hq => Nat.le_trans hg.size (o2.lt q hq).1)).kept (grownBy_set (grownBy_refl w2 (some g)) 0 (.slice a2 (L ++ vb n).length c2)) (fun q hq e => by cases e; have := (o2.lt _ hq).1; omega)
      exact ⟨⟨k + 1, by omega, by go_num, by rw [HS.out, baseK_s _ _ (by omega)]; exact ⟨⟨_, b2.set_ 0 _ rfl, by rw [← List.length_append]; exact o3⟩, hgB⟩, grownBy_trans hg (grownBy_set (grownBy_some g2 (some g)) _ _)⟩, by simp [intOf]; omega⟩
    · have hke : ns.take k = ns := List.take_of_length_le (by omega)
      rw [hke] at hb
      obtain rfl : k = ns.length := by omega
      have HBf := Lib.hid hb
      clear hb
      go_wp2_with fail
      go_end0
      exact ⟨rfl, HBf.out, hg⟩

set_option maxHeartbeats 1000000 in
set_option maxRecDepth 100000 in
theorem text_c (B g : Nat) (l : List UInt8) (s : ByteArray) (w : World) (h : BufAt B w g l) (hs : s.size ≤ 1000000) (hl : l.length ≤ 100000000) (hB : B ≤ w.heap.size) :
    Calls Try.prog 56 #[.pointer (some ⟨g, 0, none⟩), .string s] w (NumPost w.heap.size w g (l ++ vb s.size ++ s.data.toList)) := by
  have H := Lib.hid (h.same (World.grownBy_alloc w (.cells #[.int .u64 s.size] 22) none))
  have H2 := Lib.hid h
  have hgB := h.lt
  have hss : (s.size : Int) ≤ 1000000 := by omega
  have hR := Blk.one (Blk.new w #[.int .u64 s.size] 22) natF_len s.size rfl
  have hwz : w.heap.size < (w.alloc (.cells #[.int .u64 s.size] 22)).heap.size := by simp
  have hc := number_c B g l _ [s.size] _ H.out hR (fun a n c e => by cases e; simp; omega) (by simp; omega) (by simp; omega) (by omega)
  rw [show vbs [s.size] = vb s.size by simp [vbs], baseK_s _ _ (by simp)] at hc
  have Hc := Lib.hid hc
  have hvl := vb_ten (show s.size < 18446744073709551616 by omega)
  have G0 : w.grownBy (w.alloc (.cells #[.int .u64 s.size] 22)) none := World.grownBy_alloc w _ none
  clear h hR hc
  go_enter Try.func56, Try.ntmps56
  go_upto_region 1 with (go_at_call 55; refine Hc.out.mono ?_; rintro e w2 ⟨rfl, b2, g2⟩)
  have K2 := grownBy_trans (grownBy_some G0 (some g)) g2
  clear Hc H G0
  obtain ⟨v, h1, h2⟩ := b2.ex
  obtain ⟨va, vc, rfl⟩ := h2.shape
  have c1 := h1.cell
  have f1 := h1.free
  have hBs := Nat.le_of_lt (Nat.lt_of_lt_of_le hwz g2.size)
  have hb9 : (l ++ vb s.size).length + s.size ≤ 140737488355328 := by rw [List.length_append]; omega
  have hne : ∀ q, (Value.slice va (l ++ vb s.size).length vc).ownBlock = some q → w.heap.size < q := fun q hq => Nat.lt_of_lt_of_le hwz (h2.lt q hq).1
  have HB1 := Lib.hid h1
  generalize l ++ vb s.size = L at *
  go_wp2_with (at_builtin; refine app_str h2 s hb9 g2.size (by rfl) _ _ (by rfl) (by rfl) (by rfl) ?_; intro v3 w3 o3 g3; obtain ⟨a3, c3, rfl⟩ := o3.shape; have b3 := HB1.out.kept g3 (fun e => by have := hne _ e; omega); have d3 := b3.cell; have e3 := b3.free)
  go_end0
  have hgB := H2.out.lt
  have e9 : (L ++ s.data.toList).length = L.length + s.size := by rw [List.length_append]; congr 1
  have o4 := o3.kept (grownBy_set (grownBy_refl w3 (some g)) 0 (.slice a3 (L ++ s.data.toList).length c3)) (fun q hq e => by cases e; have := (o3.lt _ hq).1; omega)
  have K3 : w.grownBy w3 (some g) := by
    cases hq : (Value.slice va L.length vc).ownBlock with
    | none => rw [hq] at g3; exact grownBy_trans K2 (grownBy_some g3 _)
    | some q => rw [hq] at g3; exact grownBy_new K2 g3 (by have := hne q hq; omega)
  rw [e9] at o4
  exact ⟨rfl, ⟨⟨_, b3.set_ 0 _ rfl, o4.base fun q hq => Nat.le_trans (Nat.le_of_lt hwz) (o4.lt q hq).1⟩, by omega⟩, grownBy_set K3 _ _⟩
end Go.Proofs.Ytiagjiaahnkefaa
