/- What stands while an operation is read: its block, the reader, the result's block. -/
import Derived.Test.YtniokdflljchgaaOpS
import Derived.Test.YtniokdflljchgaaScrD
import Derived.Test.YtniokdflljchgaaIn
import Derived.Test.YtniokdflljchgaaOwn2
namespace Go.Proofs.Ytniokdflljchgaa
open Go.RowKit Go.Sort

structure OpS (B g bx : Nat) (R : List Nat) (w0 : World) (x : OpR) (l : List UInt8) (e : Int) (w : World) : Prop where
  res : ∀ b ∈ R, Blk w b op0 ∧ g < b ∧ b < bx
  box : Blk w bx (opA x.kind x.vd x.time x.shard x.key x.vp)
  rdr : Rdr B w g l e
  od : RdL byF 1 w x.vd x.data
  oi : InB (bx + 1) w.heap.size x.vd
  oc : ∀ a n c, x.vd = .slice a n c → n ≤ c
  op : Own intF 1 3 (bx + 1) w x.vp x.picks
  ap : ∀ k, x.vp.ownBlock = some k → NotIn x.vd k
  G : w0.grownBy w (some g)
  hb : g < bx
  hw : w0.heap.size ≤ bx
variable {B g bx : Nat} {R : List Nat} {w0 w w' : World} {x : OpR} {l l' : List UInt8} {e e' : Int}
theorem OpS.call (h : OpS B g bx R w0 x l e w) (hr : Rdr B w' g l' e') (hg : w.grownBy w' (some g)) : OpS B g bx R w0 x l' e' w' := by
  have h3 := h.hb
  exact ⟨fun b hb => ⟨(h.res b hb).1.kept hg (by have := (h.res b hb).2; simp; omega), (h.res b hb).2⟩, h.box.kept hg (by simp; omega), hr, Rd.kept h.od hg (fun k e => by cases e; exact h.oi.notIn (.inl (by omega))), h.oi.wide (Nat.le_refl _) hg.size, h.oc, h.op.kept hg (fun k hk e => by cases e; have := (h.op.lt _ hk).1; omega), h.ap, grownBy_trans h.G hg, h3, h.hw⟩
theorem OpS.same (h : OpS B g bx R w0 x l e w) (hg : w.grownBy w' none) : OpS B g bx R w0 x l e w' :=
  ⟨fun b hb => ⟨(h.res b hb).1.same hg, (h.res b hb).2⟩, h.box.same hg, h.rdr.same hg, h.od.same hg, h.oi.wide (Nat.le_refl _) hg.size, h.oc, h.op.same hg, h.ap, grownBy_trans h.G (grownBy_some hg _), h.hb, h.hw⟩
/-- A field is written. -/
theorem OpS.set (h : OpS B g bx R w0 x l e w) (y : OpR) (i : Nat) (v : Value) (he : (opA x.kind x.vd x.time x.shard x.key x.vp).setIfInBounds i v = opA y.kind y.vd y.time y.shard y.key y.vp)
    (od : RdL byF 1 w y.vd y.data) (oi : InB (bx + 1) w.heap.size y.vd) (oc : ∀ a n c, y.vd = .slice a n c → n ≤ c) (op : Own intF 1 3 (bx + 1) w y.vp y.picks) (ap : ∀ k, y.vp.ownBlock = some k → NotIn y.vd k) : OpS B g bx R w0 y l e (w.setCell ⟨bx, i, none⟩ v) := by
  have h3 := h.hb
  have h4 := h.hw
  have h5 := h.rdr.hg
  have hg : w.grownBy (w.setCell ⟨bx, i, none⟩ v) (some bx) := grownBy_set (grownBy_refl w (some bx)) i v
  exact ⟨fun b hb => ⟨(h.res b hb).1.kept hg (by have := (h.res b hb).2; simp; omega), (h.res b hb).2⟩, h.box.set_ i v he, h.rdr.kept hg (by simp; omega) (fun k e => by cases e; omega), Rd.kept od hg (fun k e => by cases e; exact oi.notIn (.inl (by omega))), oi.wide (Nat.le_refl _) hg.size, oc, op.kept hg (fun k hk e => by cases e; have := (op.lt _ hk).1; omega), ap, grownBy_new h.G hg (by omega), h3, h4⟩
theorem OpS.setE (h : OpS B g bx R w0 x l e w) (f : Int) : OpS B g bx R w0 x l f (w.setCell ⟨g, 1, none⟩ (.int .i64 f)) := h.call (h.rdr.setE f).1 (h.rdr.setE f).2
/-- A number has been appended to the picks: the block before the field is written, and behind. -/
theorem OpS.app (h : OpS B g bx R w0 x l e w) {v' : Value} {q' : List Int} (o' : Own intF 1 3 (bx + 1) w' v' q') (hg : w.grownBy w' x.vp.ownBlock) (hl : Lies x.vp v' w.heap.size) :
    Blk w' bx (opA x.kind x.vd x.time x.shard x.key x.vp) ∧ OpS B g bx R w0 { x with vp := v', picks := q' } l e (w'.setCell ⟨bx, 5, none⟩ v') := by
  have h3 := h.hb
  have h4 := h.hw
  have h5 := h.rdr.hg
  have hlo : ∀ k, x.vp.ownBlock = some k → bx + 1 ≤ k := fun k hk => (h.op.lt k hk).1
  have hb := h.box.kept hg (fun e => by have := hlo _ e; omega)
  refine ⟨hb, ?_⟩
  have hs : w'.grownBy (w'.setCell ⟨bx, 5, none⟩ v') (some bx) := grownBy_set (grownBy_refl w' (some bx)) 5 v'
  have hd := Rd.kept h.od hg (fun k e => h.ap k e)
  have hG : w0.grownBy w' (some g) := by
    cases hq : x.vp.ownBlock with
    | none => rw [hq] at hg; exact grownBy_trans h.G (grownBy_some hg _)
    | some k => rw [hq] at hg; exact grownBy_new h.G hg (by have := hlo k hq; omega)
  refine ⟨fun b hb => ⟨((h.res b hb).1.kept hg (fun e => by have := hlo _ e; have := (h.res b hb).2; omega)).kept hs (by have := (h.res b hb).2; simp; omega), (h.res b hb).2⟩, hb.set_ 5 v' rfl, (h.rdr.kept hg (fun e => by have := hlo _ e; omega) (fun k hk => by have := hlo _ hk; omega)).kept hs (by simp; omega) (fun k e => by cases e; omega),
    Rd.kept hd hs (fun k e => by cases e; exact h.oi.notIn (.inl (by omega))), h.oi.wide (Nat.le_refl _) (Nat.le_trans hg.size hs.size), h.oc, o'.kept hs (fun k hk e => by cases e; have := (o'.lt _ hk).1; omega), fun k hk => ?_, grownBy_new hG hs (by omega), h3, h4⟩
  rcases hl with h1 | ⟨m, h1, h2⟩
  · exact h.ap k (h1 ▸ hk)
  · dsimp only at hk
    rw [h1] at hk; cases hk; exact h.oi.notIn (.inr h2)
/-- What is left of an operation that was read. -/
def OpP (B g : Nat) (w : World) (F : OpR × List UInt8 × Int) (en : Ending) (w' : World) : Prop :=
  ∃ vd vp, en = .returned (opV F.1.kind vd F.1.time F.1.shard F.1.key vp) ∧ OpRd w' ⟨F.1.kind, vd, F.1.time, F.1.shard, F.1.key, vp, F.1.data, F.1.picks⟩ ∧ InB w.heap.size w'.heap.size vd ∧ InB w.heap.size w'.heap.size vp ∧ Rdr B w' g F.2.1 F.2.2 ∧ w.grownBy w' (some g)
theorem inB_nil (lo hi : Nat) (n c : Nat) : InB lo hi (.slice none n c) := fun a n' c' e => by cases e
theorem OpS.rd (h : OpS B g bx R w0 x l e w) : OpRd w x ∧ InB (bx + 1) w.heap.size x.vd ∧ InB (bx + 1) w.heap.size x.vp :=
  ⟨⟨h.od, h.op.rd, h.oc, fun a n c hv => by have := h.op; rw [hv] at this; obtain ⟨_, _, hv2⟩ := this.shape; cases hv2; exact this.cap⟩, h.oi, h.op.inB⟩
/-- The result has been written. -/
theorem OpS.fin (h : OpS B g bx R w0 x l e w) {b2 : Nat} (hb2 : b2 ∈ R) (hg : w.grownBy w' (some b2)) (hw : w0.heap.size ≤ b2) {F : OpR × List UInt8 × Int} (hF : F = (⟨x.kind, .slice none 0 0, x.time, x.shard, x.key, .slice none 0 0, x.data, x.picks⟩, l, e)) :
    OpP B g w0 F (.returned (opV x.kind x.vd x.time x.shard x.key x.vp)) w' := by
  subst hF
  obtain ⟨h1, h2, h3⟩ := h.rd
  obtain ⟨-, h4, h5⟩ := h.res b2 hb2
  have h6 := h.rdr.hg
  refine ⟨x.vd, x.vp, rfl, ⟨Rd.kept h.od hg (fun k e => by cases e; exact h2.notIn (.inl (by omega))), (h.op.kept hg (fun k hk e => by cases e; have := (h.op.lt _ hk).1; omega)).rd, h1.dcap, h1.pcap⟩, (h2.wide (by omega) hg.size), h3.wide (by omega) hg.size, h.rdr.kept hg (by simp; omega) (fun k e => by cases e; omega), grownBy_new h.G hg hw⟩
end Go.Proofs.Ytniokdflljchgaa
