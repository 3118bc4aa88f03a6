/- The program's writer of operations. -/
import Derived.Test.YtniokdflljchgaaScr2
import Derived.Test.YtniokdflljchgaaRdr
import Derived.Test.YtniokdflljchgaaBuf
namespace Go.Proofs.Ytniokdflljchgaa
open Go.RowKit Go.Sort

theorem app_strT {st : TypeId} (hst : Try.prog.underlying st = some (.slice 5)) {B : Nat} {w : World} {v : Value} {l : List UInt8} {o : Oper} {a : Act} {ops : Array Oper} {rest : List Oper} {Q : Exit → Act → World → Prop} (hown : Own byF 1 5 B w v l) (s : ByteArray) (hb : l.length + s.size ≤ 140737488355328) (hbase : B ≤ w.heap.size)
    (hgd : o.guard = none) (sl x : Operand) (ho : o.op = .call { callee := .builtin .append, args := #[sl, x], argTypes := #[st, 9] }) (hs : a.eval sl = v) (hx : a.eval x = .string s)
    (h : ∀ v' w', Own byF 1 5 B w' v' (l ++ s.data.toList) → w.grownBy w' v.ownBlock → wpList Try.prog ops Q rest (a.put o.dst v') w') : wpList Try.prog ops Q (o :: rest) a w := by
  obtain ⟨i, hi, hz0, hz1, hz2⟩ := info_parts info_by
  refine Lib.wpList_append_own_string w hgd sl x st 9 ho B 5 i hst Try.underlying9 hi hz0 hz1 hz2 v l.length _ hs hown s hx (by unfold maxLen; omega) hb hbase fun v' w' h1 h2 _ => h v' w' ?_ h2
  unfold Own
  rw [cellsOf_append, cells_str, List.length_append]
  have e : s.data.toList.length = s.size := Array.length_toList
  rw [e]; exact h1
set_option maxHeartbeats 1000000 in
set_option maxRecDepth 100000 in
theorem wnum_c (B g : Nat) (l : List UInt8) (n : Nat) (w : World) (h : BufAt B w g l) (hn : n < 4611686018427387904) (hl : l.length ≤ 1000000000) (hB : B ≤ w.heap.size) :
    Calls Try.prog 43 #[.pointer (some ⟨g, 0, none⟩), .int .i64 n] w (NumPost w.heap.size w g (l ++ vb n)) := by
  have hgB := h.lt
  obtain ⟨v, h1, h2⟩ := h.ex
  obtain ⟨va, vc, rfl⟩ := h2.shape
  have HB := Lib.hid h1
  have HC := Lib.hid (vappend_c _ l n w h2.rd (by omega) (by omega))
  have c1 := h1.cell
  have f1 := h1.free
  have hw : IntKind.u64.wrap (n : Int) = (n : Int) := IntWalk.u64_in _ (by omega)
  clear h h1 h2
  go_enter Try.func43, Try.ntmps43
  go_wp2_with (go_at_call 68; refine HC.out.mono ?_; rintro e w2 ⟨v2, rfl, o2, g2⟩; obtain ⟨a2, c2, rfl⟩ := o2.shape; have b2 := HB.out.same g2; have d2 := b2.cell; have e2 := b2.free)
  go_end0
  have o3 := o2.kept (grownBy_set (grownBy_refl w2 (some g)) 0 (.slice a2 (l ++ vb n).length c2)) (fun q hq e => by cases e; have := (o2.lt _ hq).1; omega)
  exact ⟨rfl, ⟨⟨_, b2.set_ 0 _ rfl, by rw [← List.length_append]; exact o3⟩, by omega⟩, grownBy_set (grownBy_some g2 (some g)) _ _⟩

set_option maxHeartbeats 1000000 in
set_option maxRecDepth 100000 in
theorem wtext_c (B g : Nat) (l : List UInt8) (s : ByteArray) (w : World) (h : BufAt B w g l) (hs : s.size ≤ 1000000) (hl : l.length ≤ 100000000) (hB : B ≤ w.heap.size) :
    Calls Try.prog 71 #[.pointer (some ⟨g, 0, none⟩), .string s] w (NumPost w.heap.size w g (l ++ vb s.size ++ s.data.toList)) := by
  have hgB := h.lt
  have hss : (s.size : Int) ≤ 1000000 := by omega
  have Hc := Lib.hid (wnum_c B g l s.size w h (by omega) (by omega) hB)
  have hvl := vb_ten (show s.size < 18446744073709551616 by omega)
  clear h
  go_enter Try.func71, Try.ntmps71
  go_upto_region 1 with (go_at_call 43; refine Hc.out.mono ?_; rintro e w2 ⟨rfl, b2, g2⟩)
  clear Hc
  obtain ⟨v, h1, h2⟩ := b2.ex
  obtain ⟨va, vc, rfl⟩ := h2.shape
  have c1 := h1.cell
  have f1 := h1.free
  have hBs := g2.size
  have hb9 : (l ++ vb s.size).length + s.size ≤ 140737488355328 := by rw [List.length_append]; omega
  have hne : ∀ q, (Value.slice va (l ++ vb s.size).length vc).ownBlock = some q → w.heap.size ≤ q := fun q hq => (h2.lt q hq).1
  have HB1 := Lib.hid h1
  have HGB := Lib.hid hgB
  generalize l ++ vb s.size = L at *
  go_wp2_with (at_builtin; refine app_strT Try.underlying73 h2 s hb9 g2.size (by rfl) _ _ (by rfl) (by rfl) (by rfl) ?_; intro v3 w3 o3 g3; obtain ⟨a3, c3, rfl⟩ := o3.shape; have b3 := HB1.out.kept g3 (fun e => by have := hne _ e; omega); have d3 := b3.cell; have e3 := b3.free)
  go_end0
  have hgB := HGB.out
  have e9 : (L ++ s.data.toList).length = L.length + s.size := by rw [List.length_append]; congr 1
  have o4 := o3.kept (grownBy_set (grownBy_refl w3 (some g)) 0 (.slice a3 (L ++ s.data.toList).length c3)) (fun q hq e => by cases e; have := (o3.lt _ hq).1; omega)
  have K3 : w.grownBy w3 (some g) := by
    cases hq : (Value.slice va L.length vc).ownBlock with
    | none => rw [hq] at g3; exact grownBy_trans g2 (grownBy_some g3 _)
    | some q => rw [hq] at g3; exact grownBy_new g2 g3 (hne q hq)
  rw [e9] at o4
  exact ⟨rfl, ⟨⟨_, b3.set_ 0 _ rfl, o4⟩, by omega⟩, grownBy_set K3 _ _⟩
end Go.Proofs.Ytniokdflljchgaa
