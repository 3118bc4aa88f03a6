/- Summaries: how they lie in memory; their total. -/
import Derived.Test.YtiagjiaahnkefaaBnd
import Derived.Test.YtiagjiaahnkefaaSl
namespace Go.Proofs.Ytiagjiaahnkefaa
open Go.RowKit

/-- A tracked key. -/
structure Ent where
  (key : ByteArray) (own slack : Int)
def entF (e : Ent) : List Value := [.string e.key, .int .u64 e.own, .int .u64 e.slack]
theorem entF_len (e : Ent) : (entF e).length = 3 := rfl
def valF (v : Value) : List Value := [v]
theorem valF_len (v : Value) : (valF v).length = 1 := rfl
theorem val_one (v : Value) : valF v = [v] := rfl
/-- A summary: its numbers, the slices as they stand, and what these read as. -/
structure Summ where
  (total : Int) (ve : Value) (untr : Int) (vr : Value) (es : List Ent) (vs : List Value) (rows : List (List Int))
def sumF (s : Summ) : List Value := [.int .u64 s.total, s.ve, .int .u64 s.untr, s.vr]
theorem sumF_len (s : Summ) : (sumF s).length = 4 := rfl
abbrev sumV (total : Int) (ve : Value) (untr : Int) (vr : Value) : Value := .agg #[.int .u64 total, ve, .int .u64 untr, vr]
structure SumRd (w : World) (s : Summ) : Prop where
  es : RdL entF 3 w s.ve s.es
  vs : RdL valF 1 w s.vr s.vs
  len : s.vs.length = s.rows.length
  rows : ∀ (i : Nat) v row, s.vs[i]? = some v → s.rows[i]? = some row → RdL wordF 1 w v row
theorem SumRd.same {w w' : World} {s : Summ} (h : SumRd w s) (hg : w.grownBy w' none) : SumRd w' s :=
  ⟨h.es.same hg, h.vs.same hg, h.len, fun i v row hv hr => (h.rows i v row hv hr).same hg⟩
/-- The numbers have 64 bits. -/
structure SumW (s : Summ) : Prop where
  total : W64 s.total
  untr : W64 s.untr
  es : ∀ e ∈ s.es, W64 e.own ∧ W64 e.slack
  rows : ∀ row ∈ s.rows, ∀ x ∈ row, W64 x
/-- A slice of summaries. -/
structure SumsRd (w : World) (v : Value) (l : List Summ) : Prop where
  rd : RdL sumF 4 w v l
  all : ∀ s ∈ l, SumRd w s
  wf : ∀ s ∈ l, SumW s
theorem SumsRd.same {w w' : World} {v : Value} {l : List Summ} (h : SumsRd w v l) (hg : w.grownBy w' none) : SumsRd w' v l :=
  ⟨h.rd.same hg, fun s hs => (h.all s hs).same hg, h.wf⟩
theorem SumsRd.at_ {w : World} {v : Value} {l : List Summ} (h : SumsRd w v l) {k : Nat} (hk : k < l.length) :
    ∃ g off cap, v = .slice (some ⟨g, off, none⟩) l.length cap ∧ g < w.heap.size ∧ w.cell? ⟨g, off + k * 4, none⟩ = some (.int .u64 l[k].total) ∧ w.cell? ⟨g, off + k * 4 + 1, none⟩ = some l[k].ve ∧
      w.cell? ⟨g, off + k * 4 + 2, none⟩ = some (.int .u64 l[k].untr) ∧ w.cell? ⟨g, off + k * 4 + 3, none⟩ = some l[k].vr ∧ SumRd w l[k] ∧ SumW l[k] := by
  obtain ⟨g, off, cap, hv, hg, hc⟩ := h.rd.at_ sumF_len hk
  exact ⟨g, off, cap, hv, hg, hc 0 _ rfl, hc 1 _ rfl, hc 2 _ rfl, hc 3 _ rfl, h.all _ (List.getElem_mem hk), h.wf _ (List.getElem_mem hk)⟩
theorem take_succ {α : Type} {l : List α} {k : Nat} (h : k < l.length) : l.take (k + 1) = l.take k ++ [l[k]] := List.take_succ_eq_append_getElem h

def totalF (l : List Summ) : Int := l.foldl (fun n s => satA n s.total) 0
theorem totalF_snoc (l : List Summ) (s : Summ) : totalF (l ++ [s]) = satA (totalF l) s.total := by simp [totalF]
theorem w64_0 : W64 0 := ⟨by omega, by omega⟩

set_option maxHeartbeats 400000 in
theorem mtotal_c (v : Value) (l : List Summ) (w : World) (h : SumsRd w v l) : Calls Try.prog 36 #[v] w (RetWord (totalF l) w) := by
  obtain ⟨a, c, rfl⟩ := h.rd.shape
  have hm := h.rd.2.1
  have H := Lib.hid h
  clear h
  go_enter Try.func36, Try.ntmps36
  go_wp2_with fail
  go_loopw [3, 8] (fun s3 s8 wr => ∃ k : Nat, k ≤ l.length ∧ s8 = .int .i64 k ∧ s3 = .int .u64 (totalF (l.take k)) ∧ W64 (totalF (l.take k)) ∧ w.grownBy wr none) (fun _ s8 _ => l.length - (intOf s8).toNat)
  case atStart => exact ⟨0, Nat.zero_le _, rfl, rfl, w64_0, grownBy_refl _ _⟩
  case round =>
    obtain ⟨k, hk, rfl, rfl, hT, hg⟩ := hrel
    by_cases hlt : k < l.length
    · obtain ⟨g, off, cap, hv, hgl, c0, c1, c2, c3, hR, hW⟩ := (H.out.same hg).at_ hlt
      cases hv
      have HS := Lib.hid (take_succ hlt)
      have Hs := Lib.hid (totalF_snoc (l.take k) l[k])
      have hW1 := hW.total
      have hW2 := satA_w hT hW1
      obtain ⟨a1, k1, e1⟩ := hR.es.shape
      obtain ⟨a2, k2, e2⟩ := hR.vs.shape
      rw [e1] at c1
      rw [e2] at c3
      clear hR hW e1 e2
      generalize totalF (l.take k) = T at *
      generalize l[k].total = t at *
      generalize l[k].untr = u at *
      go_wp2_with (go_at_call 52; refine (satAdd_c T t _ hT hW1).mono ?_; rintro e w' ⟨rfl, rfl⟩)
      exact ⟨⟨k + 1, by omega, by go_num, by rw [HS.out, Hs.out], by rw [HS.out, Hs.out]; exact hW2, grownBy_new_block hg _⟩, by simp [intOf]; omega⟩
    · have hl : l.take k = l := List.take_of_length_le (by omega)
      rw [hl]
      clear hl
      go_wp2_with fail
      go_ret
      exact retWord rfl hg

set_option maxHeartbeats 400000 in
theorem rtotal_c (v : Value) (l : List Summ) (w : World) (h : SumsRd w v l) : Calls Try.prog 37 #[v] w (RetWord (totalF l) w) := by
  obtain ⟨a, c, rfl⟩ := h.rd.shape
  have hm := h.rd.2.1
  have H := Lib.hid h
  clear h
  go_enter Try.func37, Try.ntmps37
  go_wp2_with fail
  go_loopw [3, 8] (fun s3 s8 wr => ∃ k : Nat, k ≤ l.length ∧ s8 = .int .i64 k ∧ s3 = .int .u64 (totalF (l.take k)) ∧ W64 (totalF (l.take k)) ∧ w.grownBy wr none) (fun _ s8 _ => l.length - (intOf s8).toNat)
  case atStart => exact ⟨0, Nat.zero_le _, rfl, rfl, w64_0, grownBy_refl _ _⟩
  case round =>
    obtain ⟨k, hk, rfl, rfl, hT, hg⟩ := hrel
    by_cases hlt : k < l.length
    · obtain ⟨g, off, cap, hv, hgl, c0, c1, c2, c3, hR, hW⟩ := (H.out.same hg).at_ hlt
      cases hv
      have HS := Lib.hid (take_succ hlt)
      have Hs := Lib.hid (totalF_snoc (l.take k) l[k])
      have hW1 := hW.total
      have hW2 := satA_w hT hW1
      obtain ⟨a1, k1, e1⟩ := hR.es.shape
      obtain ⟨a2, k2, e2⟩ := hR.vs.shape
      rw [e1] at c1
      rw [e2] at c3
      clear hR hW e1 e2
      generalize totalF (l.take k) = T at *
      generalize l[k].total = t at *
      generalize l[k].untr = u at *
      go_wp2_with (go_at_call 84; refine (rsum_c T t _ hT hW1).mono ?_; rintro e w' ⟨rfl, rfl⟩)
      exact ⟨⟨k + 1, by omega, by go_num, by rw [HS.out, Hs.out], by rw [HS.out, Hs.out]; exact hW2, grownBy_new_block hg _⟩, by simp [intOf]; omega⟩
    · have hl : l.take k = l := List.take_of_length_le (by omega)
      rw [hl]
      clear hl
      go_wp2_with fail
      go_ret
      exact retWord rfl hg

end Go.Proofs.Ytiagjiaahnkefaa
