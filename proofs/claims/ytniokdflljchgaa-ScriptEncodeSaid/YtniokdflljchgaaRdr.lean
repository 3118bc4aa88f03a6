/- Readers of bytes: the program's and the reference's; numbers. -/
import Derived.Test.YtniokdflljchgaaRrd
import Derived.Test.YtniokdflljchgaaRg
import Derived.Test.YtniokdflljchgaaBlk
import Derived.Test.YtniokdflljchgaaNumP
import Derived.Laws.BytesArg
namespace Go.Proofs.Ytniokdflljchgaa
open Go.RowKit Go.Sort

/-- A reader at g, with what is left and the first error; the bytes lie below B. -/
structure Rdr (B : Nat) (w : World) (g : Nat) (l : List UInt8) (e : Int) : Prop where
  ex : ∃ a c, Blk w g #[.slice a l.length c, .int .i64 e] ∧ RdL byF 1 w (.slice a l.length c) l ∧ l.length ≤ c ∧ ∀ ad, a = some ad → 0 < l.length → ad.block < B
  hg : B ≤ g
theorem rd_kept {α : Type} {f : α → List Value} {s : Nat} {w w' : World} {a : Option Addr} {n c : Nat} {l : List α} {r : Option Nat} {B : Nat} (h : RdL f s w (.slice a n c) l) (hg : w.grownBy w' r) (ha : ∀ ad, a = some ad → 0 < l.length → ad.block < B) (hr : ∀ k, r = some k → B ≤ k) : RdL f s w' (.slice a n c) l := by
  cases r with
  | none => exact h.same hg
  | some k => exact Rd.kept0 h hg fun h0 q e a' n' c' hv => by cases e; cases hv; have := ha _ rfl h0; have := hr k rfl; omega
theorem Rdr.kept {B : Nat} {w w' : World} {g : Nat} {l : List UInt8} {e : Int} {r : Option Nat} (h : Rdr B w g l e) (hg : w.grownBy w' r) (hr : r ≠ some g) (hB : ∀ k, r = some k → B ≤ k) : Rdr B w' g l e := by
  obtain ⟨a, c, h1, h2, h3, h4⟩ := h.ex
  exact ⟨⟨a, c, h1.kept hg hr, rd_kept h2 hg h4 hB, h3, h4⟩, h.hg⟩
theorem Rdr.same {B : Nat} {w w' : World} {g : Nat} {l : List UInt8} {e : Int} (h : Rdr B w g l e) (hg : w.grownBy w' none) : Rdr B w' g l e := h.kept hg (by simp) (by simp)
theorem add_block (ad : Addr) (k : Nat) : (ad.add k).block = ad.block := by unfold Addr.add; split <;> rfl
theorem Rdr.setE {B : Nat} {w : World} {g : Nat} {l : List UInt8} {e : Int} (h : Rdr B w g l e) (f : Int) : Rdr B (w.setCell ⟨g, 1, none⟩ (.int .i64 f)) g l f ∧ w.grownBy (w.setCell ⟨g, 1, none⟩ (.int .i64 f)) (some g) := by
  obtain ⟨a, c, h1, h2, h3, h4⟩ := h.ex
  have hg : w.grownBy (w.setCell ⟨g, 1, none⟩ (.int .i64 f)) (some g) := grownBy_set (grownBy_refl w (some g)) 1 (.int .i64 f)
  exact ⟨⟨⟨a, c, h1.set_ 1 _ rfl, rd_kept h2 hg h4 (fun k e => by cases e; exact h.hg), h3, h4⟩, h.hg⟩, hg⟩
theorem Rdr.setB {B : Nat} {w : World} {g : Nat} {l : List UInt8} {e : Int} {a : Option Addr} {c : Nat} (h1 : Blk w g #[.slice a l.length c, .int .i64 e]) (h2 : RdL byF 1 w (.slice a l.length c) l) (h3 : l.length ≤ c) (h4 : ∀ ad, a = some ad → 0 < l.length → ad.block < B) (hB : B ≤ g) {k : Nat} (hk : k ≤ l.length) :
    Rdr B (w.setCell ⟨g, 0, none⟩ (.slice (if c = k then a else a.map (·.add k)) (l.length - k) (c - k))) g (l.drop k) e ∧ w.grownBy (w.setCell ⟨g, 0, none⟩ (.slice (if c = k then a else a.map (·.add k)) (l.length - k) (c - k))) (some g) := by
  have h5 := RdL.drop byF_len h2 hk h3 (c - k)
  rw [Nat.mul_one] at h5
  have hg : w.grownBy (w.setCell ⟨g, 0, none⟩ (.slice (if c = k then a else a.map (·.add k)) (l.length - k) (c - k))) (some g) := grownBy_set (grownBy_refl w (some g)) 0 _
  have h6 : ∀ ad, (if c = k then a else a.map (·.add k)) = some ad → 0 < (l.drop k).length → ad.block < B := by
    intro ad e h0
    have h0' : 0 < l.length := by rw [List.length_drop] at h0; omega
    split at e
    · exact h4 ad e h0'
    · obtain ⟨x, hx, rfl⟩ := Option.map_eq_some_iff.1 e
      rw [add_block]; exact h4 x hx h0'
  generalize (if c = k then a else a.map (·.add k)) = a' at *
  have hl : (l.drop k).length = l.length - k := List.length_drop
  refine ⟨⟨⟨a', c - k, ?_, ?_, by omega, h6⟩, hB⟩, hg⟩
  · rw [hl]; exact h1.set_ 0 _ rfl
  · rw [hl]; exact rd_kept h5 hg h6 fun k e => by cases e; exact hB
/-- Bytes as a text. -/
theorem conv_by {l : List UInt8} {a : Option Addr} {n c : Nat} {w : World} (h : RdL byF 1 w (.slice a n c) l) : (convert 28 9 (.slice a n c)).run Try.prog w = .ok (.string ⟨l.toArray⟩) w := by
  obtain ⟨a', c', hv⟩ := Rd.shape h
  cases hv
  rcases h.2.2 with ⟨h0, _⟩ | ⟨g, off, cap, hv, _, hc⟩
  · obtain rfl : l = [] := List.eq_nil_of_length_eq_zero h0
    cases a with
    | none => exact run_convert_bytes_nil w 28 5 Try.underlying28 Try.underlying5 0 c _ Try.underlying9
    | some ad =>
      rw [run_convert_bytes_string w 28 9 5 _ _ c Try.underlying28 Try.underlying5 Try.underlying9]
      rw [show ([] : List UInt8).length = 0 from rfl, run_bytesToString w ad 0 c []]
      · rfl
      · exact run_loadCells_list w ad [] (fun j v hv => by simp at hv)
  · cases hv
    have hcl : ∀ i, i < l.length → w.cell? ⟨g, off + i, none⟩ = some (.int .u8 ((l.map fun b => (b.toNat : Int)).getD i 0)) := by
      intro i hi
      have e : ∀ (l : List UInt8) (i : Nat), i < l.length → (cellsOf byF l)[i]? = some (.int .u8 ((l.map fun b => (b.toNat : Int)).getD i 0)) := by
        intro l
        induction l with
        | nil => intro i hi; simp at hi
        | cons b l ih =>
          intro i hi
          cases i with
          | zero => simp [cellsOf, byF]
          | succ i =>
            have := ih i (by simpa using hi)
            simpa [cellsOf, byF] using this
      exact hc i _ (e l i hi)
    rw [run_convert_bytes_arg w 28 5 Try.underlying28 Try.underlying5 g off l.length c (l.map fun b => (b.toNat : Int)) (by simp) hcl _ Try.underlying9]
    congr 2
    unfold strOfNums
    congr 2
    rw [List.map_map]
    conv => rhs; rw [← List.map_id l]
    apply List.map_congr_left
    intro b _
    simp
def NumP (B g : Nat) (w : World) (F : Nat × List UInt8 × Int) (en : Ending) (w' : World) : Prop :=
  en = .returned (.int .u64 F.1) ∧ Rdr B w' g F.2.1 F.2.2 ∧ w.grownBy w' (some g)

/-- A reader in a block that has just been made. -/
theorem Rdr.new {w : World} {g : Nat} {l : List UInt8} {a : Option Addr} {c : Nat} {w' : World} (hr : RdL byF 1 w (.slice a l.length c) l) (hc : l.length ≤ c) (hb : Blk w' g #[.slice a l.length c, .int .i64 0]) (hg : w.grownBy w' none) (hB : w.heap.size ≤ g) : Rdr w.heap.size w' g l 0 :=
  ⟨⟨a, c, hb, hr.same hg, hc, fun ad e h0 => by subst e; exact Rd.blockLt hr h0 _ _ _ rfl⟩, hB⟩
end Go.Proofs.Ytniokdflljchgaa
