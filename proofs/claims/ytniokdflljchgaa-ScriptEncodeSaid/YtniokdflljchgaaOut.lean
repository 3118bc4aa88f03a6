/- A slice of ints that the call itself has made: a block of its own. -/
import Derived.Test.YtniokdflljchgaaCfg
namespace Go.Proofs.Ytniokdflljchgaa
open Go.RowKit

def intCells (l : List Int) : Array Value := (l.map (fun x => Value.int .i64 x)).toArray

theorem info_int : (Try.prog.info? 3).map (fun i => (i.zero, i.size, i.bytes)) = some (some (.int .i64 0), 1, 8) := by kernel_rfl

theorem made_ints (n : Nat) : madeCells #[Value.int .i64 0] n = intCells (List.replicate n 0) := by
  unfold madeCells intCells
  apply Array.ext
  · simp
  · intro i h1 h2
    simp [Nat.mod_one]

theorem make_ints (n : Nat) (hn : n ≤ 1000000) (w : World) :
    (Instr.makeSlice 23 (.int .i64 n) (.int .i64 n)).run Try.prog w = .ok (.slice (some ⟨w.heap.size, 0, none⟩) n n) (w.alloc (.cells (intCells (List.replicate n 0)) 3)) := by
  obtain ⟨i0, hi, hz0, hz1, hz2⟩ := info_parts info_int
  have := run_make (P := Try.prog) w 23 3 i0 (.int .i64 0) Try.underlying23 hi hz0 .i64 .i64 n n (by omega) (by omega) (by rw [hz2]; omega) (by omega)
  rw [this, hz1]
  simp only [Int.toNat_natCast, Nat.mul_one, Value.cells, made_ints]

def OutAt (w : World) (B : Nat) (out : List Int) : Prop := w.heap[B]? = some (.cells (intCells out) 3)

theorem OutAt.new (w : World) (n : Nat) : OutAt (w.alloc (.cells (intCells (List.replicate n 0)) 3)) w.heap.size (List.replicate n 0) := heap_alloc_new w _
theorem OutAt.lt {w : World} {B : Nat} {out : List Int} (h : OutAt w B out) : B < w.heap.size := (Array.getElem?_eq_some_iff.1 h).1
theorem OutAt.kept {w w' : World} {B : Nat} {out : List Int} {r : Option Nat} (h : OutAt w B out) (hg : w.grownBy w' r) (hr : r ≠ some B) : OutAt w' B out :=
  (hg.block B h.lt (fun e => hr e.symm)).trans h
theorem OutAt.cell {w : World} {B : Nat} {out : List Int} (h : OutAt w B out) {k : Nat} (hk : k < out.length) : w.cell? ⟨B, k, none⟩ = some (.int .i64 (out.getD k 0)) := by
  unfold OutAt at h
  simp [World.cell?, h, intCells, List.getElem?_eq_getElem hk, List.getD_eq_getElem?_getD]
theorem OutAt.free {w : World} {B : Nat} {out : List Int} (h : OutAt w B out) (k : Nat) : w.frozen? ⟨B, k, none⟩ = false := by
  unfold OutAt at h
  simp [World.frozen?, h]
theorem OutAt.set {w : World} {B : Nat} {out : List Int} (h : OutAt w B out) (k : Nat) (x : Int) : OutAt (w.setCell ⟨B, k, none⟩ (.int .i64 x)) B (out.set k x) := by
  unfold OutAt
  rw [heap_set _ h]
  simp [intCells, List.map_set]
theorem OutAt.drewN {w : World} {B : Nat} {out : List Int} (h : OutAt w B out) (n : Nat) : OutAt (w.drewN n) B out := h
theorem OutAt.rd {w : World} {B : Nat} {out : List Int} (h : OutAt w B out) (hl : out.length ≤ 9223372036854775807) : RdL intF 1 w (.slice (some ⟨B, 0, none⟩) out.length out.length) out := by
  refine ⟨by rw [length_cellsOf _ 1 intF_len], hl, .inr ⟨B, 0, out.length, rfl, h.lt, fun j u hu => ?_⟩⟩
  have e : cellsOf intF out = out.map (fun x => Value.int .i64 x) := cells_int out
  rw [e] at hu
  unfold OutAt at h
  simp only [World.cell?, h, intCells, Nat.zero_add]
  simpa using hu
end Go.Proofs.Ytniokdflljchgaa
