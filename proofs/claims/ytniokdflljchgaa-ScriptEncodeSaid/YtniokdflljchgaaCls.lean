/- Size classes that are valid; tables of words. -/
import Derived.Test.YtniokdflljchgaaFit
import Derived.OpenShut
namespace Go.Proofs.Ytniokdflljchgaa
open Go.RowKit

structure ClsOk (l : List (Int × Int)) : Prop where
  pos : 0 < l.length
  len : l.length ≤ 8
  size : ∀ (i : Nat) (p : Int × Int), l[i]? = some p → 1 ≤ p.1 ∧ p.1 ≤ 4096 ∧ 0 ≤ p.2 ∧ p.2 ≤ 65536
  asc : ∀ (i : Nat) (p q : Int × Int), l[i]? = some p → l[i + 1]? = some q → p.1 < q.1

set_option maxHeartbeats 400000 in
theorem classes_c (v : Value) (l : List (Int × Int)) (w : World) (h : RdL clsF 2 w v l) (hok : ClsOk l) :
    Calls Try.prog 97 #[v] w fun e w' => e = .returned (.int .i64 0) ∧ w.grownBy w' none := by
  obtain ⟨a, cap, rfl⟩ := h.shape
  have hm := h.2.1
  have hp0 : 0 < l.length := hok.pos
  have hp8 : l.length ≤ 8 := hok.len
  have hz : ((l.length : Int) == 0) = false := by rw [beq_eq_false_iff_ne]; omega
  go_enter Try.func97, Try.ntmps97
  go_wp2
  go_loopw [15] (fun i wr => ∃ k : Nat, k ≤ l.length ∧ i = .int .i64 k ∧ w.grownBy wr none) (fun i _ => l.length - (intOf i).toNat)
  case atStart => exact ⟨0, Nat.zero_le _, rfl, grownBy_refl _ _⟩
  case round =>
    obtain ⟨k, hk, rfl, hg⟩ := hrel
    by_cases hlt : k < l.length
    · obtain ⟨g, off, cap', hv, hgl, hc⟩ := h.cell clsF_len (by omega)
      cases hv
      obtain ⟨p, hp⟩ : ∃ p, l[k]? = some p := ⟨l[k], List.getElem?_eq_getElem hlt⟩
      have hcell := grownBy_cells hg
      have c0 : wr.cell? ⟨g, off + k * 2, none⟩ = some (.int .i64 p.1) := by rw [hcell.1 _ _ hgl (by simp)]; exact hc k p hp 0 _ rfl
      have c1 : wr.cell? ⟨g, off + k * 2 + 1, none⟩ = some (.int .i64 p.2) := by rw [hcell.1 _ _ hgl (by simp)]; exact hc k p hp 1 _ rfl
      obtain ⟨b1, b2, b3, b4⟩ := hok.size k p hp
      by_cases hk0 : k = 0
      · subst hk0
        simp only [Nat.zero_mul, Nat.add_zero] at c0 c1
        clear hcell hc hp
        go_wp2
        go_quiet (fail)
        go_wp2
        refine ⟨⟨1, by omega, by go_num, grownBy_drewN (grownBy_new_block hg _) _⟩, ?_⟩
        simp [intOf]; omega
      · obtain ⟨q, hq⟩ : ∃ q, l[k - 1]? = some q := ⟨l[k - 1], List.getElem?_eq_getElem (by omega)⟩
        have d0 : wr.cell? ⟨g, off + (k - 1) * 2, none⟩ = some (.int .i64 q.1) := by rw [hcell.1 _ _ hgl (by simp)]; exact hc (k - 1) q hq 0 _ rfl
        have hlt' := hok.asc (k - 1) q p hq (by rw [show k - 1 + 1 = k from by omega]; exact hp)
        have hkp : 0 < k := by omega
        have hgw : g < wr.heap.size := Nat.lt_of_lt_of_le hgl hg.size
        clear hcell hc hp hq hk0
        go_wp2
        have hw1 : IntKind.i64.wrap ((k : Int) - 1) = (k : Int) - 1 := IntWalk.i64_in _ (by omega)
        have hw2 : ((k : Int) - 1).toNat = k - 1 := by omega
        have hw3 : (0 : Int) ≤ (k : Int) - 1 := by omega
        have hw4 : (1 : Int) ≤ (k : Int) := by omega
        go_quiet (fail)
        clear hw1 hw2
        go_wp2
        refine ⟨⟨k + 1, by omega, by go_num, grownBy_drewN (grownBy_new_block hg _) _⟩, ?_⟩
        simp [intOf]; omega
    · go_wp2
      go_ret
      exact ⟨rfl, hg⟩

/-- A slice of words. -/
def wordF (n : Int) : List Value := [.int .u64 n]
theorem wordF_len (n : Int) : (wordF n).length = 1 := rfl
def intF (n : Int) : List Value := [.int .i64 n]
theorem cells_word (l : List Int) : cellsOf wordF l = l.map (fun x => Value.int .u64 x) := by
  induction l with
  | nil => rfl
  | cons x l ih => simp only [cellsOf, List.flatMap_cons, List.map_cons] at *; rw [ih]; rfl
theorem cells_int (l : List Int) : cellsOf (fun n : Int => [Value.int .i64 n]) l = l.map (fun x => Value.int .i64 x) := by
  induction l with
  | nil => rfl
  | cons x l ih => simp only [cellsOf, List.flatMap_cons, List.map_cons] at *; rw [ih]; rfl
theorem intF_len (n : Int) : (intF n).length = 1 := rfl

theorem table_c (v : Value) (l : List Int) (w : World) (h : RdL wordF 1 w v l) (hl : l.length = 16) :
    Calls Try.prog 113 #[v] w fun e w' => e = .returned (.int .i64 0) ∧ w = w' := by
  obtain ⟨a, cap, rfl⟩ := h.shape
  rw [hl]
  clear h hl
  go_enter Try.func113, Try.ntmps113
  go_wp2
  go_ret
  exact ⟨rfl, rfl⟩

def WordPost (B b : Nat) (w : World) (e : Ending) (w' : World) : Prop :=
  ∃ r, e = .returned (.int .u64 r) ∧ 0 ≤ r ∧ r < 18446744073709551616 ∧ Deck B w' b ∧ w.grownBy w' (some b)

set_option maxHeartbeats 400000 in
theorem word_c {B : Nat} (b : Nat) (w : World) (hd : Deck B w b) :
    Calls Try.prog 66 #[.pointer (some ⟨b, 0, none⟩)] w (WordPost B b w) := by
  go_enter Try.func66, Try.ntmps66
  go_wp2_with fail
  refine (next_c b _ w hd (by omega) (by omega)).mono ?_
  rintro e w1 ⟨r1, rfl, ha1, hb1, hd1, hg1⟩
  go_wp2_with fail
  refine (next_c b _ w1 hd1 (by omega) (by omega)).mono ?_
  rintro e w2 ⟨r2, rfl, ha2, hb2, hd2, hg2⟩
  go_wp2_with fail
  go_ret
  have hb := bounds_u64 (wf_bits BinOp.xor IntKind.u64 (r1 * 4294967296) r2)
  exact ⟨_, rfl, hb.1, by omega, hd2, grownBy_trans hg1 hg2⟩

/-- Words that fit. -/
def WordsOk (l : List Int) : Prop := ∀ x ∈ l, 0 ≤ x ∧ x < 18446744073709551616
def TablePost (B b : Nat) (w : World) (e : Ending) (w' : World) : Prop :=
  ∃ v, ∃ l : List Int, e = .returned v ∧ RdL wordF 1 w' v l ∧ l.length = 16 ∧ WordsOk l ∧ NotIn v b ∧ (∀ a n c, v = .slice (some a) n c → w.heap.size ≤ a.block) ∧ Deck B w' b ∧ w.grownBy w' (some b)
def TableRel (B b C : Nat) (w : World) (wr : World) : Prop :=
  ∃ ws : List Int, ws.length = 16 ∧ WordsOk ws ∧ wr.heap[C]? = some (.cells (ws.map (fun x => Value.int .u64 x)).toArray 47) ∧ Deck B wr b ∧ w.grownBy wr (some b)

def zeros16 : Array Value := ((List.replicate 16 0).map (fun x : Int => Value.int .u64 x)).toArray
theorem make16 (w : World) : (Instr.makeSlice 44 (.int .i64 16) (.int .i64 16)).run Try.prog w = .ok (.slice (some ⟨w.heap.size, 0, none⟩) 16 16) (w.alloc (.cells zeros16 47)) := by kernel_rfl

set_option maxHeartbeats 400000 in
theorem dtable_c {B : Nat} (b : Nat) (w : World) (hd : Deck B w b) (hB : B ≤ w.heap.size) :
    Calls Try.prog 65 #[.pointer (some ⟨b, 0, none⟩)] w (TablePost B b w) := by
  have hb := hd.lt
  have hmk := make16
  go_enter Try.func65, Try.ntmps65
  go_wp2_with fail
  refine (next_c b _ _ (hd.alloc _) (by omega) (by omega)).mono ?_
  rintro e w1 ⟨r1, rfl, ha1, hb1, hd1, hg1⟩
  have HB := Lib.hid (hg1.block w.heap.size (by simp) (by simp; omega))
  clear hmk
  go_wp2_with fail
  go_loopw [12] (fun i wr => ∃ k : Nat, k ≤ 16 ∧ i = .int .i64 k ∧ TableRel B b w.heap.size w wr) (fun i _ => 16 - (intOf i).toNat)
  case atStart =>
    refine ⟨0, by omega, rfl, List.replicate 16 0, rfl, ?_, ?_, hd1, grownBy_trans (World.grownBy_alloc w _ _) hg1⟩
    · intro x hx; rw [List.eq_of_mem_replicate hx]; omega
    · rw [HB.out]; exact heap_alloc_new w _
  case round =>
    obtain ⟨k, hk, rfl, ws, hws, hok, hheap, hdr, hg⟩ := hrel
    by_cases hlt : k < 16
    · have hkk : k < ws.length := by omega
      go_wp2_with fail
      · refine (word_c b wr hdr).mono ?_
        rintro e w2 ⟨r2, rfl, ha2, hb2, hd2, hg2⟩
        have hB2 : w2.heap[w.heap.size]? = some (.cells (ws.map (fun x => Value.int .u64 x)).toArray 47) := by
          rw [hg2.block _ (Array.getElem?_eq_some_iff.1 hheap).1 (by simp; omega)]; exact hheap
        have hc2 : w2.cell? ⟨w.heap.size, k, none⟩ = some (.int .u64 ws[k]) := by
          simp [World.cell?, hB2, List.getElem?_eq_getElem hkk]
        have hf2 : w2.frozen? ⟨w.heap.size, k, none⟩ = false := by simp [World.frozen?, hB2]
        have HB2 := Lib.hid hB2
        clear hB2 hheap
        go_wp2_with fail
        have G : (w2.setCell ⟨w.heap.size, k, none⟩ (.int .u64 r2)).heap[w.heap.size]? = some (.cells ((ws.set k r2).map (fun x => Value.int .u64 x)).toArray 47) := by
          rw [heap_set _ HB2.out]; simp [List.map_set]
        refine ⟨⟨k + 1, by omega, by go_num, ws.set k r2, by simpa using hws, ?_, G, ?_, ?_⟩, ?_⟩
        · intro x hx
          rcases List.mem_or_eq_of_mem_set hx with h | h
          · exact hok x h
          · subst h; exact ⟨ha2, hb2⟩
        · exact hd2.kept (grownBy_set (grownBy_refl w2 _) _ _) (by intro c hc; cases hc; exact hB)
        · exact grownBy_setNew (grownBy_trans hg hg2) (Nat.le_refl _) _
        · simp [intOf]; omega
      · exact ⟨⟨k + 1, by omega, by go_num, ws, hws, hok, hheap, hdr, hg⟩, by simp [intOf]; omega⟩
    · have hk' : k = 16 := by omega
      go_wp2_with fail
      go_ret
      refine ⟨_, ws, rfl, ?_, hws, hok, ?_, ?_, hdr, hg⟩
      · refine ⟨?_, ?_, .inr ⟨w.heap.size, 0, 16, ?_, (Array.getElem?_eq_some_iff.1 hheap).1, ?_⟩⟩
        · rw [length_cellsOf _ 1 wordF_len]
        · omega
        · rw [hws]; rfl
        · intro j u hu
          rw [cells_word] at hu
          simp only [World.cell?, hheap, Nat.zero_add]
          simpa using hu
      · intro a n c h; cases h; simp; omega
      · intro a n c h; cases h; simp
end Go.Proofs.Ytniokdflljchgaa
