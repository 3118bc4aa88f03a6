/- Several texts in one file; each begins with a comment that says what is proved in it. -/
import Derived.Test.YtiagjiaahnkefaaBunAA
import Derived.OpenShut
import Derived.Maps.AppendAt
import Derived.OwnWalk
import Derived.Deep.RegionLaw
import Derived.RegionTactic
import Derived.Deep.AppendLies
import Derived.Laws.OwnMore
import Derived.Deep.RegionHeld3
import Derived.Lib.QuietBelow

/- Size classes that are valid; tables of words. -/
namespace Go.Proofs.Ytiagjiaahnkefaa
open Go.RowKit

structure ClsOk (l : List (Int × Int)) : Prop where
  pos : 0 < l.length
  len : l.length ≤ 8
  size : ∀ (i : Nat) (p : Int × Int), l[i]? = some p → 1 ≤ p.1 ∧ p.1 ≤ 4096 ∧ 0 ≤ p.2 ∧ p.2 ≤ 65536
  asc : ∀ (i : Nat) (p q : Int × Int), l[i]? = some p → l[i + 1]? = some q → p.1 < q.1

set_option maxHeartbeats 400000 in
theorem classes_c (v : Value) (l : List (Int × Int)) (w : World) (h : RdL clsF 2 w v l) (hok : ClsOk l) :
    Calls Try.prog 120 #[v] w fun e w' => e = .returned (.int .i64 0) ∧ w.grownBy w' none := by
  obtain ⟨a, cap, rfl⟩ := h.shape
  have hm := h.2.1
  have hp0 : 0 < l.length := hok.pos
  have hp8 : l.length ≤ 8 := hok.len
  have hz : ((l.length : Int) == 0) = false := by rw [beq_eq_false_iff_ne]; omega
  go_enter Try.func120, Try.ntmps120
  go_wp2
  go_loopw [15] (fun i wr => ∃ k : Nat, k ≤ l.length ∧ i = .int .i64 k ∧ w.grownBy wr none) (fun i _ => l.length - (intOf i).toNat)
  case atStart => exact ⟨0, Nat.zero_le _, rfl, grownBy_refl _ _⟩
  case round =>
    obtain ⟨k, hk, rfl, hg⟩ := hrel
    by_cases hlt : k < l.length
    · obtain ⟨g, off, cap', hv, hgl, hc⟩ := h.cell clsF_len (by omega)
      cases hv
      obtain ⟨p, hp⟩ : ∃ p, l[k]? = some p := ⟨l[k], List.getElem?_eq_getElem hlt⟩
      have hcell := grownBy_cells hg
      have c0 : wr.cell? ⟨g, off + k * 2, none⟩ = some (.int .i64 p.1) := by rw [hcell.1 _ _ hgl (by simp)]; exact hc k p hp 0 _ rfl
      have c1 : wr.cell? ⟨g, off + k * 2 + 1, none⟩ = some (.int .i64 p.2) := by rw [hcell.1 _ _ hgl (by simp)]; exact hc k p hp 1 _ rfl
      obtain ⟨b1, b2, b3, b4⟩ := hok.size k p hp
      by_cases hk0 : k = 0
      · subst hk0
        simp only [Nat.zero_mul, Nat.add_zero] at c0 c1
        clear hcell hc hp
        go_wp2
        go_quiet (fail)
        go_wp2
        refine ⟨⟨1, by omega, by go_num, grownBy_drewN (grownBy_new_block hg _) _⟩, ?_⟩
        simp [intOf]; omega
      · obtain ⟨q, hq⟩ : ∃ q, l[k - 1]? = some q := ⟨l[k - 1], List.getElem?_eq_getElem (by omega)⟩
        have d0 : wr.cell? ⟨g, off + (k - 1) * 2, none⟩ = some (.int .i64 q.1) := by rw [hcell.1 _ _ hgl (by simp)]; exact hc (k - 1) q hq 0 _ rfl
        have hlt' := hok.asc (k - 1) q p hq (by rw [show k - 1 + 1 = k from by omega]; exact hp)
        have hkp : 0 < k := by omega
        have hgw : g < wr.heap.size := Nat.lt_of_lt_of_le hgl hg.size
        clear hcell hc hp hq hk0
        go_wp2
        have hw1 : IntKind.i64.wrap ((k : Int) - 1) = (k : Int) - 1 := IntWalk.i64_in _ (by omega)
        have hw2 : ((k : Int) - 1).toNat = k - 1 := by omega
        have hw3 : (0 : Int) ≤ (k : Int) - 1 := by omega
        have hw4 : (1 : Int) ≤ (k : Int) := by omega
        go_quiet (fail)
        clear hw1 hw2
        go_wp2
        refine ⟨⟨k + 1, by omega, by go_num, grownBy_drewN (grownBy_new_block hg _) _⟩, ?_⟩
        simp [intOf]; omega
    · go_wp2
      go_ret
      exact ⟨rfl, hg⟩

/-- A slice of words. -/
def wordF (n : Int) : List Value := [.int .u64 n]
theorem wordF_len (n : Int) : (wordF n).length = 1 := rfl
def intF (n : Int) : List Value := [.int .i64 n]
theorem cells_word (l : List Int) : cellsOf wordF l = l.map (fun x => Value.int .u64 x) := by
  induction l with
  | nil => rfl
  | cons x l ih => simp only [cellsOf, List.flatMap_cons, List.map_cons] at *; rw [ih]; rfl
theorem cells_int (l : List Int) : cellsOf (fun n : Int => [Value.int .i64 n]) l = l.map (fun x => Value.int .i64 x) := by
  induction l with
  | nil => rfl
  | cons x l ih => simp only [cellsOf, List.flatMap_cons, List.map_cons] at *; rw [ih]; rfl
theorem intF_len (n : Int) : (intF n).length = 1 := rfl

theorem table_c (v : Value) (l : List Int) (w : World) (h : RdL wordF 1 w v l) (hl : l.length = 16) :
    Calls Try.prog 110 #[v] w fun e w' => e = .returned (.int .i64 0) ∧ w = w' := by
  obtain ⟨a, cap, rfl⟩ := h.shape
  rw [hl]
  clear h hl
  go_enter Try.func110, Try.ntmps110
  go_wp2
  go_ret
  exact ⟨rfl, rfl⟩

def WordPost (B b : Nat) (w : World) (e : Ending) (w' : World) : Prop :=
  ∃ r, e = .returned (.int .u64 r) ∧ 0 ≤ r ∧ r < 18446744073709551616 ∧ Deck B w' b ∧ w.grownBy w' (some b)

set_option maxHeartbeats 400000 in
theorem word_c {B : Nat} (b : Nat) (w : World) (hd : Deck B w b) :
    Calls Try.prog 68 #[.pointer (some ⟨b, 0, none⟩)] w (WordPost B b w) := by
  go_enter Try.func68, Try.ntmps68
  go_wp2_with fail
  refine (next_c b _ w hd (by omega) (by omega)).mono ?_
  rintro e w1 ⟨r1, rfl, ha1, hb1, hd1, hg1⟩
  go_wp2_with fail
  refine (next_c b _ w1 hd1 (by omega) (by omega)).mono ?_
  rintro e w2 ⟨r2, rfl, ha2, hb2, hd2, hg2⟩
  go_wp2_with fail
  go_ret
  have hb := bounds_u64 (wf_bits BinOp.xor IntKind.u64 (r1 * 4294967296) r2)
  exact ⟨_, rfl, hb.1, by omega, hd2, grownBy_trans hg1 hg2⟩

/-- Words that fit. -/
def WordsOk (l : List Int) : Prop := ∀ x ∈ l, 0 ≤ x ∧ x < 18446744073709551616
def TablePost (B b : Nat) (w : World) (e : Ending) (w' : World) : Prop :=
  ∃ v, ∃ l : List Int, e = .returned v ∧ RdL wordF 1 w' v l ∧ l.length = 16 ∧ WordsOk l ∧ NotIn v b ∧ (∀ a n c, v = .slice (some a) n c → w.heap.size ≤ a.block) ∧ Deck B w' b ∧ w.grownBy w' (some b)
def TableRel (B b C : Nat) (w : World) (wr : World) : Prop :=
  ∃ ws : List Int, ws.length = 16 ∧ WordsOk ws ∧ wr.heap[C]? = some (.cells (ws.map (fun x => Value.int .u64 x)).toArray 22) ∧ Deck B wr b ∧ w.grownBy wr (some b)

def zeros16 : Array Value := ((List.replicate 16 0).map (fun x : Int => Value.int .u64 x)).toArray
theorem make16 (w : World) : (Instr.makeSlice 24 (.int .i64 16) (.int .i64 16)).run Try.prog w = .ok (.slice (some ⟨w.heap.size, 0, none⟩) 16 16) (w.alloc (.cells zeros16 22)) := by kernel_rfl

set_option maxHeartbeats 400000 in
theorem dtable_c {B : Nat} (b : Nat) (w : World) (hd : Deck B w b) (hB : B ≤ w.heap.size) :
    Calls Try.prog 67 #[.pointer (some ⟨b, 0, none⟩)] w (TablePost B b w) := by
  have hb := hd.lt
  have hmk := make16
  go_enter Try.func67, Try.ntmps67
  go_wp2_with fail
  refine (next_c b _ _ (hd.alloc _) (by omega) (by omega)).mono ?_
  rintro e w1 ⟨r1, rfl, ha1, hb1, hd1, hg1⟩
  have HB := Lib.hid (hg1.block w.heap.size (by simp) (by simp; omega))
  clear hmk
  go_wp2_with fail
  go_loopw [12] (fun i wr => ∃ k : Nat, k ≤ 16 ∧ i = .int .i64 k ∧ TableRel B b w.heap.size w wr) (fun i _ => 16 - (intOf i).toNat)
  case atStart =>
    refine ⟨0, by omega, rfl, List.replicate 16 0, rfl, ?_, ?_, hd1, grownBy_trans (World.grownBy_alloc w _ _) hg1⟩
    · intro x hx; rw [List.eq_of_mem_replicate hx]; omega
    · rw [HB.out]; exact heap_alloc_new w _
  case round =>
    obtain ⟨k, hk, rfl, ws, hws, hok, hheap, hdr, hg⟩ := hrel
    by_cases hlt : k < 16
    · have hkk : k < ws.length := by omega
      go_wp2_with fail
      · refine (word_c b wr hdr).mono ?_
        rintro e w2 ⟨r2, rfl, ha2, hb2, hd2, hg2⟩
        have hB2 : w2.heap[w.heap.size]? = some (.cells (ws.map (fun x => Value.int .u64 x)).toArray 22) := by
          rw [hg2.block _ (Array.getElem?_eq_some_iff.1 hheap).1 (by simp; omega)]; exact hheap
        have hc2 : w2.cell? ⟨w.heap.size, k, none⟩ = some (.int .u64 ws[k]) := by
          simp [World.cell?, hB2, List.getElem?_eq_getElem hkk]
        have hf2 : w2.frozen? ⟨w.heap.size, k, none⟩ = false := by simp [World.frozen?, hB2]
        have HB2 := Lib.hid hB2
        clear hB2 hheap
        go_wp2_with fail
        have G : (w2.setCell ⟨w.heap.size, k, none⟩ (.int .u64 r2)).heap[w.heap.size]? = some (.cells ((ws.set k r2).map (fun x => Value.int .u64 x)).toArray 22) := by
          rw [heap_set _ HB2.out]; simp [List.map_set]
        refine ⟨⟨k + 1, by omega, by go_num, ws.set k r2, by simpa using hws, ?_, G, ?_, ?_⟩, ?_⟩
        · intro x hx
          rcases List.mem_or_eq_of_mem_set hx with h | h
          · exact hok x h
          · subst h; exact ⟨ha2, hb2⟩
        · exact hd2.kept (grownBy_set (grownBy_refl w2 _) _ _) (by intro c hc; cases hc; exact hB)
        · exact grownBy_setNew (grownBy_trans hg hg2) (Nat.le_refl _) _
        · simp [intOf]; omega
      · exact ⟨⟨k + 1, by omega, by go_num, ws, hws, hok, hheap, hdr, hg⟩, by simp [intOf]; omega⟩
    · have hk' : k = 16 := by omega
      go_wp2_with fail
      go_ret
      refine ⟨_, ws, rfl, ?_, hws, hok, ?_, ?_, hdr, hg⟩
      · refine ⟨?_, ?_, .inr ⟨w.heap.size, 0, 16, ?_, (Array.getElem?_eq_some_iff.1 hheap).1, ?_⟩⟩
        · rw [length_cellsOf _ 1 wordF_len]
        · omega
        · rw [hws]; rfl
        · intro j u hu
          rw [cells_word] at hu
          simp only [World.cell?, hheap, Nat.zero_add]
          simpa using hu
      · intro a n c h; cases h; simp; omega
      · intro a n c h; cases h; simp
end Go.Proofs.Ytiagjiaahnkefaa

/- Slices that the call itself makes: what they hold; append; cuts of slices that are read. -/
namespace Go.Proofs.Ytiagjiaahnkefaa
open Go.RowKit

/-- v is a slice of the call's own (its block lies from B on); it holds l. -/
def Own {α : Type} (f : α → List Value) (s : Nat) (e : TypeId) (B : Nat) (w : World) (v : Value) (l : List α) : Prop := w.ownsRow B e s v l.length (cellsOf f l)
theorem Own.shape {α : Type} {f : α → List Value} {s : Nat} {e : TypeId} {B : Nat} {w : World} {v : Value} {l : List α} (h : Own f s e B w v l) : ∃ a cap, v = .slice a l.length cap := by
  rcases h.2 with ⟨rfl, h0⟩ | ⟨g, cap, cur, rfl, _⟩
  · exact ⟨_, _, by rw [h0]⟩
  · exact ⟨_, _, rfl⟩
theorem Own.nil {α : Type} (f : α → List Value) (s : Nat) (e : TypeId) (B : Nat) (w : World) : Own f s e B w (.slice none 0 0) [] := World.ownsRow_nil w B e s
theorem Own.lt {α : Type} {f : α → List Value} {s : Nat} {e : TypeId} {B : Nat} {w : World} {v : Value} {l : List α} (h : Own f s e B w v l) : ∀ k, v.ownBlock = some k → B ≤ k ∧ k < w.heap.size := World.ownsRow.lt h
theorem Own.kept {α : Type} {f : α → List Value} {s : Nat} {e : TypeId} {B : Nat} {w w' : World} {v : Value} {l : List α} {r : Option Nat} (h : Own f s e B w v l) (hg : w.grownBy w' r) (hne : ∀ k, v.ownBlock = some k → r ≠ some k) : Own f s e B w' v l := by
  refine World.ownsRow.kept h hg ?_
  cases hv : v.ownBlock with
  | none => exact .inl rfl
  | some k => exact .inr (fun e => hne k hv e.symm)
theorem Own.same {α : Type} {f : α → List Value} {s : Nat} {e : TypeId} {B : Nat} {w w' : World} {v : Value} {l : List α} (h : Own f s e B w v l) (hg : w.grownBy w' none) : Own f s e B w' v l := h.kept hg (by simp)
theorem Own.len {α : Type} {f : α → List Value} {s : Nat} {e : TypeId} {B : Nat} {w : World} {v : Value} {l : List α} (h : Own f s e B w v l) : l.length ≤ 9223372036854775807 := by
  rcases h.2 with ⟨rfl, h0⟩ | ⟨g, cap, cur, rfl, _, _, h1, h2, _⟩
  · omega
  · unfold maxLen at h2; omega
theorem Own.rd {α : Type} {f : α → List Value} {s : Nat} {e : TypeId} {B : Nat} {w : World} {v : Value} {l : List α} (h : Own f s e B w v l) : RdL f s w v l := by
  refine ⟨h.1, h.len, ?_⟩
  rcases h.2 with ⟨rfl, h0⟩ | ⟨g, cap, cur, rfl, _, hg, h1, h2, _⟩
  · exact .inl ⟨h0, none, 0, rfl⟩
  · refine .inr ⟨g, 0, cap, rfl, (Array.getElem?_eq_some_iff.1 hg).1, fun j u hu => ?_⟩
    have := World.ownsRow.cells h (g := g) rfl j u hu
    have e : (⟨g, 0, none⟩ : Addr).add j = ⟨g, 0 + j, none⟩ := by unfold Addr.add; split <;> simp_all
    rw [e] at this; exact this
theorem Own.base {α : Type} {f : α → List Value} {s : Nat} {e : TypeId} {B B' : Nat} {w : World} {v : Value} {l : List α} (h : Own f s e B w v l) (hb : ∀ k, v.ownBlock = some k → B' ≤ k) : Own f s e B' w v l := by
  refine ⟨h.1, ?_⟩
  rcases h.2 with h0 | ⟨g, cap, cur, rfl, _, hh⟩
  · exact .inl h0
  · exact .inr ⟨g, cap, cur, rfl, hb g rfl, hh⟩
/-- A step that writes the row of a slice of the call's own leaves what was there at the call's beginning as it was. -/
theorem grown_own {α : Type} {f : α → List Value} {s : Nat} {e : TypeId} {w w0 w' : World} {v : Value} {l : List α} {r : Option Nat} {B : Nat} (hg : w.grownBy w0 r) (h : Own f s e B w0 v l) (hB : w.heap.size ≤ B) (k : w0.grownBy w' v.ownBlock) : w.grownBy w' r := by
  cases hv : v.ownBlock with
  | none => rw [hv] at k; exact grownBy_trans hg (grownBy_some k _)
  | some g => rw [hv] at k; exact grownBy_new hg k (by have := h.lt g hv; omega)
/-- The rows of two slices of the call's own are two. -/
def Apart (v u : Value) : Prop := ∀ g, v.ownBlock = some g → u.ownBlock ≠ some g
theorem Apart.symm {v u : Value} (h : Apart v u) : Apart u v := fun g hg e => h g e hg
theorem apart_nil (u : Value) : Apart (.slice none 0 0) u := fun g hg => by simp [Value.ownBlock] at hg
def Lies (v v' : Value) (n : Nat) : Prop := v'.ownBlock = v.ownBlock ∨ ∃ g, v'.ownBlock = some g ∧ n ≤ g
theorem Apart.app {v u v' : Value} {n : Nat} (h : Apart v u) (hu : ∀ k, u.ownBlock = some k → k < n) (hl : Lies v v' n) : Apart v' u := by
  intro g hg e
  rcases hl with h1 | ⟨k, h1, h2⟩
  · exact h g (h1 ▸ hg) e
  · rw [h1] at hg; cases hg; have := hu _ e; omega

theorem off_new {v : Value} {n a b : Nat} (h : ∀ k, v.ownBlock = some k → k < n) : ∀ k, v.ownBlock = some k → Value.ownBlock (.slice (some ⟨n, 0, none⟩) a b) ≠ some k := by
  intro k hk e
  have h1 := h k hk
  have h2 : n = k := by simpa [Value.ownBlock] using e
  omega
theorem Lies.ge {v v' : Value} {n m : Nat} (h : Lies v v' n) (hv : ∀ k, v.ownBlock = some k → m ≤ k) (hm : m ≤ n) : ∀ k, v'.ownBlock = some k → m ≤ k := by
  intro k hk
  rcases h with h | ⟨g, h1, h2⟩
  · exact hv k (h ▸ hk)
  · rw [h1] at hk; cases hk; omega
theorem ge_new (n a b : Nat) : ∀ k, Value.ownBlock (.slice (some ⟨n, 0, none⟩) a b) = some k → n ≤ k := by
  intro k hk
  have : n = k := by simpa [Value.ownBlock] using hk
  omega
theorem apart_ge {v u : Value} {m : Nat} (h : ∀ k, v.ownBlock = some k → m ≤ k) (h' : ∀ k, u.ownBlock = some k → k < m) : Apart v u := fun g hg e => by
  have h1 := h g hg
  have h2 := h' g e
  omega

/-- What is known of a slice type and its element type. -/
structure Elt (st e : TypeId) (z : Value) (size bytes : Nat) : Prop where
  ht : Try.prog.underlying st = some (.slice e)
  info : (Try.prog.info? e).map (fun i => (i.zero, i.size, i.bytes)) = some (some z, size, bytes)
  cells : z.cells.size = size
  pos : 0 < size

theorem run_app_nil {w : World} {st e ty : TypeId} {z : Value} {size bytes : Nat} (E : Elt st e z size bytes) {base : Nat} {v : Value} {n : Nat} {xs : List Value} (hown : w.ownsRow base e size v n xs) (c : Nat) :
    (Builtin.append_ #[st, st] ty #[v, .slice none 0 c]).run Try.prog w = .ok v w := by
  obtain ⟨i, hi, _⟩ := info_parts E.info
  rcases hown.2 with ⟨rfl, rfl⟩ | ⟨g, cap, cur, rfl, _, _, hnc, _⟩
  · simp [Builtin.append_, run_underlying E.ht, sizeOf, typeInfo, hi, Builtin.lenOf, Builtin.firstCells]
  · simp [Builtin.append_, run_underlying E.ht, sizeOf, typeInfo, hi, Builtin.lenOf, Builtin.firstCells, hnc, storeCells]

/-- append of whatever is read. -/
theorem run_app {w : World} {st e ty : TypeId} {z : Value} {size bytes : Nat} (E : Elt st e z size bytes) {base : Nat} {v : Value} {n : Nat} {xs : List Value} (hown : w.ownsRow base e size v n xs)
    {A : Option Addr} {m c : Nat} {news : List Value} (hr : Rd w size (.slice A m c) m news) (h1 : ∀ u ∈ news, u.oneCell' = true) (h63 : n + m ≤ maxLen) (hb : (n + m) * bytes ≤ 140737488355328) (hbase : base ≤ w.heap.size) :
    ∃ v' w', (Builtin.append_ #[st, st] ty #[v, .slice A m c]).run Try.prog w = .ok v' w' ∧ w'.ownsRow base e size v' (n + m) (xs ++ news) ∧ w.grownBy w' v.ownBlock ∧ Lies v v' w.heap.size := by
  obtain ⟨i, hi, hz0, hz1, hz2⟩ := info_parts E.info
  have key : ∀ ad : Addr, (∀ j u, news[j]? = some u → w.cell? (ad.add j) = some u) → ∃ v' w', (Builtin.append_ #[st, st] ty #[v, .slice (some ad) m c]).run Try.prog w = .ok v' w' ∧ w'.ownsRow base e size v' (n + m) (xs ++ news) ∧ w.grownBy w' v.ownBlock ∧ Lies v v' w.heap.size := by
    intro ad hc
    obtain ⟨v', w', hrun, h2, h3, _, h5⟩ := run_append_own_at (P := Try.prog) w base st ty e i z size bytes E.ht hi hz0 hz1 hz2 E.cells E.pos v n xs hown ad m c news hr.1 hc h1 h63 hb hbase
    exact ⟨v', w', hrun, h2, h3, h5.imp id fun h => ⟨_, h, Nat.le_refl _⟩⟩
  rcases hr.2.2 with ⟨rfl, a, cap, hv⟩ | ⟨g, off, cap, hv, _, hc⟩
  · have hn : news = [] := List.eq_nil_of_length_eq_zero (by simpa using hr.1)
    subst hn
    cases A with
    | none => exact ⟨v, w, run_app_nil E hown c, by simpa using hown, World.grownBy.refl w _, .inl rfl⟩
    | some ad => exact key ad (by simp)
  · cases hv
    refine key _ fun j u hu => ?_
    have e : (⟨g, off, none⟩ : Addr).add j = ⟨g, off + j, none⟩ := by unfold Addr.add; split <;> simp_all
    rw [e]; exact hc j u hu

theorem cellsOf_append {α : Type} (f : α → List Value) (l l' : List α) : cellsOf f (l ++ l') = cellsOf f l ++ cellsOf f l' := by simp [cellsOf]
/-- The cells of an element are single cells. -/
def OneF {α : Type} (f : α → List Value) : Prop := ∀ x, ∀ u ∈ f x, u.oneCell' = true
theorem OneF.cells {α : Type} {f : α → List Value} (h : OneF f) (l : List α) : ∀ u ∈ cellsOf f l, u.oneCell' = true := by
  intro u hu
  obtain ⟨x, _, hx⟩ := List.mem_flatMap.1 hu
  exact h x u hx

section
variable {α : Type} {f : α → List Value} {st e : TypeId} {z : Value} {size bytes : Nat} {w : World} {B : Nat} {v : Value} {l l2 : List α} {A : Option Addr} {m c : Nat}
variable {o : Oper} {a : Act} {ops : Array Oper} {rest : List Oper} {Q : Exit → Act → World → Prop}

theorem wp_app (E : Elt st e z size bytes) (h1 : OneF f) (hown : Own f size e B w v l) (hr : RdL f size w (.slice A m c) l2) (hm : m = l2.length) (hb : (l.length + l2.length) * bytes ≤ 140737488355328) (h63 : l.length + l2.length ≤ 9223372036854775807) (hbase : B ≤ w.heap.size)
    (s x : Operand) (ho : o.op = .call { callee := .builtin .append, args := #[s, x], argTypes := #[st, st] }) (hs : a.eval s = v) (hx : a.eval x = .slice A m c) {K : Act → World → Prop}
    (h : ∀ v' w', Own f size e B w' v' (l ++ l2) → w.grownBy w' v.ownBlock → Lies v v' w.heap.size → K (a.put o.dst v') w') : o.wp Try.prog a w K Q := by
  subst hm
  obtain ⟨v', w', hrun, h2, h3, h4⟩ := run_app (ty := o.type) E hown hr (h1.cells l2) (by unfold maxLen; exact h63) hb hbase
  unfold Oper.wp execOp
  simp only [ho, resolve, invoke, builtin, Sem.run_bind, Sem.run_pure, Result.andThen_ok, List.map_toArray, List.map_cons, List.map_nil, hs, hx, hrun]
  exact h v' w' (by unfold Own; rw [cellsOf_append, List.length_append]; exact h2) h3 h4

/-- append, in a region that is carried out in order. -/
theorem app (E : Elt st e z size bytes) (h1 : OneF f) (hown : Own f size e B w v l) (hr : RdL f size w (.slice A m c) l2) (hm : m = l2.length) (hb : (l.length + l2.length) * bytes ≤ 140737488355328) (h63 : l.length + l2.length ≤ 9223372036854775807) (hbase : B ≤ w.heap.size)
    (hgd : o.guard = none) (s x : Operand) (ho : o.op = .call { callee := .builtin .append, args := #[s, x], argTypes := #[st, st] }) (hs : a.eval s = v) (hx : a.eval x = .slice A m c)
    (h : ∀ v' w', Own f size e B w' v' (l ++ l2) → w.grownBy w' v.ownBlock → Lies v v' w.heap.size → wpList Try.prog ops Q rest (a.put o.dst v') w') : wpList Try.prog ops Q (o :: rest) a w :=
  wpList_plain hgd fun _ hK => wp_app E h1 hown hr hm hb h63 hbase s x ho hs hx fun v' w' h2 h3 h4 => hK _ _ (h v' w' h2 h3 h4)
/-- The same at a step of a region that draws its order. -/
theorem step_app (E : Elt st e z size bytes) (h1 : OneF f) (hown : Own f size e B w v l) (hr : RdL f size w (.slice A m c) l2) (hm : m = l2.length) (hb : (l.length + l2.length) * bytes ≤ 140737488355328) (h63 : l.length + l2.length ≤ 9223372036854775807) (hbase : B ≤ w.heap.size)
    (hgd : o.guard = none) (s x : Operand) (ho : o.op = .call { callee := .builtin .append, args := #[s, x], argTypes := #[st, st] }) (hs : a.eval s = v) (hx : a.eval x = .slice A m c) {K : Act → World → Prop} {R : Prop}
    (h : ∀ v' w', Own f size e B w' v' (l ++ l2) → w.grownBy w' v.ownBlock → Lies v v' w.heap.size → K (a.put o.dst v') w') : if Region.wanted o (yielded ops a.tmps) = true then Oper.wp Try.prog o a w K Q else R := by
  have hw : Region.wanted o (yielded ops a.tmps) = true := by simp [Region.wanted, hgd]
  rw [if_pos hw]
  exact wp_app E h1 hown hr hm hb h63 hbase s x ho hs hx h

/-- One element that lies in a block of its own is read as a list. -/
theorem rd_one' (hf : ∀ x, (f x).length = size) (w0 : World) (y : α) (cs : Array Value) (te : TypeId) (hcs : cs.toList = f y) : RdL f size (w0.alloc (.cells cs te)) (.slice (some ⟨w0.heap.size, 0, none⟩) 1 1) [y] := by
  refine ⟨by simp [cellsOf, hf], by simp, .inr ⟨w0.heap.size, 0, 1, rfl, by simp, fun j u hu => ?_⟩⟩
  simp only [cellsOf, List.flatMap_cons, List.flatMap_nil, List.append_nil, ← hcs] at hu
  have := heap_alloc_new w0 (.cells cs te)
  simp only [World.cell?, this, Nat.zero_add]
  simpa using hu
/-- append of one element, which lies in a block of its own. -/
theorem app_one (E : Elt st e z size bytes) (h1 : OneF f) (hf : ∀ x, (f x).length = size) (hown : Own f size e B w v l) (y : α) (hb : (l.length + 1) * bytes ≤ 140737488355328) (h63 : l.length + 1 ≤ 9223372036854775807) (hbase : B ≤ w.heap.size) {te : TypeId} {cs : Array Value} (hcs : cs.toList = f y)
    (hgd : o.guard = none) (s x : Operand) (ho : o.op = .call { callee := .builtin .append, args := #[s, x], argTypes := #[st, st] }) (hs : a.eval s = v) (hx : a.eval x = .slice (some ⟨w.heap.size, 0, none⟩) 1 1)
    (h : ∀ v' w', Own f size e B w' v' (l ++ [y]) → w.grownBy w' v.ownBlock → Lies v v' w.heap.size → wpList Try.prog ops Q rest (a.put o.dst v') w') : wpList Try.prog ops Q (o :: rest) a (w.alloc (.cells cs te)) :=
  app (l2 := [y]) E h1 (hown.same (World.grownBy_alloc w _ _)) (rd_one' hf w y cs te hcs) rfl (by simpa using hb) (by simpa using h63) (by simp; omega) hgd s x ho hs hx
    fun v' w' h2 h3 h4 => h v' w' h2 (grownBy_trans (World.grownBy_alloc w _ _) h3) (h4.imp id fun ⟨g, e1, e2⟩ => ⟨g, e1, by simp at e2; omega⟩)
theorem step_app_one (E : Elt st e z size bytes) (h1 : OneF f) (hf : ∀ x, (f x).length = size) (hown : Own f size e B w v l) (y : α) (hb : (l.length + 1) * bytes ≤ 140737488355328) (h63 : l.length + 1 ≤ 9223372036854775807) (hbase : B ≤ w.heap.size) {te : TypeId} {cs : Array Value} (hcs : cs.toList = f y)
    (hgd : o.guard = none) (s x : Operand) (ho : o.op = .call { callee := .builtin .append, args := #[s, x], argTypes := #[st, st] }) (hs : a.eval s = v) (hx : a.eval x = .slice (some ⟨w.heap.size, 0, none⟩) 1 1) {K : Act → World → Prop} {R : Prop}
    (h : ∀ v' w', Own f size e B w' v' (l ++ [y]) → w.grownBy w' v.ownBlock → Lies v v' w.heap.size → K (a.put o.dst v') w') : if Region.wanted o (yielded ops a.tmps) = true then Oper.wp Try.prog o a (w.alloc (.cells cs te)) K Q else R :=
  step_app (l2 := [y]) E h1 (hown.same (World.grownBy_alloc w _ _)) (rd_one' hf w y cs te hcs) rfl (by simpa using hb) (by simpa using h63) (by simp; omega) hgd s x ho hs hx
    fun v' w' h2 h3 h4 => h v' w' h2 (grownBy_trans (World.grownBy_alloc w _ _) h3) (h4.imp id fun ⟨g, e1, e2⟩ => ⟨g, e1, by simp at e2; omega⟩)
end

/-- The first elements. -/
theorem RdL.take {α : Type} {f : α → List Value} {s : Nat} {w : World} {A : Option Addr} {n cap : Nat} {l : List α} (hf : ∀ x, (f x).length = s) (h : RdL f s w (.slice A n cap) l) {k : Nat} (hk : k ≤ l.length) (c : Nat) : RdL f s w (.slice A k c) (l.take k) := by
  have hl : (l.take k).length = k := by simp; omega
  refine ⟨length_cellsOf f s hf _, by have := h.2.1; omega, ?_⟩
  rcases h.2.2 with ⟨h0, _⟩ | ⟨g, off, cap', hv, hg, hc⟩
  · obtain rfl : k = 0 := by omega
    exact .inl ⟨by omega, A, c, rfl⟩
  · cases hv
    refine .inr ⟨g, off, c, by rw [hl], hg, fun j u hu => hc j u ?_⟩
    have e : cellsOf f l = cellsOf f (l.take k) ++ cellsOf f (l.drop k) := by rw [← cellsOf_append, List.take_append_drop]
    rw [e, List.getElem?_append_left (List.getElem?_eq_some_iff.1 hu).1]; exact hu
/-- The elements from one on. -/
theorem RdL.drop {α : Type} {f : α → List Value} {s : Nat} {w : World} {A : Option Addr} {n cap : Nat} {l : List α} (hf : ∀ x, (f x).length = s) (h : RdL f s w (.slice A n cap) l) {k : Nat} (hk : k ≤ l.length) (hcap : l.length ≤ cap) (c : Nat) :
    RdL f s w (.slice (if cap = k then A else A.map (·.add (k * s))) (l.length - k) c) (l.drop k) := by
  have hl : (l.drop k).length = l.length - k := by simp
  refine ⟨length_cellsOf f s hf _, by have := h.2.1; omega, ?_⟩
  rcases Nat.eq_zero_or_pos (l.length - k) with h0 | h0
  · exact .inl ⟨by omega, _, c, by rw [h0]⟩
  · rcases h.2.2 with ⟨h1, _⟩ | ⟨g, off, cap', hv, hg, hc⟩
    · omega
    · cases hv
      rw [if_neg (by omega)]
      refine .inr ⟨g, off + k * s, c, ?_, hg, fun j u hu => ?_⟩
      · rw [hl]; simp only [Option.map_some]
        unfold Addr.add; split <;> simp_all
      · have e : cellsOf f l = cellsOf f (l.take k) ++ cellsOf f (l.drop k) := by rw [← cellsOf_append, List.take_append_drop]
        have e2 : (cellsOf f (l.take k)).length = k * s := by rw [length_cellsOf f s hf, List.length_take, Nat.min_eq_left hk]
        rw [Nat.add_assoc]
        refine hc _ u ?_
        rw [e, List.getElem?_append_right (by omega), e2, show k * s + j - k * s = j by omega]; exact hu
theorem RdL.dropS {α : Type} {f : α → List Value} {s : Nat} {w : World} {g off n cap : Nat} {l : List α} (hf : ∀ x, (f x).length = s) (h : RdL f s w (.slice (some ⟨g, off, none⟩) n cap) l) {k : Nat} (hk : k ≤ l.length) (hcap : l.length ≤ cap) (c : Nat) :
    RdL f s w (.slice (if cap = k then some ⟨g, off, none⟩ else some ⟨g, off + k * s, none⟩) (l.length - k) c) (l.drop k) := by
  have := h.drop hf hk hcap c
  have e : Option.map (fun a => Addr.add a (k * s)) (some (⟨g, off, none⟩ : Addr)) = some ⟨g, off + k * s, none⟩ := by
    simp only [Option.map_some]; unfold Addr.add; split <;> simp_all
  rw [e] at this; exact this
theorem RdL.drop1 {α : Type} {f : α → List Value} {w : World} {g off n cap : Nat} {l : List α} (hf : ∀ x, (f x).length = 1) (h : RdL f 1 w (.slice (some ⟨g, off, none⟩) n cap) l) {k : Nat} (hk : k ≤ l.length) (hcap : l.length ≤ cap) (c : Nat) :
    RdL f 1 w (.slice (if cap = k then some ⟨g, off, none⟩ else some ⟨g, off + k, none⟩) (l.length - k) c) (l.drop k) := by
  have := h.dropS hf hk hcap c
  rwa [Nat.mul_one] at this
theorem RdL.same {α : Type} {f : α → List Value} {s : Nat} {w w' : World} {v : Value} {l : List α} (h : RdL f s w v l) (hg : w.grownBy w' none) : RdL f s w' v l := Rd.same h hg
theorem RdL.at_ {α : Type} {f : α → List Value} {w : World} {v : Value} {l : List α} {s : Nat} (h : RdL f s w v l) (hf : ∀ x, (f x).length = s) {k : Nat} (hk : k < l.length) :
    ∃ g off cap, v = .slice (some ⟨g, off, none⟩) l.length cap ∧ g < w.heap.size ∧ ∀ j u, (f l[k])[j]? = some u → w.cell? ⟨g, off + k * s + j, none⟩ = some u := by
  obtain ⟨g, off, cap, hv, hg, hc⟩ := h.cell hf (by omega)
  exact ⟨g, off, cap, hv, hg, fun j u hu => hc k l[k] (List.getElem?_eq_getElem hk) j u hu⟩
theorem RdL.one {α : Type} {f : α → List Value} {u : α → Value} (hu : ∀ x, f x = [u x]) {w : World} {v : Value} {l : List α} (h : RdL f 1 w v l) {k : Nat} (hk : k < l.length) :
    ∃ g off cap, v = .slice (some ⟨g, off, none⟩) l.length cap ∧ g < w.heap.size ∧ w.cell? ⟨g, off + k, none⟩ = some (u l[k]) := by
  obtain ⟨g, off, cap, hv, hg, hc⟩ := h.at_ (fun x => by rw [hu]; rfl) hk
  refine ⟨g, off, cap, hv, hg, ?_⟩
  have := hc 0 (u l[k]) (by rw [hu]; rfl)
  simpa using this
theorem own_lit0 {α : Type} (f : α → List Value) (s : Nat) {e : TypeId} {B : Nat} {w : World} (hB : B ≤ w.heap.size) : Own f s e B (w.alloc (.cells #[] e)) (.slice (some ⟨w.heap.size, 0, none⟩) 0 0) [] :=
  ⟨by simp [cellsOf], .inr ⟨w.heap.size, 0, #[], rfl, hB, heap_alloc_new w _, Nat.le_refl _, Nat.zero_le _, by simp, by simp [cellsOf]⟩⟩
theorem Own.cap {α : Type} {f : α → List Value} {s : Nat} {e : TypeId} {B : Nat} {w : World} {a : Option Addr} {n c : Nat} {l : List α} (h : Own f s e B w (.slice a n c) l) : l.length ≤ c := by
  rcases h.2 with ⟨hv, h0⟩ | ⟨g, cap, cur, hv, _, _, h1, _⟩
  · omega
  · cases hv; exact h1
theorem word_one (x : Int) : wordF x = [Value.int .u64 x] := rfl
theorem int_one (x : Int) : intF x = [Value.int .i64 x] := rfl
end Go.Proofs.Ytiagjiaahnkefaa

/- Summaries: how they lie in memory; their total. -/
namespace Go.Proofs.Ytiagjiaahnkefaa
open Go.RowKit

/-- A tracked key. -/
structure Ent where
  (key : ByteArray) (own slack : Int)
def entF (e : Ent) : List Value := [.string e.key, .int .u64 e.own, .int .u64 e.slack]
theorem entF_len (e : Ent) : (entF e).length = 3 := rfl
def valF (v : Value) : List Value := [v]
theorem valF_len (v : Value) : (valF v).length = 1 := rfl
theorem val_one (v : Value) : valF v = [v] := rfl
/-- A summary: its numbers, the slices as they stand, and what these read as. -/
structure Summ where
  (total : Int) (ve : Value) (untr : Int) (vr : Value) (es : List Ent) (vs : List Value) (rows : List (List Int))
def sumF (s : Summ) : List Value := [.int .u64 s.total, s.ve, .int .u64 s.untr, s.vr]
theorem sumF_len (s : Summ) : (sumF s).length = 4 := rfl
abbrev sumV (total : Int) (ve : Value) (untr : Int) (vr : Value) : Value := .agg #[.int .u64 total, ve, .int .u64 untr, vr]
structure SumRd (w : World) (s : Summ) : Prop where
  es : RdL entF 3 w s.ve s.es
  vs : RdL valF 1 w s.vr s.vs
  len : s.vs.length = s.rows.length
  rows : ∀ (i : Nat) v row, s.vs[i]? = some v → s.rows[i]? = some row → RdL wordF 1 w v row
theorem SumRd.same {w w' : World} {s : Summ} (h : SumRd w s) (hg : w.grownBy w' none) : SumRd w' s :=
  ⟨h.es.same hg, h.vs.same hg, h.len, fun i v row hv hr => (h.rows i v row hv hr).same hg⟩
/-- The numbers have 64 bits. -/
structure SumW (s : Summ) : Prop where
  total : W64 s.total
  untr : W64 s.untr
  es : ∀ e ∈ s.es, W64 e.own ∧ W64 e.slack
  rows : ∀ row ∈ s.rows, ∀ x ∈ row, W64 x
/-- A slice of summaries. -/
structure SumsRd (w : World) (v : Value) (l : List Summ) : Prop where
  rd : RdL sumF 4 w v l
  all : ∀ s ∈ l, SumRd w s
  wf : ∀ s ∈ l, SumW s
theorem SumsRd.same {w w' : World} {v : Value} {l : List Summ} (h : SumsRd w v l) (hg : w.grownBy w' none) : SumsRd w' v l :=
  ⟨h.rd.same hg, fun s hs => (h.all s hs).same hg, h.wf⟩
theorem SumsRd.at_ {w : World} {v : Value} {l : List Summ} (h : SumsRd w v l) {k : Nat} (hk : k < l.length) :
    ∃ g off cap, v = .slice (some ⟨g, off, none⟩) l.length cap ∧ g < w.heap.size ∧ w.cell? ⟨g, off + k * 4, none⟩ = some (.int .u64 l[k].total) ∧ w.cell? ⟨g, off + k * 4 + 1, none⟩ = some l[k].ve ∧
      w.cell? ⟨g, off + k * 4 + 2, none⟩ = some (.int .u64 l[k].untr) ∧ w.cell? ⟨g, off + k * 4 + 3, none⟩ = some l[k].vr ∧ SumRd w l[k] ∧ SumW l[k] := by
  obtain ⟨g, off, cap, hv, hg, hc⟩ := h.rd.at_ sumF_len hk
  exact ⟨g, off, cap, hv, hg, hc 0 _ rfl, hc 1 _ rfl, hc 2 _ rfl, hc 3 _ rfl, h.all _ (List.getElem_mem hk), h.wf _ (List.getElem_mem hk)⟩
theorem take_succ {α : Type} {l : List α} {k : Nat} (h : k < l.length) : l.take (k + 1) = l.take k ++ [l[k]] := List.take_succ_eq_append_getElem h

def totalF (l : List Summ) : Int := l.foldl (fun n s => satA n s.total) 0
theorem totalF_snoc (l : List Summ) (s : Summ) : totalF (l ++ [s]) = satA (totalF l) s.total := by simp [totalF]
theorem w64_0 : W64 0 := ⟨by omega, by omega⟩

set_option maxHeartbeats 400000 in
theorem mtotal_c (v : Value) (l : List Summ) (w : World) (h : SumsRd w v l) : Calls Try.prog 36 #[v] w (RetWord (totalF l) w) := by
  obtain ⟨a, c, rfl⟩ := h.rd.shape
  have hm := h.rd.2.1
  have H := Lib.hid h
  clear h
  go_enter Try.func36, Try.ntmps36
  go_wp2_with fail
  go_loopw [3, 8] (fun s3 s8 wr => ∃ k : Nat, k ≤ l.length ∧ s8 = .int .i64 k ∧ s3 = .int .u64 (totalF (l.take k)) ∧ W64 (totalF (l.take k)) ∧ w.grownBy wr none) (fun _ s8 _ => l.length - (intOf s8).toNat)
  case atStart => exact ⟨0, Nat.zero_le _, rfl, rfl, w64_0, grownBy_refl _ _⟩
  case round =>
    obtain ⟨k, hk, rfl, rfl, hT, hg⟩ := hrel
    by_cases hlt : k < l.length
    · obtain ⟨g, off, cap, hv, hgl, c0, c1, c2, c3, hR, hW⟩ := (H.out.same hg).at_ hlt
      cases hv
      have HS := Lib.hid (take_succ hlt)
      have Hs := Lib.hid (totalF_snoc (l.take k) l[k])
      have hW1 := hW.total
      have hW2 := satA_w hT hW1
      obtain ⟨a1, k1, e1⟩ := hR.es.shape
      obtain ⟨a2, k2, e2⟩ := hR.vs.shape
      rw [e1] at c1
      rw [e2] at c3
      clear hR hW e1 e2
      generalize totalF (l.take k) = T at *
      generalize l[k].total = t at *
      generalize l[k].untr = u at *
      go_wp2_with (go_at_call 52; refine (satAdd_c T t _ hT hW1).mono ?_; rintro e w' ⟨rfl, rfl⟩)
      exact ⟨⟨k + 1, by omega, by go_num, by rw [HS.out, Hs.out], by rw [HS.out, Hs.out]; exact hW2, grownBy_new_block hg _⟩, by simp [intOf]; omega⟩
    · have hl : l.take k = l := List.take_of_length_le (by omega)
      rw [hl]
      clear hl
      go_wp2_with fail
      go_ret
      exact retWord rfl hg

set_option maxHeartbeats 400000 in
theorem rtotal_c (v : Value) (l : List Summ) (w : World) (h : SumsRd w v l) : Calls Try.prog 37 #[v] w (RetWord (totalF l) w) := by
  obtain ⟨a, c, rfl⟩ := h.rd.shape
  have hm := h.rd.2.1
  have H := Lib.hid h
  clear h
  go_enter Try.func37, Try.ntmps37
  go_wp2_with fail
  go_loopw [3, 8] (fun s3 s8 wr => ∃ k : Nat, k ≤ l.length ∧ s8 = .int .i64 k ∧ s3 = .int .u64 (totalF (l.take k)) ∧ W64 (totalF (l.take k)) ∧ w.grownBy wr none) (fun _ s8 _ => l.length - (intOf s8).toNat)
  case atStart => exact ⟨0, Nat.zero_le _, rfl, rfl, w64_0, grownBy_refl _ _⟩
  case round =>
    obtain ⟨k, hk, rfl, rfl, hT, hg⟩ := hrel
    by_cases hlt : k < l.length
    · obtain ⟨g, off, cap, hv, hgl, c0, c1, c2, c3, hR, hW⟩ := (H.out.same hg).at_ hlt
      cases hv
      have HS := Lib.hid (take_succ hlt)
      have Hs := Lib.hid (totalF_snoc (l.take k) l[k])
      have hW1 := hW.total
      have hW2 := satA_w hT hW1
      obtain ⟨a1, k1, e1⟩ := hR.es.shape
      obtain ⟨a2, k2, e2⟩ := hR.vs.shape
      rw [e1] at c1
      rw [e2] at c3
      clear hR hW e1 e2
      generalize totalF (l.take k) = T at *
      generalize l[k].total = t at *
      generalize l[k].untr = u at *
      go_wp2_with (go_at_call 84; refine (rsum_c T t _ hT hW1).mono ?_; rintro e w' ⟨rfl, rfl⟩)
      exact ⟨⟨k + 1, by omega, by go_num, by rw [HS.out, Hs.out], by rw [HS.out, Hs.out]; exact hW2, grownBy_new_block hg _⟩, by simp [intOf]; omega⟩
    · have hl : l.take k = l := List.take_of_length_le (by omega)
      rw [hl]
      clear hl
      go_wp2_with fail
      go_ret
      exact retWord rfl hg

end Go.Proofs.Ytiagjiaahnkefaa

/- Configurations, as the deck makes them, and what the references say of them. -/
namespace Go.Proofs.Ytiagjiaahnkefaa
open Go.RowKit

structure Cfg where
  (Length Lateness Windows Shards Spread Queue Mode Slots Exact Promote Depth Width Top Key : Int)
  (Classes Table : Value)
  (Seed : Int)

abbrev Cfg.val (c : Cfg) : Value := .agg #[.int .i64 c.Length, .int .i64 c.Lateness, .int .i64 c.Windows, .int .i64 c.Shards, .int .i64 c.Spread, .int .i64 c.Queue, .int .i64 c.Mode, .int .i64 c.Slots, .int .i64 c.Exact, .int .u64 c.Promote, .int .i64 c.Depth, .int .i64 c.Width, .int .i64 c.Top, .int .i64 c.Key, c.Classes, c.Table, .int .u64 c.Seed]

abbrev Cfg.arr (c : Cfg) : Array Value := #[.int .i64 c.Length, .int .i64 c.Lateness, .int .i64 c.Windows, .int .i64 c.Shards, .int .i64 c.Spread, .int .i64 c.Queue, .int .i64 c.Mode, .int .i64 c.Slots, .int .i64 c.Exact, .int .u64 c.Promote, .int .i64 c.Depth, .int .i64 c.Width, .int .i64 c.Top, .int .i64 c.Key, c.Classes, c.Table, .int .u64 c.Seed]

theorem size_cfg : (Try.prog.info? 32).map (·.size) = some 17 := by kernel_rfl

/-- Block b holds a configuration. -/
structure BoxAt (w : World) (b : Nat) (c : Cfg) : Prop where
  block : ∃ t f, w.heap[b]? = some (.cells c.arr t f) ∧ f = (0, 0)
theorem BoxAt.lt {w : World} {b : Nat} {c : Cfg} (h : BoxAt w b c) : b < w.heap.size := by
  obtain ⟨_, _, h, _⟩ := h.block; exact (Array.getElem?_eq_some_iff.1 h).1
theorem BoxAt.cell {w : World} {b : Nat} {c : Cfg} (h : BoxAt w b c) (i : Nat) : w.cell? ⟨b, i, none⟩ = c.arr[i]? := by
  obtain ⟨t, f, h, _⟩ := h.block; simp [World.cell?, h]
theorem BoxAt.kept {w w' : World} {b : Nat} {c : Cfg} {r : Option Nat} (h : BoxAt w b c) (hg : w.grownBy w' r) (hr : r ≠ some b) : BoxAt w' b c := by
  obtain ⟨t, f, hb, hf⟩ := h.block
  exact ⟨t, f, (hg.block b h.lt (fun e => hr e.symm)).trans hb, hf⟩
theorem BoxAt.same {w w' : World} {b : Nat} {c : Cfg} (h : BoxAt w b c) (hg : w.grownBy w' none) : BoxAt w' b c := h.kept hg (by simp)

/-- The configuration is read out of its block. -/
theorem load_cfg {ops : Array Oper} {rest : List Oper} {o : Oper} {a : Act} {w : World} {Q : Exit → Act → World → Prop} (hgd : o.guard = none) (x : Operand) (ho : o.op = .load 32 x)
    (b : Nat) (hx : a.eval x = .pointer (some ⟨b, 0, none⟩)) (c : Cfg) (hb : BoxAt w b c) (h : wpList Try.prog ops Q rest (a.put o.dst c.val) w) : wpList Try.prog ops Q (o :: rest) a w := by
  obtain ⟨t, f, hbl, _⟩ := hb.block
  exact wpList_load_row hgd _ x ho b hx t _ f _ hbl Try.underlying32 rfl size_cfg h
theorem load_cfg_if {ops : Array Oper} {rest : List Oper} {o : Oper} {a : Act} {w : World} {Q : Exit → Act → World → Prop} (hw : Region.wanted o (yielded ops a.tmps) = true) (x : Operand) (ho : o.op = .load 32 x)
    (b : Nat) (hx : a.eval x = .pointer (some ⟨b, 0, none⟩)) (c : Cfg) (hb : BoxAt w b c) (h : wpList Try.prog ops Q rest (a.put o.dst c.val) w) : wpList Try.prog ops Q (o :: rest) a w := by
  obtain ⟨t, f, hbl, _⟩ := hb.block
  exact BigFrame.wpList_want hw fun K hK => wp_load_row _ x ho b hx t _ f _ hbl Try.underlying32 rfl size_cfg (hK _ _ h)

/-! A configuration that is read, as a rule of the walk's own (for regions that draw their order, too). -/
def readCfg (w : World) (b : Nat) : Value := match w.heap[b]? with | some (.cells cs _ _) => .agg cs | _ => undef
def isCfg (w : World) (b : Nat) : Bool := match w.heap[b]? with | some (.cells cs _ _) => cs.size == 17 | _ => false
def loadCfgS (v : Value) : Sem Next := do pure (.value (← Instr.loadAt 32 v))
theorem exec_load_cfg (ρ : Operand → Value) (dst : Option Tmp) (x : Operand) (ty : TypeId) (pos : String) (after : Array Edge) (guard : Option (Nat × Bool)) :
    execOp ρ ⟨dst, .load 32 x, ty, pos, after, guard⟩ = loadCfgS (ρ x) := rfl
theorem run_loadCfgS (w : World) (b : Nat) (h : isCfg w b = true) : (loadCfgS (.pointer (some ⟨b, 0, none⟩))).run Try.prog w = .ok (.value (readCfg w b)) w := by
  unfold isCfg at h
  cases hb : w.heap[b]? with
  | none => rw [hb] at h; cases h
  | some o =>
    cases o with
    | cells cs t f =>
      rw [hb] at h
      have hs : cs.size = 17 := by simpa using h
      have := run_loadVar_row (P := Try.prog) w b t 32 cs f _ hb Try.underlying32 rfl (by rw [size_cfg, hs])
      simp only [loadCfgS, Instr.loadAt, Instr.sureAddr, Sem.run_bind, Sem.run_pure, Result.andThen_ok, this, readCfg, hb]
    | _ => rw [hb] at h; cases h
theorem BoxAt.is {w : World} {b : Nat} {c : Cfg} (h : BoxAt w b c) : isCfg w b = true := by
  obtain ⟨t, f, h, _⟩ := h.block; simp [isCfg, h]
theorem BoxAt.reads {w : World} {b : Nat} {c : Cfg} (h : BoxAt w b c) : readCfg w b = c.val := by
  obtain ⟨t, f, h, _⟩ := h.block; simp [readCfg, h]

@[go_sem] theorem isCfg_drew (w : World) (b : Nat) : isCfg w.drew b = isCfg w b := rfl
@[go_sem] theorem readCfg_drew (w : World) (b : Nat) : readCfg w.drew b = readCfg w b := rfl
@[go_sem] theorem isCfg_drewN (w : World) (n b : Nat) : isCfg (w.drewN n) b = isCfg w b := rfl
@[go_sem] theorem readCfg_drewN (w : World) (n b : Nat) : readCfg (w.drewN n) b = readCfg w b := rfl

open Go.Sort in
/-- What is known of the block in every world that has grown out of this one. -/
theorem BoxAt.re {w : World} {b : Nat} {c : Cfg} (h : BoxAt w b c) : (∀ d os, isCfg (grow (redrawn w d) os) b = true) ∧ (∀ d os, readCfg (grow (redrawn w d) os) b = c.val) ∧ (∀ d os i, (grow (redrawn w d) os).cell? ⟨b, i, none⟩ = c.arr[i]?) :=
  ⟨fun d os => (h.same (grown_re w d os)).is, fun d os => (h.same (grown_re w d os)).reads, fun d os => (h.same (grown_re w d os)).cell⟩

theorem run_box_cfg (c : Cfg) (w : World) : (Instr.box 32 c.val).run Try.prog w = .ok (.pointer (some ⟨w.heap.size, 0, none⟩)) (w.alloc (.cells c.arr 32)) := by kernel_rfl

/-- A configuration is laid into a block of its own: what is known then. -/
theorem box_cfg {ops : Array Oper} {rest : List Oper} {o : Oper} {a : Act} {w : World} {Q : Exit → Act → World → Prop} (hgd : o.guard = none) (x : Operand) (ho : o.op = .box 32 x)
    (c : Cfg) (hx : a.eval x = c.val) (h : ∀ w', BoxAt w' w.heap.size c → w.grownBy w' none → w.heap.size < w'.heap.size → wpList Try.prog ops Q rest (a.put o.dst (.pointer (some ⟨w.heap.size, 0, none⟩))) w') : wpList Try.prog ops Q (o :: rest) a w :=
  wpList_plain hgd fun _ hK => by
    unfold Oper.wp execOp
    simp only [ho, hx, run_box_cfg, Sem.run_bind, Sem.run_pure, Result.andThen_ok]
    exact hK _ _ (h _ ⟨_, _, heap_alloc_new w _, rfl⟩ (World.grownBy_alloc w _ _) (by simp))

theorem BoxAt.free {w : World} {b : Nat} {c : Cfg} (h : BoxAt w b c) (i : Nat) : w.frozen? ⟨b, i, none⟩ = false := by
  obtain ⟨t, f, h, rfl⟩ := h.block
  exact frozen_of_row w b i _ t h
/-- A field is written. -/
theorem BoxAt.setF {w : World} {b : Nat} {c c' : Cfg} (h : BoxAt w b c) (o : Nat) (v : Value) (hc : c.arr.setIfInBounds o v = c'.arr) : BoxAt (w.setCell ⟨b, o, none⟩ v) b c' := by
  obtain ⟨t, f, h, rfl⟩ := h.block
  exact ⟨t, _, by rw [heap_set v h, hc], rfl⟩

def Cfg.zero : Cfg := ⟨0, 0, 0, 0, 0, 0, 0, 0, 0, 0, 0, 0, 0, 0, .slice none 0 0, .slice none 0 0, 0⟩
theorem run_alloc_cfg (w : World) : (Instr.alloc 32 true (.tuple #[])).run Try.prog w = .ok (.pointer (some ⟨w.heap.size, 0, none⟩)) (w.alloc (.cells Cfg.zero.arr 32)) := by kernel_rfl

/-- A variable of the type comes to be. -/
theorem alloc_cfg {ops : Array Oper} {rest : List Oper} {o : Oper} {a : Act} {w : World} {Q : Exit → Act → World → Prop} (hgd : o.guard = none) (ho : o.op = .alloc 32)
    (h : ∀ w', BoxAt w' w.heap.size Cfg.zero → w.grownBy w' none → w.heap.size < w'.heap.size → wpList Try.prog ops Q rest (a.put o.dst (.pointer (some ⟨w.heap.size, 0, none⟩))) w') : wpList Try.prog ops Q (o :: rest) a w :=
  wpList_plain hgd fun _ hK => by
    unfold Oper.wp execOp
    simp only [ho, run_alloc_cfg, Sem.run_bind, Sem.run_pure, Result.andThen_ok]
    exact hK _ _ (h _ ⟨_, _, heap_alloc_new w _, rfl⟩ (World.grownBy_alloc w _ _) (by simp))

/-- A whole configuration is written. -/
theorem store_cfg {ops : Array Oper} {rest : List Oper} {o : Oper} {a : Act} {w : World} {Q : Exit → Act → World → Prop} (hgd : o.guard = none) (x y : Operand) (ho : o.op = .store 32 x y)
    (b : Nat) (hx : a.eval x = .pointer (some ⟨b, 0, none⟩)) (c : Cfg) (hy : a.eval y = c.val) (h1 : c.Classes.oneCell' = true) (h2 : c.Table.oneCell' = true) (c0 : Cfg) (hb : BoxAt w b c0)
    (h : ∀ w', BoxAt w' b c → w.grownBy w' (some b) → wpList Try.prog ops Q rest (a.put o.dst undef) w') : wpList Try.prog ops Q (o :: rest) a w := by
  obtain ⟨t, f, hbl, rfl⟩ := hb.block
  have hst := run_storeCells_at Try.prog b 0 t c.arr.toList 0 c0.arr w hbl (by simp) (by intro v hv; simp at hv; rcases hv with rfl | rfl | rfl | rfl | rfl | rfl | rfl | rfl | rfl | rfl | rfl | rfl | rfl | rfl | rfl | rfl | rfl <;> first | rfl | assumption)
  have hz : (sizeOf 32).run Try.prog w = .ok 17 w := by
    have := size_cfg
    cases hq : Try.prog.info? 32 with
    | none => rw [hq] at this; simp at this
    | some i => rw [hq] at this; simp [sizeOf, typeInfo, hq]; simpa using this
  refine wpList_plain hgd fun _ hK => ?_
  unfold Oper.wp execOp
  simp only [ho, hx, hy, Instr.storeAt, Instr.sureAddr, storeVar, Sem.run_bind, Sem.run_pure, Result.andThen_ok, hz]
  simp only [Value.cells, List.size_toArray, List.length_cons, List.length_nil, Nat.reduceAdd, ne_eq, not_true_eq_false, if_false]
  rw [hst]
  refine hK _ _ (h _ ⟨t, (0, 0), ?_, rfl⟩ ⟨rfl, rfl, rfl, by simp, fun k _ hk => setRow_other w b k _ (fun e => hk (by simp [e]))⟩)
  rw [setRow_heap w b c0.arr _ t _ hbl]
  simp

/-- A block as it was made is read as it was made. -/
theorem boxed {w w' : World} {cs : Array Value} {t : TypeId} {f : Nat × Nat} (h : (w.alloc (.cells cs t f)).grownBy w' none) (o : Nat) : w'.cell? ⟨w.heap.size, o, none⟩ = cs[o]? := by
  have := h.block w.heap.size (by simp) (by simp)
  rw [heap_alloc_new] at this
  simp [World.cell?, this]

/-- The numbers of a configuration that is valid. -/
structure CfgNums (c : Cfg) : Prop where
  length : 1 ≤ c.Length ∧ c.Length ≤ 1048576
  lateness : 0 ≤ c.Lateness ∧ c.Lateness ≤ 1048576
  windows : 1 ≤ c.Windows ∧ c.Windows ≤ 8
  shards : 1 ≤ c.Shards ∧ c.Shards ≤ 8
  spread : 1 ≤ c.Spread ∧ c.Spread ≤ c.Shards
  queue : 1 ≤ c.Queue ∧ c.Queue ≤ 64
  mode : c.Mode = 1 ∨ c.Mode = 2
  slots : 1 ≤ c.Slots ∧ c.Slots ≤ 64
  exact : 0 ≤ c.Exact ∧ c.Exact ≤ 32
  promote : 0 ≤ c.Promote ∧ c.Promote < 18446744073709551616
  depth : 1 ≤ c.Depth ∧ c.Depth ≤ 4
  width : 1 ≤ c.Width ∧ c.Width ≤ 256
  top : 1 ≤ c.Top ∧ c.Top ≤ 64
  key : 1 ≤ c.Key ∧ c.Key ≤ 255
  seed : 0 ≤ c.Seed ∧ c.Seed < 18446744073709551616

/-- The memory of a configuration: its size classes and its words. -/
structure CfgMem (c : Cfg) (l : List (Int × Int)) (t : List Int) (w : World) : Prop where
  classes : RdL clsF 2 w c.Classes l
  table : RdL wordF 1 w c.Table t
  tlen : t.length = 16
  twords : WordsOk t
theorem CfgMem.same {c : Cfg} {l : List (Int × Int)} {t : List Int} {w w' : World} (h : CfgMem c l t w) (hg : w.grownBy w' none) : CfgMem c l t w' :=
  ⟨h.classes.same hg, h.table.same hg, h.tlen, h.twords⟩

/-- The size classes suit the numbers. -/
structure CfgCls (c : Cfg) (l : List (Int × Int)) : Prop where
  ok : ClsOk l
  last : ∀ p, l[l.length - 1]? = some p → 32 ≤ p.1 ∧ 8 * c.Width ≤ p.1 ∧ c.Key ≤ p.1

set_option maxHeartbeats 400000 in
theorem rclock_c (c : Cfg) (w : World) (hn : CfgNums c) :
    Calls Try.prog 119 #[c.val] w fun e w' => e = .returned (.int .i64 0) ∧ w.grownBy w' none := by
  obtain ⟨h1, h2⟩ := hn.length
  obtain ⟨h3, h4⟩ := hn.lateness
  obtain ⟨h5, h6⟩ := hn.windows
  go_enter Try.func119, Try.ntmps119
  go_wp2
  go_ret
  exact ⟨rfl, World.grownBy_alloc w _ _⟩

set_option maxHeartbeats 400000 in
theorem routes_c (c : Cfg) (l : List (Int × Int)) (t : List Int) (w : World) (hn : CfgNums c) (hm : CfgMem c l t w) :
    Calls Try.prog 82 #[c.val] w fun e w' => e = .returned (.int .i64 0) ∧ w.grownBy w' none := by
  obtain ⟨h1, h2⟩ := hn.shards
  obtain ⟨h3, h4⟩ := hn.spread
  go_enter Try.func82, Try.ntmps82
  go_wp2_with (go_at_call 110; refine (table_c _ t _ (hm.table.same (World.grownBy_alloc w _ _)) hm.tlen).mono ?_; rintro e w' ⟨rfl, rfl⟩)
  go_ret
  exact ⟨rfl, World.grownBy_alloc w _ _⟩
end Go.Proofs.Ytiagjiaahnkefaa

/- A slice of ints that the call itself has made: a block of its own. -/
namespace Go.Proofs.Ytiagjiaahnkefaa
open Go.RowKit

def intCells (l : List Int) : Array Value := (l.map (fun x => Value.int .i64 x)).toArray

theorem info_int : (Try.prog.info? 3).map (fun i => (i.zero, i.size, i.bytes)) = some (some (.int .i64 0), 1, 8) := by kernel_rfl

theorem made_ints (n : Nat) : madeCells #[Value.int .i64 0] n = intCells (List.replicate n 0) := by
  unfold madeCells intCells
  apply Array.ext
  · simp
  · intro i h1 h2
    simp [Nat.mod_one]

theorem make_ints (n : Nat) (hn : n ≤ 1000000) (w : World) :
    (Instr.makeSlice 27 (.int .i64 n) (.int .i64 n)).run Try.prog w = .ok (.slice (some ⟨w.heap.size, 0, none⟩) n n) (w.alloc (.cells (intCells (List.replicate n 0)) 3)) := by
  obtain ⟨i0, hi, hz0, hz1, hz2⟩ := info_parts info_int
  have := run_make (P := Try.prog) w 27 3 i0 (.int .i64 0) Try.underlying27 hi hz0 .i64 .i64 n n (by omega) (by omega) (by rw [hz2]; omega) (by omega)
  rw [this, hz1]
  simp only [Int.toNat_natCast, Nat.mul_one, Value.cells, made_ints]

def OutAt (w : World) (B : Nat) (out : List Int) : Prop := w.heap[B]? = some (.cells (intCells out) 3)

theorem OutAt.new (w : World) (n : Nat) : OutAt (w.alloc (.cells (intCells (List.replicate n 0)) 3)) w.heap.size (List.replicate n 0) := heap_alloc_new w _
theorem OutAt.lt {w : World} {B : Nat} {out : List Int} (h : OutAt w B out) : B < w.heap.size := (Array.getElem?_eq_some_iff.1 h).1
theorem OutAt.kept {w w' : World} {B : Nat} {out : List Int} {r : Option Nat} (h : OutAt w B out) (hg : w.grownBy w' r) (hr : r ≠ some B) : OutAt w' B out :=
  (hg.block B h.lt (fun e => hr e.symm)).trans h
theorem OutAt.cell {w : World} {B : Nat} {out : List Int} (h : OutAt w B out) {k : Nat} (hk : k < out.length) : w.cell? ⟨B, k, none⟩ = some (.int .i64 (out.getD k 0)) := by
  unfold OutAt at h
  simp [World.cell?, h, intCells, List.getElem?_eq_getElem hk, List.getD_eq_getElem?_getD]
theorem OutAt.free {w : World} {B : Nat} {out : List Int} (h : OutAt w B out) (k : Nat) : w.frozen? ⟨B, k, none⟩ = false := by
  unfold OutAt at h
  simp [World.frozen?, h]
theorem OutAt.set {w : World} {B : Nat} {out : List Int} (h : OutAt w B out) (k : Nat) (x : Int) : OutAt (w.setCell ⟨B, k, none⟩ (.int .i64 x)) B (out.set k x) := by
  unfold OutAt
  rw [heap_set _ h]
  simp [intCells, List.map_set]
theorem OutAt.drewN {w : World} {B : Nat} {out : List Int} (h : OutAt w B out) (n : Nat) : OutAt (w.drewN n) B out := h
theorem OutAt.rd {w : World} {B : Nat} {out : List Int} (h : OutAt w B out) (hl : out.length ≤ 9223372036854775807) : RdL intF 1 w (.slice (some ⟨B, 0, none⟩) out.length out.length) out := by
  refine ⟨by rw [length_cellsOf _ 1 intF_len], hl, .inr ⟨B, 0, out.length, rfl, h.lt, fun j u hu => ?_⟩⟩
  have e : cellsOf intF out = out.map (fun x => Value.int .i64 x) := cells_int out
  rw [e] at hu
  unfold OutAt at h
  simp only [World.cell?, h, intCells, Nat.zero_add]
  simpa using hu
end Go.Proofs.Ytiagjiaahnkefaa

/- Routing and hashing. -/
namespace Go.Proofs.Ytiagjiaahnkefaa
open Go.RowKit

def RetWordS (k : Int) (w : World) (e : Ending) (w' : World) : Prop := e = .returned (.int .u64 k) ∧ w = w'
def rotF (h k : Int) : Int := bits BinOp.or IntKind.u64 (IntKind.u64.wrap (h * 2 ^ k.toNat)) (h / 2 ^ (64 - k).toNat)
theorem w64_bits (op : BinOp) (a b : Int) : W64 (bits op IntKind.u64 a b) := by
  have h := bounds_u64 (wf_bits op IntKind.u64 a b)
  unfold W64; omega
theorem rot_c (h k : Int) (w : World) (_ : W64 h) (h2 : 1 ≤ k) (h3 : k ≤ 63) : Calls Try.prog 121 #[.int .u64 h, .int .u64 k] w (RetWordS (rotF h k) w) := by
  go_enter Try.func121, Try.ntmps121
  go_wp2
  go_ret
  exact ⟨rfl, rfl⟩
theorem rrot_c (h k : Int) (w : World) (_ : W64 h) (h2 : 1 ≤ k) (h3 : k ≤ 63) : Calls Try.prog 146 #[.int .u64 h, .int .u64 k] w (RetWordS (rotF h k) w) := by
  go_enter Try.func146, Try.ntmps146
  go_wp2
  go_ret
  exact ⟨rfl, rfl⟩

def slotF (h n : Int) : Int := h % n
theorem slotF_bd (h n : Int) (hn : 1 ≤ n) : 0 ≤ slotF h n ∧ slotF h n < n := ⟨Int.emod_nonneg _ (by omega), Int.emod_lt_of_pos _ (by omega)⟩
def RetIntS (k : Int) (w : World) (e : Ending) (w' : World) : Prop := e = .returned (.int .i64 k) ∧ w = w'
theorem slot_w (h n : Int) (h1 : W64 h) (h2 : 1 ≤ n) (h3 : n ≤ 4611686018427387904) : wrap64 (h.tmod n) = slotF h n := by
  have e : h.tmod n = h % n := Int.tmod_eq_emod_of_nonneg h1.1
  have := slotF_bd h n h2
  rw [e, wrap64]; unfold slotF at this ⊢; omega
theorem slot_c (h n : Int) (w : World) (h1 : W64 h) (h2 : 1 ≤ n) (h3 : n ≤ 4611686018427387904) : Calls Try.prog 104 #[.int .u64 h, .int .i64 n] w (RetIntS (slotF h n) w) := by
  have H := Lib.hid (slot_w h n h1 h2 h3)
  have hd : decide (n < 1) = false := decide_eq_false (by omega)
  go_enter Try.func104, Try.ntmps104
  go_wp2
  go_ret
  exact ⟨congrArg (fun i => Ending.returned (Value.int IntKind.i64 i)) H.out, rfl⟩
theorem rslot_c (h n : Int) (w : World) (h1 : W64 h) (h2 : 1 ≤ n) (h3 : n ≤ 4611686018427387904) : Calls Try.prog 136 #[.int .u64 h, .int .i64 n] w (RetIntS (slotF h n) w) := by
  have H := Lib.hid (slot_w h n h1 h2 h3)
  have hd : decide (n < 1) = false := decide_eq_false (by omega)
  go_enter Try.func136, Try.ntmps136
  go_wp2
  go_ret
  exact ⟨congrArg (fun i => Ending.returned (Value.int IntKind.i64 i)) H.out, rfl⟩

theorem hcheck_c (a : Option Addr) (c : Nat) (w : World) : Calls Try.prog 103 #[.slice a 16 c] w (RetIntS 0 w) := by
  go_enter Try.func103, Try.ntmps103
  go_wp2
  go_ret
  exact ⟨rfl, rfl⟩
theorem rtable_c (a : Option Addr) (c : Nat) (w : World) : Calls Try.prog 110 #[.slice a 16 c] w (RetIntS 0 w) := by
  go_enter Try.func110, Try.ntmps110
  go_wp2
  go_ret
  exact ⟨rfl, rfl⟩
/-- A byte of a key is taken in. -/
def stepF (t : List Int) (x : Int) (b : Nat) : Int :=
  IntKind.u64.wrap (IntKind.u64.wrap (rotF (bits BinOp.xor IntKind.u64 (rotF x 5) (t.getD (b / 16) 0)) 7 + t.getD (b % 16) 0) * 11400714819323198485)
def hashGo (t : List Int) (s : Int) (l : List UInt8) : Int := l.foldl (fun x b => stepF t x b.toNat) s
theorem hashGo_snoc (t : List Int) (s : Int) (l : List UInt8) (b : UInt8) : hashGo t s (l ++ [b]) = stepF t (hashGo t s l) b.toNat := by simp [hashGo]
theorem take_byte (k : ByteArray) (i : Nat) (h : i < k.size) : k.data.toList.take (i + 1) = k.data.toList.take i ++ [k[i]] := by
  rw [List.take_succ_eq_append_getElem (by simpa using h)]; rfl
def hashF (t : List Int) (s : Int) (k : ByteArray) : Int :=
  bits BinOp.xor IntKind.u64 (hashGo t s k.data.toList) (hashGo t s k.data.toList / 4294967296)
theorem w64_step (t : List Int) (x : Int) (b : Nat) : W64 (stepF t x b) := by
  unfold stepF
  have := bounds_u64 (wf_wrap .u64 (IntKind.u64.wrap (rotF (bits BinOp.xor IntKind.u64 (rotF x 5) (t.getD (b / 16) 0)) 7 + t.getD (b % 16) 0) * 11400714819323198485))
  unfold W64; omega

set_option maxHeartbeats 1000000 in
theorem hkey_c (v : Value) (t : List Int) (s : Int) (k : ByteArray) (w : World) (h : RdL wordF 1 w v t) (ht : t.length = 16) (hs : W64 s) (hk : k.size ≤ 9223372036854775807) :
    Calls Try.prog 105 #[v, .int .u64 s, .string k] w (RetWord (hashF t s k) w) := by
  obtain ⟨a, c, rfl⟩ := h.shape
  have H := Lib.hid h
  have hn : ((16 : Int) != 16) = false := by decide
  have Hx := Lib.hid (p := hashF t s k = bits BinOp.xor IntKind.u64 (hashGo t s k.data.toList) (hashGo t s k.data.toList / 4294967296)) rfl
  rw [ht]
  clear h
  go_enter Try.func105, Try.ntmps105
  go_wp2_with (go_at_call 103; refine (hcheck_c _ _ _).mono ?_; rintro e w' ⟨rfl, rfl⟩)
  go_loopw [7, 16] (fun s7 s16 wr => ∃ (i : Nat) (x : Int), i ≤ k.size ∧ s16 = .int .i64 i ∧ s7 = .int .u64 x ∧ x = hashGo t s (k.data.toList.take i) ∧ W64 x ∧ w.grownBy wr none) (fun _ s16 _ => k.size - (intOf s16).toNat)
  case atStart => exact ⟨0, s, Nat.zero_le _, rfl, rfl, rfl, hs, grownBy_refl _ _⟩
  case round =>
    obtain ⟨i, x, hi, rfl, rfl, hxe, hx, hg⟩ := hrel
    have He := Lib.hid hxe
    clear hxe
    by_cases hlt : i < k.size
    · go_upto_region 8 with fail
      have HT := Lib.hid (take_byte k i hlt)
      have HS := Lib.hid (hashGo_snoc t s (k.data.toList.take i) k[i])
      have hb : k[i].toNat < 256 := k[i].toNat_lt
      generalize k[i].toNat = b at *
      have hq : b / 16 < t.length := by omega
      have hr : b % 16 < t.length := by omega
      obtain ⟨g, off, cap, hv, hgl, c1⟩ := (H.out.same hg).one word_one hq
      cases hv
      obtain ⟨g', off', cap', hv', hgl', c2⟩ := (H.out.same hg).one word_one hr
      cases hv'
      have e1 : t.getD (b / 16) 0 = t[b / 16] := by simp [List.getD_eq_getElem?_getD, List.getElem?_eq_getElem hq]
      have e2 : t.getD (b % 16) 0 = t[b % 16] := by simp [List.getD_eq_getElem?_getD, List.getElem?_eq_getElem hr]
      have Hst := Lib.hid (p := stepF t x b = IntKind.u64.wrap (IntKind.u64.wrap (rotF (bits BinOp.xor IntKind.u64 (rotF x 5) t[b / 16]) 7 + t[b % 16]) * 11400714819323198485)) (by unfold stepF; rw [e1, e2])
      have hws := w64_step t x b
      have hwb := w64_bits BinOp.xor (rotF x 5) t[b / 16]
      have q1 : (0 : Int) ≤ (b : Int) / 16 := by omega
      have q2 : (b : Int) / 16 < 16 := by omega
      have q3 : ((b : Int) / 16).toNat = b / 16 := by omega
      have q4 : (0 : Int) ≤ (b : Int) % 16 := by omega
      have q5 : (b : Int) % 16 < 16 := by omega
      have q6 : ((b : Int) % 16).toNat = b % 16 := by omega
      generalize t[b / 16] = y1 at *
      generalize t[b % 16] = y2 at *
      clear e1 e2 hq hr
      go_quiet ((go_at_call 121; exact Calls.quiet_of_same ((rot_c x 5 _ hx (by omega) (by omega)).mono fun _ _ ⟨he, hw⟩ => ⟨he, hw.symm⟩)))
      generalize bits BinOp.xor IntKind.u64 (rotF x 5) y1 = x1 at *
      have c2q : (wr.drewN nq).cell? ⟨g, off + b % 16, none⟩ = some (.int .u64 y2) := c2
      have hgq := grownBy_drewN hg nq
      clear c1 c2 hgl hgl' hg
      generalize wr.drewN nq = wq at *
      go_upto_region 9 with fail
      go_quiet ((go_at_call 121; exact Calls.quiet_of_same ((rot_c x1 7 _ hwb (by omega) (by omega)).mono fun _ _ ⟨he, hw⟩ => ⟨he, hw.symm⟩)))
      clear q1 q2 q3 q4 q5 q6
      go_wp2_with fail
      exact ⟨⟨i + 1, _, by omega, by go_num, rfl, by rw [HT.out, HS.out, ← He.out, Hst.out], by rw [← Hst.out]; exact hws, grownBy_drewN hgq _⟩, by simp [intOf]; omega⟩
    · have hl : k.data.toList.take i = k.data.toList := List.take_of_length_le (by simp; omega)
      have h3 : hashF t s k = bits BinOp.xor IntKind.u64 x (x / 4294967296) := by rw [Hx.out, He.out, hl]
      have H3 := Lib.hid h3
      clear h3 hl
      go_wp2_with fail
      go_ret
      exact retWord H3.out hg
theorem w64_hash (t : List Int) (s : Int) (k : ByteArray) : W64 (hashF t s k) := w64_bits _ _ _

set_option maxHeartbeats 1000000 in
theorem rhash_c (v : Value) (t : List Int) (s : Int) (k : ByteArray) (w : World) (h : RdL wordF 1 w v t) (ht : t.length = 16) (hs : W64 s) (hk : k.size ≤ 9223372036854775807) :
    Calls Try.prog 137 #[v, .int .u64 s, .string k] w (RetWord (hashF t s k) w) := by
  obtain ⟨a, c, rfl⟩ := h.shape
  have H := Lib.hid h
  have Hx := Lib.hid (p := hashF t s k = bits BinOp.xor IntKind.u64 (hashGo t s k.data.toList) (hashGo t s k.data.toList / 4294967296)) rfl
  rw [ht]
  clear h
  go_enter Try.func137, Try.ntmps137
  go_wp2_with (go_at_call 110; refine (rtable_c _ _ _).mono ?_; rintro e w' ⟨rfl, rfl⟩)
  go_loopw [7, 8] (fun s7 s8 wr => ∃ (i : Nat) (x : Int), i ≤ k.size ∧ s8 = .int .i64 i ∧ s7 = .int .u64 x ∧ x = hashGo t s (k.data.toList.take i) ∧ W64 x ∧ w.grownBy wr none) (fun _ s8 _ => k.size - (intOf s8).toNat)
  case atStart => exact ⟨0, s, Nat.zero_le _, rfl, rfl, rfl, hs, grownBy_refl _ _⟩
  case round =>
    obtain ⟨i, x, hi, rfl, rfl, hxe, hx, hg⟩ := hrel
    have He := Lib.hid hxe
    clear hxe
    by_cases hlt : i < k.size
    · have q0 : (0 : Int) ≤ (i : Int) := by omega
      have q00 : (i : Int) < (k.size : Int) := by omega
      have HT := Lib.hid (take_byte k i hlt)
      have HS := Lib.hid (hashGo_snoc t s (k.data.toList.take i) k[i])
      have hb : k[i].toNat < 256 := k[i].toNat_lt
      obtain ⟨b, hbe⟩ : ∃ b, k[i].toNat = b := ⟨_, rfl⟩
      rw [hbe] at HS hb
      have hq : b / 16 < t.length := by omega
      have hr : b % 16 < t.length := by omega
      obtain ⟨g, off, cap, hv, hgl, c1⟩ := (H.out.same hg).one word_one hq
      cases hv
      obtain ⟨g', off', cap', hv', hgl', c2⟩ := (H.out.same hg).one word_one hr
      cases hv'
      have e1 : t.getD (b / 16) 0 = t[b / 16] := by simp [List.getD_eq_getElem?_getD, List.getElem?_eq_getElem hq]
      have e2 : t.getD (b % 16) 0 = t[b % 16] := by simp [List.getD_eq_getElem?_getD, List.getElem?_eq_getElem hr]
      have Hst := Lib.hid (p := stepF t x b = IntKind.u64.wrap (IntKind.u64.wrap (rotF (bits BinOp.xor IntKind.u64 (rotF x 5) t[b / 16]) 7 + t[b % 16]) * 11400714819323198485)) (by unfold stepF; rw [e1, e2])
      have hws := w64_step t x b
      have hwb := w64_bits BinOp.xor (rotF x 5) t[b / 16]
      have q1 : (0 : Int) ≤ (b : Int) / 16 := by omega
      have q2 : (b : Int) / 16 < 16 := by omega
      have q3 : ((b : Int) / 16).toNat = b / 16 := by omega
      have q4 : (0 : Int) ≤ (b : Int) % 16 := by omega
      have q5 : (b : Int) % 16 < 16 := by omega
      have q6 : ((b : Int) % 16).toNat = b % 16 := by omega
      generalize t[b / 16] = y1 at *
      generalize t[b % 16] = y2 at *
      clear e1 e2 hq hr
      go_upto_region 7 with fail
      go_quiet ((go_at_call 146; exact Calls.quiet_of_same ((rrot_c x 5 _ hx (by omega) (by omega)).mono fun _ _ ⟨he, hw⟩ => ⟨he, hw.symm⟩)))
      generalize bits BinOp.xor IntKind.u64 (rotF x 5) y1 = x1 at *
      have c2q : (wr.drewN nq).cell? ⟨g, off + b % 16, none⟩ = some (.int .u64 y2) := c2
      have hgq := grownBy_drewN hg nq
      clear c1 c2 hgl hgl' hg
      generalize wr.drewN nq = wq at *
      go_upto_region 8 with fail
      go_quiet ((go_at_call 146; exact Calls.quiet_of_same ((rrot_c x1 7 _ hwb (by omega) (by omega)).mono fun _ _ ⟨he, hw⟩ => ⟨he, hw.symm⟩)))
      clear q1 q2 q3 q4 q5 q6 hbe
      go_wp2_with fail
      exact ⟨⟨i + 1, _, by omega, by go_num, rfl, by rw [HT.out, HS.out, ← He.out, Hst.out], by rw [← Hst.out]; exact hws, grownBy_drewN hgq _⟩, by simp [intOf]; omega⟩
    · have hl : k.data.toList.take i = k.data.toList := List.take_of_length_le (by simp; omega)
      have h3 : hashF t s k = bits BinOp.xor IntKind.u64 x (x / 4294967296) := by rw [Hx.out, He.out, hl]
      have H3 := Lib.hid h3
      clear h3 hl
      go_wp2_with fail
      go_ret
      exact retWord H3.out hg

/-- The seed of a row. -/
def seedF (s r : Int) : Int := IntKind.u64.wrap (s + IntKind.u64.wrap ((r + 1) * 15111065706836454659))
theorem w64_wrap (x : Int) : W64 (IntKind.u64.wrap x) := by
  have := bounds_u64 (wf_wrap .u64 x)
  unfold W64; omega
theorem hrow_c (v : Value) (t : List Int) (s r : Int) (k : ByteArray) (w : World) (h : RdL wordF 1 w v t) (ht : t.length = 16) (_ : W64 s) (hr0 : 0 ≤ r) (hr1 : r ≤ 1000) (hk : k.size ≤ 9223372036854775807) :
    Calls Try.prog 122 #[v, .int .u64 s, .int .i64 r, .string k] w (RetWord (hashF t (seedF s r) k) w) := by
  go_enter Try.func122, Try.ntmps122
  go_wp2_with (go_at_call 105; refine (hkey_c v t (seedF s r) k _ h ht (w64_wrap _) hk).mono ?_; rintro e w' ⟨rfl, G⟩)
  go_ret
  exact retWord rfl G
theorem rrow_c (v : Value) (t : List Int) (s r : Int) (k : ByteArray) (w : World) (h : RdL wordF 1 w v t) (ht : t.length = 16) (_ : W64 s) (hr0 : 0 ≤ r) (hr1 : r ≤ 1000) (hk : k.size ≤ 9223372036854775807) :
    Calls Try.prog 147 #[v, .int .u64 s, .int .i64 r, .string k] w (RetWord (hashF t (seedF s r) k) w) := by
  go_enter Try.func147, Try.ntmps147
  go_wp2_with (go_at_call 137; refine (rhash_c v t (seedF s r) k _ h ht (w64_wrap _) hk).mono ?_; rintro e w' ⟨rfl, G⟩)
  go_ret
  exact retWord rfl G

/-- What routing needs of a configuration. -/
structure RCfg (w : World) (c : Cfg) (t : List Int) : Prop where
  shards : 1 ≤ c.Shards ∧ c.Shards ≤ 8
  spread : 1 ≤ c.Spread ∧ c.Spread ≤ c.Shards
  table : RdL wordF 1 w c.Table t
  tlen : t.length = 16
  seed : W64 c.Seed
theorem RCfg.same {w w' : World} {c : Cfg} {t : List Int} (h : RCfg w c t) (hg : w.grownBy w' none) : RCfg w' c t := ⟨h.shards, h.spread, h.table.same hg, h.tlen, h.seed⟩
theorem RCfg.shape {w : World} {c : Cfg} {t : List Int} (h : RCfg w c t) : ∃ a k, c.Table = .slice a 16 k := by
  obtain ⟨a, k, e⟩ := h.table.shape
  rw [h.tlen] at e; exact ⟨a, k, e⟩
theorem rcheck_c (c : Cfg) (t : List Int) (w : World) (h : RCfg w c t) : Calls Try.prog 71 #[c.val] w (RetInt 0 w) := by
  obtain ⟨a, k, e⟩ := h.shape
  obtain ⟨h1, h2⟩ := h.shards
  obtain ⟨h3, h4⟩ := h.spread
  go_enter Try.func71, Try.ntmps71
  go_wp2_with (go_at_call 103; refine (hcheck_c a k _).mono ?_; rintro e w' ⟨rfl, rfl⟩)
  go_ret
  exact retInt rfl (World.grownBy_alloc w _ _)
theorem rroutes_c (c : Cfg) (t : List Int) (w : World) (h : RCfg w c t) : Calls Try.prog 82 #[c.val] w (RetInt 0 w) := by
  obtain ⟨a, k, e⟩ := h.shape
  obtain ⟨h1, h2⟩ := h.shards
  obtain ⟨h3, h4⟩ := h.spread
  go_enter Try.func82, Try.ntmps82
  go_wp2_with (go_at_call 110; refine (rtable_c a k _).mono ?_; rintro e w' ⟨rfl, rfl⟩)
  go_ret
  exact retInt rfl (World.grownBy_alloc w _ _)

def homeF (c : Cfg) (t : List Int) (k : ByteArray) : Int := slotF (hashF t c.Seed k) c.Shards
theorem same_grown {e : Ending} {v : Value} {w w' : World} (h : e = .returned v ∧ w = w') : e = .returned v ∧ w.grownBy w' none := ⟨h.1, h.2 ▸ grownBy_refl _ _⟩
set_option maxHeartbeats 400000 in
set_option maxRecDepth 100000 in
theorem home_c (c : Cfg) (t : List Int) (k : ByteArray) (w : World) (h : RCfg w c t) (hk : k.size ≤ 9223372036854775807) : Calls Try.prog 72 #[c.val, .string k] w (RetInt (homeF c t k) w) := by
  have H := Lib.hid h
  obtain ⟨h1, h2⟩ := h.shards
  have hs := h.seed
  clear h
  go_enter Try.func72, Try.ntmps72
  go_upto_region 3 with (first | (refine box_cfg rfl _ rfl c rfl ?_; intro w1 B1 G1 z1) | (refine load_cfg rfl _ rfl _ rfl c (by assumption) ?_) | (go_at_call 71; refine (rcheck_c c t _ (H.out.same G1)).mono ?_; rintro e w2 ⟨rfl, G2⟩))
  have G := grownBy_trans G1 G2
  obtain ⟨r1, r2, r3⟩ := (B1.same G2).re
  have r4 := call_re (w := w2) fun w' hg => hkey_c c.Table t c.Seed k w' (H.out.same (grownBy_trans G hg)).table H.out.tlen hs hk
  have r5 := call_re (w := w2) fun w' hg => (slot_c (hashF t c.Seed k) c.Shards w' (w64_hash _ _ _) h1 (by omega)).mono fun _ _ => same_grown
  (refine Tail.wp_region_tail_grown 10 (by kernel_rfl) (by kernel_rfl) ?_; simp only [List.take, List.drop]; (repeat (go_big_quiet_step (first | (with_reducible exact r4 _ _) | (with_reducible exact r5 _ _)))); refine wpQuiet_nil ?_; rintro _ ⟨⟨d5, os5⟩, rfl⟩)
  have G5 := grownBy_trans G (grown_re w2 d5 os5)
  clear r1 r2 r3 r4 r5
  go_wp2_with fail
  go_ret
  exact retInt rfl G5
set_option maxHeartbeats 400000 in
set_option maxRecDepth 100000 in
theorem rhome_c (c : Cfg) (t : List Int) (k : ByteArray) (w : World) (h : RCfg w c t) (hk : k.size ≤ 9223372036854775807) : Calls Try.prog 114 #[c.val, .string k] w (RetInt (homeF c t k) w) := by
  have H := Lib.hid h
  obtain ⟨h1, h2⟩ := h.shards
  have hs := h.seed
  clear h
  go_enter Try.func114, Try.ntmps114
  go_upto_region 3 with (first | (refine box_cfg rfl _ rfl c rfl ?_; intro w1 B1 G1 z1) | (refine load_cfg rfl _ rfl _ rfl c (by assumption) ?_) | (go_at_call 82; refine (rroutes_c c t _ (H.out.same G1)).mono ?_; rintro e w2 ⟨rfl, G2⟩))
  have G := grownBy_trans G1 G2
  obtain ⟨r1, r2, r3⟩ := (B1.same G2).re
  have r4 := call_re (w := w2) fun w' hg => rhash_c c.Table t c.Seed k w' (H.out.same (grownBy_trans G hg)).table H.out.tlen hs hk
  have r5 := call_re (w := w2) fun w' hg => (rslot_c (hashF t c.Seed k) c.Shards w' (w64_hash _ _ _) h1 (by omega)).mono fun _ _ => same_grown
  (refine Tail.wp_region_tail_grown 10 (by kernel_rfl) (by kernel_rfl) ?_; simp only [List.take, List.drop]; (repeat (go_big_quiet_step (first | (with_reducible exact r4 _ _) | (with_reducible exact r5 _ _)))); refine wpQuiet_nil ?_; rintro _ ⟨⟨d5, os5⟩, rfl⟩)
  have G5 := grownBy_trans G (grown_re w2 d5 os5)
  clear r1 r2 r3 r4 r5
  go_wp2_with fail
  go_ret
  exact retInt rfl G5
end Go.Proofs.Ytiagjiaahnkefaa

/- A block of the call's own that is known whole. -/
namespace Go.Proofs.Ytiagjiaahnkefaa
open Go.RowKit

structure Blk (w : World) (g : Nat) (cs : Array Value) : Prop where
  blk : ∃ t, w.heap[g]? = some (.cells cs t (0, 0))
theorem Blk.lt {w : World} {g : Nat} {cs : Array Value} (h : Blk w g cs) : g < w.heap.size := by
  obtain ⟨t, h⟩ := h.blk; exact (Array.getElem?_eq_some_iff.1 h).1
theorem Blk.cell {w : World} {g : Nat} {cs : Array Value} (h : Blk w g cs) (i : Nat) : w.cell? ⟨g, i, none⟩ = cs[i]? := by
  obtain ⟨t, h⟩ := h.blk; simp [World.cell?, h]
theorem Blk.free {w : World} {g : Nat} {cs : Array Value} (h : Blk w g cs) (i : Nat) : w.frozen? ⟨g, i, none⟩ = false := by
  obtain ⟨t, h⟩ := h.blk; simp [World.frozen?, h]
theorem Blk.kept {w w' : World} {g : Nat} {cs : Array Value} {r : Option Nat} (h : Blk w g cs) (hg : w.grownBy w' r) (hr : r ≠ some g) : Blk w' g cs := by
  have hl := h.lt
  obtain ⟨t, h⟩ := h.blk
  exact ⟨t, (hg.block g hl (fun e => hr e.symm)).trans h⟩
theorem Blk.same {w w' : World} {g : Nat} {cs : Array Value} (h : Blk w g cs) (hg : w.grownBy w' none) : Blk w' g cs := h.kept hg (by simp)
theorem Blk.set {w : World} {g : Nat} {cs : Array Value} (h : Blk w g cs) (i : Nat) (v : Value) : Blk (w.setCell ⟨g, i, none⟩ v) g (cs.setIfInBounds i v) := by
  obtain ⟨t, h⟩ := h.blk
  exact ⟨t, heap_set v h⟩
theorem Blk.off {w : World} {g g' : Nat} {cs : Array Value} (h : Blk w g cs) (hne : g' ≠ g) (i : Nat) (v : Value) : Blk (w.setCell ⟨g', i, none⟩ v) g cs :=
  h.kept (grownBy_set (grownBy_refl w (some g')) i v) (by simpa using hne)
theorem Blk.drew {w : World} {g : Nat} {cs : Array Value} (h : Blk w g cs) (n : Nat) : Blk (w.drewN n) g cs := ⟨h.blk⟩
theorem Blk.drew1 {w : World} {g : Nat} {cs : Array Value} (h : Blk w g cs) : Blk w.drew g cs := ⟨h.blk⟩
theorem Blk.new (w : World) (cs : Array Value) (t : TypeId) : Blk (w.alloc (.cells cs t)) w.heap.size cs := ⟨t, heap_alloc_new w _⟩
theorem Blk.new' (w : World) (cs : Array Value) (t : TypeId) {g : Nat} (h : g = w.heap.size) : Blk (w.alloc (.cells cs t)) g cs := h ▸ Blk.new w cs t
theorem Blk.set_ {w : World} {g : Nat} {cs cs' : Array Value} (h : Blk w g cs) (i : Nat) (v : Value) (he : cs.setIfInBounds i v = cs') : Blk (w.setCell ⟨g, i, none⟩ v) g cs' := he ▸ h.set i v
open Go.Sort in
/-- What is known of the block in every world that has grown out of this one. -/
theorem Blk.re {w : World} {g : Nat} {cs : Array Value} (h : Blk w g cs) : ∀ d os i, (grow (redrawn w d) os).cell? ⟨g, i, none⟩ = cs[i]? :=
  fun d os i => (h.same (grown_re w d os)).cell i
end Go.Proofs.Ytiagjiaahnkefaa

/- Stores into slices of the call's own. -/
namespace Go.Proofs.Ytiagjiaahnkefaa
open Go.RowKit

theorem cellsOf_set {α : Type} {f : α → List Value} {s : Nat} (hs : ∀ x, (f x).length = s) : ∀ {l : List α} {i j : Nat} {u : Value} {y : α}, (hi : i < l.length) → j < s → f y = (f l[i]).set j u → cellsOf f (l.set i y) = (cellsOf f l).set (i * s + j) u
  | [], i, _, _, _, hi, _, _ => by simp at hi
  | a :: l, 0, j, u, y, _, hj, hy => by
    simp only [List.set_cons_zero, cellsOf, List.flatMap_cons, Nat.zero_mul, Nat.zero_add]
    rw [List.set_append_left _ _ (by rw [hs]; exact hj)]
    rw [hy]; rfl
  | a :: l, i + 1, j, u, y, hi, hj, hy => by
    have ih := cellsOf_set hs (l := l) (i := i) (j := j) (u := u) (y := y) (by simpa using hi) hj (by simpa using hy)
    simp only [List.set_cons_succ, cellsOf, List.flatMap_cons] at *
    rw [ih, List.set_append_right _ _ (by rw [hs, Nat.add_mul]; omega), hs]
    congr 2
    rw [Nat.add_mul]; omega
/-- One cell of an element is stored. -/
theorem Own.stored {α : Type} {f : α → List Value} {s : Nat} {e : TypeId} {B : Nat} {w : World} {g n cap : Nat} {l : List α} (h : Own f s e B w (.slice (some ⟨g, 0, none⟩) n cap) l) (hs : ∀ x, (f x).length = s) {i j : Nat} (hi : i < l.length) (hj : j < s) (u : Value) (y : α) (hy : f y = (f l[i]).set j u) :
    Own f s e B (w.setCell ⟨g, i * s + j, none⟩ u) (.slice (some ⟨g, 0, none⟩) n cap) (l.set i y) ∧ w.grownBy (w.setCell ⟨g, i * s + j, none⟩ u) (some g) := by
  obtain ⟨a, c, hv⟩ := h.shape
  cases hv
  have := World.ownsRow.stored (w := w) (base := B) (e := e) (size := s) (g := g) (n := l.length) (cap := cap) (xs := cellsOf f l) h (i * s + j) u
  refine ⟨?_, this.2⟩
  unfold Own
  rw [cellsOf_set hs hi hj hy, List.length_set]
  exact this.1
theorem Own.at_ {α : Type} {f : α → List Value} {s : Nat} {e : TypeId} {B : Nat} {w : World} {v : Value} {l : List α} (h : Own f s e B w v l) (hs : ∀ x, (f x).length = s) {i : Nat} (hi : i < l.length) :
    ∃ g cap, v = .slice (some ⟨g, 0, none⟩) l.length cap ∧ B ≤ g ∧ g < w.heap.size ∧ l.length ≤ cap ∧ (∀ j u, (f l[i])[j]? = some u → w.cell? ⟨g, i * s + j, none⟩ = some u) ∧ ∀ j, w.frozen? ⟨g, j, none⟩ = false := by
  have hR := h.rd
  have hlt := h.lt
  rcases h.2 with ⟨rfl, h0⟩ | ⟨g, cap, cur, rfl, hb, hg, h1, h2, _⟩
  · omega
  · obtain ⟨g', off, cap', hv, hg', hc⟩ := hR.at_ hs hi
    cases hv
    refine ⟨g, cap, rfl, hb, hg', h1, fun j u hu => by simpa using hc j u hu, fun j => World.ownsRow.frozenAt (n := l.length) (cap := cap) h j⟩
end Go.Proofs.Ytiagjiaahnkefaa
