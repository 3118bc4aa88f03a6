/- Size classes as they are specified: Fit, Classes. -/
import Derived.Test.YtniokdflljchgaaDeck
namespace Go.Proofs.Ytniokdflljchgaa
open Go.RowKit

theorem Rd.shape {w : World} {size : Nat} {v : Value} {n : Nat} {xs : List Value} (h : Rd w size v n xs) : ∃ a cap, v = .slice a n cap := by
  rcases h.2.2 with ⟨rfl, a, cap, rfl⟩ | ⟨g, off, cap, rfl, _⟩
  · exact ⟨_, _, rfl⟩
  · exact ⟨_, _, rfl⟩

theorem Rd.blockLt {w : World} {size : Nat} {v : Value} {n : Nat} {xs : List Value} (h : Rd w size v n xs) (h0 : 0 < n) : ∀ a n' c, v = .slice (some a) n' c → a.block < w.heap.size := by
  intro a n' c hv
  rcases h.2.2 with ⟨h, _⟩ | ⟨g, off, cap, h, hg, _⟩
  · omega
  · rw [h] at hv; cases hv; exact hg

/-- The cells of a list of elements. -/
def cellsOf {α : Type} (f : α → List Value) (l : List α) : List Value := l.flatMap f

theorem length_cellsOf {α : Type} (f : α → List Value) (s : Nat) (hs : ∀ x, (f x).length = s) (l : List α) : (cellsOf f l).length = l.length * s := by
  induction l with
  | nil => simp [cellsOf]
  | cons x l ih => simp only [cellsOf, List.flatMap_cons, List.length_append, List.length_cons] at *; rw [ih, hs, Nat.add_mul]; omega

theorem get_cellsOf {α : Type} (f : α → List Value) (s : Nat) (hs : ∀ x, (f x).length = s) (l : List α) (i j : Nat) (hj : j < s) (x : α) (hx : l[i]? = some x) :
    (cellsOf f l)[i * s + j]? = (f x)[j]? := by
  induction l generalizing i with
  | nil => simp at hx
  | cons y l ih =>
    cases i with
    | zero =>
      simp at hx; subst hx
      simp only [cellsOf, List.flatMap_cons, Nat.zero_mul, Nat.zero_add]
      rw [List.getElem?_append_left (by rw [hs]; exact hj)]
    | succ i =>
      simp only [List.getElem?_cons_succ] at hx
      have := ih i hx
      simp only [cellsOf, List.flatMap_cons] at *
      rw [List.getElem?_append_right (by rw [hs, Nat.add_mul]; omega), hs, ← this]
      congr 1
      rw [Nat.add_mul]; omega

def RdL {α : Type} (f : α → List Value) (s : Nat) (w : World) (v : Value) (l : List α) : Prop := Rd w s v l.length (cellsOf f l)

theorem RdL.cell {α : Type} {f : α → List Value} {s : Nat} {w : World} {v : Value} {l : List α} (h : RdL f s w v l) (hs : ∀ x, (f x).length = s) (hl : 0 < l.length) :
    ∃ g off cap, v = .slice (some ⟨g, off, none⟩) l.length cap ∧ g < w.heap.size ∧ ∀ i x, l[i]? = some x → ∀ j u, (f x)[j]? = some u → w.cell? ⟨g, off + i * s + j, none⟩ = some u := by
  rcases h.2.2 with ⟨h0, _⟩ | ⟨g, off, cap, rfl, hg, hc⟩
  · omega
  · refine ⟨g, off, cap, rfl, hg, fun i x hx j u hu => ?_⟩
    have hj : j < s := by rw [← hs x]; exact (List.getElem?_eq_some_iff.1 hu).1
    rw [Nat.add_assoc]
    exact hc _ _ ((get_cellsOf f s hs l i j hj x hx).trans hu)

/-- A size class: its size and its count. -/
def clsF (p : Int × Int) : List Value := [.int .i64 p.1, .int .i64 p.2]
theorem clsF_len (p : Int × Int) : (clsF p).length = 2 := rfl

def fit (l : List (Int × Int)) (size : Int) : Option Nat := if 1 ≤ size then l.findIdx? (fun p => decide (size ≤ p.1)) else none
def fitI (l : List (Int × Int)) (size : Int) : Nat := (fit l size).getD 0
def fitE (l : List (Int × Int)) (size : Int) : Int := if (fit l size).isSome then 0 else 1
def FitPost (l : List (Int × Int)) (size : Int) (w : World) (e : Ending) (w' : World) : Prop :=
  e = .returned (.tuple #[.int .i64 (fitI l size : Nat), .int .i64 (fitE l size)]) ∧ w.grownBy w' none
theorem fitI_lt {l : List (Int × Int)} (n : Int) (h : 0 < l.length) : fitI l n < l.length := by
  unfold fitI fit
  split
  · cases hf : l.findIdx? _ with
    | none => simpa using h
    | some k =>
      rw [List.findIdx?_eq_some_iff_getElem] at hf
      obtain ⟨h, _⟩ := hf
      simpa using h
  · simpa using h

theorem fit_none {l : List (Int × Int)} {size : Int} (h : ∀ (j : Nat) (p : Int × Int), l[j]? = some p → p.1 < size) : fit l size = none := by
  unfold fit; split
  · rw [List.findIdx?_eq_none_iff]
    intro x hx
    obtain ⟨i, hi⟩ := List.mem_iff_getElem?.1 hx
    have := h i x hi
    simp; omega
  · rfl
theorem fit_some {l : List (Int × Int)} {size : Int} {k : Nat} {p : Int × Int} (hs : 1 ≤ size) (h : ∀ (j : Nat) (p : Int × Int), j < k → l[j]? = some p → p.1 < size) (hk : l[k]? = some p) (hp : size ≤ p.1) : fit l size = some k := by
  unfold fit; rw [if_pos hs, List.findIdx?_eq_some_iff_getElem]
  obtain ⟨hlt, rfl⟩ := List.getElem?_eq_some_iff.1 hk
  refine ⟨hlt, by simpa using hp, fun j hj => ?_⟩
  have := h j l[j] hj (List.getElem?_eq_getElem _)
  simp; omega

set_option maxHeartbeats 400000 in
theorem fit_c (v : Value) (l : List (Int × Int)) (size : Int) (w : World) (h : RdL clsF 2 w v l) :
    Calls Try.prog 86 #[v, .int .i64 size] w (FitPost l size w) := by
  obtain ⟨a, cap, rfl⟩ := h.shape
  have hm := h.2.1
  by_cases hs : 1 ≤ size
  · go_enter Try.func86, Try.ntmps86
    go_wp2
    go_loopw [12] (fun i wr => ∃ k : Nat, k ≤ l.length ∧ i = .int .i64 k ∧ (∀ j (p : Int × Int), j < k → l[j]? = some p → p.1 < size) ∧ w.grownBy wr none) (fun i _ => l.length - (intOf i).toNat)
    case atStart => exact ⟨0, Nat.zero_le _, rfl, by simp, grownBy_refl _ _⟩
    case round =>
      obtain ⟨k, hk, rfl, hall, hg⟩ := hrel
      by_cases hlt : k < l.length
      · obtain ⟨g, off, cap', hv, hgl, hc⟩ := h.cell clsF_len (by omega)
        cases hv
        obtain ⟨p, hp⟩ : ∃ p, l[k]? = some p := ⟨l[k], List.getElem?_eq_getElem hlt⟩
        have hcell := grownBy_cells hg
        have c0 : wr.cell? ⟨g, off + k * 2, none⟩ = some (.int .i64 p.1) := by rw [hcell.1 _ _ hgl (by simp)]; exact hc k p hp 0 _ rfl
        have c1 : wr.cell? ⟨g, off + k * 2 + 1, none⟩ = some (.int .i64 p.2) := by rw [hcell.1 _ _ hgl (by simp)]; exact hc k p hp 1 _ rfl
        clear hcell hc
        have Hp := Lib.hid hp
        have Hall := Lib.hid hall
        clear hp hall
        by_cases hsz : size ≤ p.1
        · go_wp2
          go_ret2
          have hf := fit_some hs Hall.out Hp.out hsz
          exact ⟨by simp [fitI, fitE, hf], grownBy_new_block hg _⟩
        · go_wp2
          refine ⟨⟨k + 1, by omega, by go_num, ?_, grownBy_new_block hg _⟩, ?_⟩
          · intro j q hj hq
            by_cases e : j = k
            · subst e; rw [Hp.out] at hq; cases hq; omega
            · exact Hall.out j q (by omega) hq
          · simp [intOf]; omega
      · have hk' : k = l.length := by omega
        have hn : fit l size = none := fit_none fun j p hp => hall j p (by rw [hk']; exact (List.getElem?_eq_some_iff.1 hp).1) hp
        have Hn := Lib.hid hn
        have Hk := Lib.hid hk'
        clear hn hall hk'
        go_wp2
        go_ret2
        exact ⟨by simp [fitI, fitE, Hn.out], hg⟩
  · have hn : fit l size = none := by unfold fit; rw [if_neg hs]
    go_enter Try.func86, Try.ntmps86
    have Hn := Lib.hid hn
    clear hn
    go_wp2
    go_ret2
    exact ⟨by simp [fitI, fitE, Hn.out], grownBy_refl _ _⟩
end Go.Proofs.Ytniokdflljchgaa
