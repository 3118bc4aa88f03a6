/- Several texts in one file; each begins with a comment that says what is proved in it. -/
import Derived.Test.YtkdbapbmbhmaiaaBunAF
import Derived.Test.YtkdbapbmbhmaiaaBunAB
import Derived.Test.YtkdbapbmbhmaiaaBunAE
import Derived.Test.YtkdbapbmbhmaiaaBunAA
import Derived.Maps.OwnSet
import Derived.StringKeys
import Derived.Test.YtkdbapbmbhmaiaaBunAC
import Derived.Maps.OwnOps
import Derived.Carry
import Derived.Test.YtkdbapbmbhmaiaaBunAD

/- The shards of a key. -/
namespace Go.Proofs.Ytkdbapbmbhmaiaa
open Go.RowKit
attribute [local go_sem ↓] exec_load_cfg
attribute [local go_sem] run_loadCfgS

/-- n shards from h on, of m. -/
def setN (h m : Int) (n : Nat) : List Int := (rangeI n).map (fun i => (h + i) % m)
theorem setN_len (h m : Int) (n : Nat) : (setN h m n).length = n := by simp [setN, rangeI_len]
theorem setN_succ (h m : Int) (n : Nat) : setN h m (n + 1) = setN h m n ++ [(h + n) % m] := by simp [setN, rangeI_succ]
def setF (c : Cfg) (t : List Int) (k : ByteArray) : List Int := setN (homeF c t k) c.Shards c.Spread.toNat
def eightA (l : List Int) : Array Value := ((l ++ List.replicate (8 - l.length) 0).map (fun x => Value.int .i64 x)).toArray
/-- What a function leaves that makes a slice to be read. -/
def RetRd {α : Type} (f : α → List Value) (s : Nat) (l : List α) (w : World) (en : Ending) (w' : World) : Prop := ∃ v, en = .returned v ∧ RdL f s w' v l ∧ w.grownBy w' none
theorem RetOwn.rd {α : Type} {f : α → List Value} {s : Nat} {e : TypeId} {l : List α} {w : World} {en : Ending} {w' : World} (h : RetOwn f s e l w en w') : RetRd f s l w en w' := by
  obtain ⟨v, h1, h2, h3⟩ := h; exact ⟨v, h1, h2.rd, h3⟩

theorem homeF_bd (c : Cfg) (t : List Int) (k : ByteArray) (h : 1 ≤ c.Shards) : 0 ≤ homeF c t k ∧ homeF c t k < c.Shards := slotF_bd _ _ h
theorem eightA_get {l : List Int} (h : l.length < 8) : (eightA l)[l.length]? = some (.int .i64 0) := by
  unfold eightA
  obtain ⟨m, hm⟩ : ∃ m, 8 - l.length = m + 1 := ⟨7 - l.length, by omega⟩
  simp [hm, List.replicate_succ]
theorem eightA_set {l : List Int} (h : l.length < 8) (x : Int) : (eightA l).setIfInBounds l.length (.int .i64 x) = eightA (l ++ [x]) := by
  unfold eightA
  obtain ⟨m, hm⟩ : ∃ m, 8 - l.length = m + 1 := ⟨7 - l.length, by omega⟩
  have hm2 : 8 - (l ++ [x]).length = m := by simp; omega
  rw [hm, hm2, List.replicate_succ]
  simp
theorem eightA_rd {w : World} {ar : Nat} {l : List Int} {t : TypeId} {f : Nat × Nat} (h : w.heap[ar]? = some (.cells (eightA l) t f)) (hl : l.length ≤ 8) (c : Nat) : RdL intF 1 w (.slice (some ⟨ar, 0, none⟩) l.length c) l := by
  refine ⟨length_cellsOf _ 1 intF_len _, by omega, .inr ⟨ar, 0, c, rfl, (Array.getElem?_eq_some_iff.1 h).1, fun j u hu => ?_⟩⟩
  rw [cells_intF] at hu
  have hj : j < l.length := by have := (List.getElem?_eq_some_iff.1 hu).1; simpa using this
  simp only [World.cell?, h, Nat.zero_add, eightA]
  simp only [List.getElem?_toArray, List.map_append]
  rw [List.getElem?_append_left (by simpa using hj)]; simpa using hu

end Go.Proofs.Ytkdbapbmbhmaiaa

/- Estimates of a sketch's rows. -/
namespace Go.Proofs.Ytkdbapbmbhmaiaa
open Go.RowKit
attribute [local go_sem ↓] exec_load_cfg
attribute [local go_sem] run_loadCfgS

/-- Rows of words. -/
structure RowsRd (w : World) (v : Value) (vs : List Value) (rows : List (List Int)) : Prop where
  rd : RdL valF 1 w v vs
  len : vs.length = rows.length
  all : ∀ (i : Nat) u row, vs[i]? = some u → rows[i]? = some row → RdL wordF 1 w u row
theorem RowsRd.same {w w' : World} {v : Value} {vs : List Value} {rows : List (List Int)} (h : RowsRd w v vs rows) (hg : w.grownBy w' none) : RowsRd w' v vs rows :=
  ⟨h.rd.same hg, h.len, fun i u row h1 h2 => (h.all i u row h1 h2).same hg⟩
theorem SumRd.rowsRd {w : World} {s : Summ} (h : SumRd w s) : RowsRd w s.vr s.vs s.rows := ⟨h.vs, h.len, h.rows⟩
/-- No row is empty, all numbers have 64 bits. -/
def RowsOk (rows : List (List Int)) : Prop := ∀ row ∈ rows, (0 < row.length ∧ row.length ≤ 4096) ∧ ∀ x ∈ row, W64 x

def cellF (t : List Int) (s : Int) (k : ByteArray) (i : Nat) (row : List Int) : Int := row.getD (slotF (hashF t (seedF s i) k) row.length).toNat 0
def estI (t : List Int) (s : Int) (k : ByteArray) (rows : List (List Int)) : Nat → Int
  | 0 => 18446744073709551615
  | n + 1 => min (estI t s k rows n) (cellF t s k n (rows.getD n []))
def estF (t : List Int) (s : Int) (k : ByteArray) (rows : List (List Int)) : Int := estI t s k rows rows.length
theorem w64_getD {l : List Int} (h : ∀ x ∈ l, W64 x) (i : Nat) : W64 (l.getD i 0) := by
  rw [List.getD_eq_getElem?_getD]
  cases hi : l[i]? with
  | none => exact w64_0
  | some x => exact h x (List.mem_of_getElem? hi)
theorem w64_most : W64 18446744073709551615 := ⟨by omega, by omega⟩
theorem w64_min {a b : Int} (h : W64 a) (h' : W64 b) : W64 (min a b) := by unfold W64 at *; omega
theorem w64_est {t : List Int} {s : Int} {k : ByteArray} {rows : List (List Int)} (h : RowsOk rows) (n : Nat) : W64 (estI t s k rows n) := by
  induction n with
  | zero => exact w64_most
  | succ n ih =>
    refine w64_min ih ?_
    unfold cellF
    refine w64_getD (fun x hx => ?_) _
    rw [List.getD_eq_getElem?_getD] at hx
    cases hi : rows[n]? with
    | none => rw [hi] at hx; simp at hx
    | some row => rw [hi] at hx; exact (h row (List.mem_of_getElem? hi)).2 x hx

def sEstF (c : Cfg) (t : List Int) (s : Summ) (k : ByteArray) : Int := if s.rows.length = 0 then s.total else estF t c.Seed k s.rows
theorem w64_sEst {c : Cfg} {t : List Int} {s : Summ} (h : W64 s.total) (ho : RowsOk s.rows) (k : ByteArray) : W64 (sEstF c t s k) := by
  unfold sEstF; split
  · exact h
  · exact w64_est ho _

end Go.Proofs.Ytkdbapbmbhmaiaa

/- Bounds of a key in a summary. -/
namespace Go.Proofs.Ytkdbapbmbhmaiaa
open Go.RowKit
attribute [local go_sem ↓] exec_load_cfg
attribute [local go_sem] run_loadCfgS

def keyEq (k : ByteArray) (e : Ent) : Bool := e.key.toList == k.toList
/-- i is the place of a key among entries, or -1. -/
def IdxP (es : List Ent) (k : ByteArray) (i : Int) : Prop := (i = -1 ∧ es.find? (keyEq k) = none) ∨ ∃ n : Nat, i = n ∧ ∃ h : n < es.length, es.find? (keyEq k) = some es[n]
theorem idx_none {es : List Ent} {k : ByteArray} (h : ∀ j, (hj : j < es.length) → keyEq k es[j] = false) : es.find? (keyEq k) = none := by
  rw [List.find?_eq_none]
  intro x hx
  obtain ⟨j, hj, rfl⟩ := List.mem_iff_getElem.1 hx
  simp [h j hj]
theorem idx_some {es : List Ent} {k : ByteArray} {n : Nat} (hn : n < es.length) (h : ∀ j, (hj : j < n) → keyEq k (es[j]'(by omega)) = false) (hk : keyEq k es[n] = true) : es.find? (keyEq k) = some es[n] := by
  rw [List.find?_eq_some_iff_getElem]
  exact ⟨hk, n, hn, rfl, fun j hj => by simp [h j hj]⟩
theorem RdL.ent {w : World} {v : Value} {l : List Ent} (h : RdL entF 3 w v l) {k : Nat} (hk : k < l.length) : ∃ g off cap, v = .slice (some ⟨g, off, none⟩) l.length cap ∧ g < w.heap.size ∧
    w.cell? ⟨g, off + k * 3, none⟩ = some (.string l[k].key) ∧ w.cell? ⟨g, off + k * 3 + 1, none⟩ = some (.int .u64 l[k].own) ∧ w.cell? ⟨g, off + k * 3 + 2, none⟩ = some (.int .u64 l[k].slack) := by
  obtain ⟨g, off, cap, hv, hg, hc⟩ := h.at_ entF_len hk
  exact ⟨g, off, cap, hv, hg, hc 0 _ rfl, hc 1 _ rfl, hc 2 _ rfl⟩
def IdxPost (es : List Ent) (k : ByteArray) (w : World) (e : Ending) (w' : World) : Prop := ∃ i : Int, e = .returned (.int .i64 i) ∧ IdxP es k i ∧ w.grownBy w' none
def bndE (es : List Ent) (un : Int) (k : ByteArray) : Int × Int := match es.find? (keyEq k) with
  | some e => (e.own, satA e.own e.slack)
  | none => (0, un)
def bndHas (es : List Ent) (k : ByteArray) : Bool := (es.find? (keyEq k)).isSome
def boundsV (c : Cfg) (t : List Int) (s : Summ) (k : ByteArray) : Value :=
  .tuple #[bndV (min (bndE s.es s.untr k).1 (sEstF c t s k)) (min (bndE s.es s.untr k).2 (sEstF c t s k)), .bool (bndHas s.es k)]
theorem bnd_hit {es : List Ent} {k : ByteArray} {e : Ent} (un : Int) (h : es.find? (keyEq k) = some e) : bndE es un k = (e.own, satA e.own e.slack) ∧ bndHas es k = true := by
  unfold bndE bndHas; rw [h]; exact ⟨rfl, rfl⟩
theorem bnd_miss {es : List Ent} {k : ByteArray} (un : Int) (h : es.find? (keyEq k) = none) : bndE es un k = (0, un) ∧ bndHas es k = false := by
  unfold bndE bndHas; rw [h]; exact ⟨rfl, rfl⟩
end Go.Proofs.Ytkdbapbmbhmaiaa

/- Which summaries are valid, and the error of others: the program. -/
namespace Go.Proofs.Ytkdbapbmbhmaiaa
open Go.RowKit
attribute [local go_sem ↓] exec_load_cfg
attribute [local go_sem] run_loadCfgS

def leB (a b : ByteArray) : Bool := Op.bytesLess a.toList b.toList || a.toList == b.toList
/-- The error of an entry behind another one. -/
def entErr (tot : Int) (prev : Option ByteArray) (e : Ent) : Int :=
  if e.key.size = 0 then 3 else if 255 < e.key.size then 4 else if (prev.map (leB e.key)).getD false then 6 else if e.own = 0 ∨ tot < e.own + e.slack then 1 else 0
theorem isE {k : ByteArray} (h : k.toList.isEmpty = true) : k.size = 0 := by
  rw [ByteArray.size, ← Array.length_toList, ← ByteArray.toList_eq]; simpa using h
theorem isN {k : ByteArray} (h : k.toList.isEmpty = false) : k.size ≠ 0 := by
  rw [ByteArray.size, ← Array.length_toList, ← ByteArray.toList_eq]; intro e; rw [List.length_eq_zero_iff.1 e] at h; cases h
theorem err_empty {tot : Int} {p : Option ByteArray} {e : Ent} (h : e.key.toList.isEmpty = true) : entErr tot p e = 3 := by unfold entErr; rw [if_pos (isE h)]
theorem err_long {tot : Int} {p : Option ByteArray} {e : Ent} (h : e.key.toList.isEmpty = false) (h2 : 255 < (e.key.size : Int)) : entErr tot p e = 4 := by unfold entErr; rw [if_neg (isN h), if_pos (by omega)]
theorem err_order {tot : Int} {p : Option ByteArray} {e : Ent} (h : e.key.toList.isEmpty = false) (h2 : (e.key.size : Int) ≤ 255) (h3 : (p.map (leB e.key)).getD false = true) : entErr tot p e = 6 := by unfold entErr; rw [if_neg (isN h), if_neg (by omega), if_pos h3]
theorem err_range {tot : Int} {p : Option ByteArray} {e : Ent} (h : e.key.toList.isEmpty = false) (h2 : (e.key.size : Int) ≤ 255) (h3 : (p.map (leB e.key)).getD false = false) (h4 : e.own = 0 ∨ tot < e.own + e.slack) : entErr tot p e = 1 := by
  unfold entErr; rw [if_neg (isN h), if_neg (by omega), if_neg (by rw [h3]; decide), if_pos h4]
theorem err_ok {tot : Int} {p : Option ByteArray} {e : Ent} (h : e.key.toList.isEmpty = false) (h2 : (e.key.size : Int) ≤ 255) (h3 : (p.map (leB e.key)).getD false = false) (h4 : e.own ≠ 0) (h5 : e.own + e.slack ≤ tot) : entErr tot p e = 0 := by
  unfold entErr; rw [if_neg (isN h), if_neg (by omega), if_neg (by rw [h3]; decide), if_neg (by omega)]
theorem sat_ok {a b t : Int} (h : fitA a b = true) (h2 : satA a b ≤ t) : a + b ≤ t := by
  unfold fitA at h; unfold satA at h2; simp only [decide_eq_true_eq] at h; rw [if_pos h] at h2; exact h2
theorem sat_no {a b t : Int} (ht : t ≤ 9223372036854775808) (h : ¬fitA a b = true) : t < a + b := by
  unfold fitA at h; simp only [decide_eq_true_eq] at h; omega
theorem sat_big {a b t : Int} (h : fitA a b = true) (h2 : t < satA a b) : t < a + b := by
  unfold fitA at h; unfold satA at h2; simp only [decide_eq_true_eq] at h; rw [if_pos h] at h2; exact h2
theorem range_of {a b t : Int} (h : fitA a b = true) (h2 : (a == 0) = true ∨ t < satA a b) : a = 0 ∨ t < a + b := by
  rcases h2 with h2 | h2
  · exact Or.inl (by simpa using h2)
  · exact Or.inr (sat_big h h2)
def prevKey (es : List Ent) (i : Nat) : Option ByteArray := if i = 0 then none else (es[i - 1]?).map (·.key)


end Go.Proofs.Ytkdbapbmbhmaiaa

/- Which rows are valid: the program. -/
namespace Go.Proofs.Ytkdbapbmbhmaiaa
open Go.RowKit
attribute [local go_sem ↓] exec_load_cfg
attribute [local go_sem] run_loadCfgS
def gtF (t : Int) (row : List Int) : Bool := row.any fun n => decide (t < n)
theorem gtF_no {t : Int} {row : List Int} (h : ∀ j, (hj : j < row.length) → decide (t < row[j]) = false) : gtF t row = false := by
  unfold gtF; rw [List.any_eq_false]
  intro x hx
  obtain ⟨j, hj, rfl⟩ := List.mem_iff_getElem.1 hx
  simpa using h j hj
theorem gtF_yes {t : Int} {row : List Int} {j : Nat} (hj : j < row.length) (h : decide (t < row[j]) = true) : gtF t row = true := by
  unfold gtF; rw [List.any_eq_true]
  exact ⟨_, List.getElem_mem hj, h⟩
def IdxAny (b : Bool) (w : World) (e : Ending) (w' : World) : Prop := ∃ i : Int, e = .returned (.int .i64 i) ∧ decide (0 ≤ i) = b ∧ w.grownBy w' none
/-- The error of rows. -/
def badLen (n : Int) (rows : List (List Int)) : Bool := rows.any fun r => decide ((r.length : Int) ≠ n)
def badNum (t : Int) (rows : List (List Int)) : Bool := rows.any (gtF t)
def rowsErr (d n t : Int) (rows : List (List Int)) : Int := if rows.length = 0 then 0 else if (rows.length : Int) ≠ d then 3 else if badLen n rows then 3 else if badNum t rows then 1 else 0
theorem rows_0 {d n t : Int} {rows : List (List Int)} {m : Nat} (e : m = rows.length) (h : ((m : Int) == 0) = true) : rowsErr d n t rows = 0 := by
  have := beq_iff_eq.1 h
  unfold rowsErr; rw [if_pos (by omega)]
theorem rows_3 {d n t : Int} {rows : List (List Int)} {m : Nat} (e : m = rows.length) (h : ((m : Int) == 0) = false) (h2 : ((m : Int) != d) = true) : rowsErr d n t rows = 3 := by
  have := beq_eq_false_iff_ne.1 h
  have := bne_iff_ne.1 h2
  unfold rowsErr; rw [if_neg (by omega), if_pos (by omega)]
theorem rows_of {d n t : Int} {rows : List (List Int)} {m : Nat} (e : m = rows.length) (h : ((m : Int) == 0) = false) (h2 : ((m : Int) != d) = false) : rowsErr d n t rows = if badLen n rows then 3 else if badNum t rows then 1 else 0 := by
  have := beq_eq_false_iff_ne.1 h
  have := bne_eq_false_iff_eq.1 h2
  unfold rowsErr; rw [if_neg (by omega), if_neg (by omega)]
theorem any_no {α : Type} {p : α → Bool} {l : List α} (h : ∀ j, (hj : j < l.length) → p l[j] = false) : l.any p = false := by
  rw [List.any_eq_false]
  intro x hx
  obtain ⟨j, hj, rfl⟩ := List.mem_iff_getElem.1 hx
  simpa using h j hj
theorem any_yes {α : Type} {p : α → Bool} {l : List α} {j : Nat} (hj : j < l.length) (h : p l[j] = true) : l.any p = true := by
  rw [List.any_eq_true]
  exact ⟨_, List.getElem_mem hj, h⟩

end Go.Proofs.Ytkdbapbmbhmaiaa

/- Which summaries are valid, and the error of others: the program. -/
namespace Go.Proofs.Ytkdbapbmbhmaiaa
open Go.RowKit
attribute [local go_sem ↓] exec_load_cfg
attribute [local go_sem] run_loadCfgS

/-- The first error of a list. -/
def fstN (l : List Int) : Int := (l.find? (fun x => decide (x ≠ 0))).getD 0
theorem fstN_at {l : List Int} {j : Nat} (hj : j < l.length) (h : ∀ i, (hi : i < l.length) → i < j → l[i] = 0) (h2 : l[j] ≠ 0) : fstN l = l[j] := by
  unfold fstN
  rw [(List.find?_eq_some_iff_getElem (p := fun x => decide (x ≠ 0)) (b := l[j])).2 ⟨by simpa using h2, j, hj, rfl, fun i hi => by simp [h i (by omega) hi]⟩]
  rfl
theorem fstN_no {l : List Int} (h : ∀ i, (hi : i < l.length) → l[i] = 0) : fstN l = 0 := by
  unfold fstN
  rw [List.find?_eq_none.2]
  · rfl
  · intro x hx
    obtain ⟨i, hi, rfl⟩ := List.mem_iff_getElem.1 hx
    simp [h i hi]
def prevK (es : List Ent) : Nat → Option ByteArray
  | 0 => none
  | m + 1 => es[m]?.map (·.key)
def errAt (tot : Int) (es : List Ent) (i : Nat) : Int := match es[i]? with
  | some e => entErr tot (prevK es i) e
  | none => 0
def entsErr (tot : Int) (es : List Ent) : Int := fstN ((List.range es.length).map (errAt tot es))
theorem ents_at {tot : Int} {es : List Ent} {j : Nat} (hj : j < es.length) (h : ∀ i, i < j → errAt tot es i = 0) (h2 : errAt tot es j ≠ 0) : entsErr tot es = errAt tot es j := by
  unfold entsErr
  rw [fstN_at (j := j) (by simpa using hj) (fun i hi hij => by simpa using h i hij) (by simpa using h2)]
  simp
theorem ents_no {tot : Int} {es : List Ent} (h : ∀ i, i < es.length → errAt tot es i = 0) : entsErr tot es = 0 := fstN_no fun i hi => by simpa using h i (by simpa using hi)
def ownF (es : List Ent) : Int := es.foldl (fun n e => satA n e.own) 0
theorem ownF_snoc (es : List Ent) (e : Ent) : ownF (es ++ [e]) = satA (ownF es) e.own := by simp [ownF]
def sumErr (d n : Int) (s : Summ) : Int := if 9223372036854775808 < s.total ∨ s.total < s.untr then 1 else if 96 < s.es.length then 7 else if entsErr s.total s.es ≠ 0 then entsErr s.total s.es else if s.total < ownF s.es then 12 else rowsErr d n s.total s.rows
/-- What the model has of a summary that is small. -/
structure SumSmall (s : Summ) : Prop where
  key : ∀ e ∈ s.es, e.key.size ≤ 9223372036854775807
  rows : s.rows.length ≤ 1000
  row : ∀ r ∈ s.rows, r.length ≤ 9223372036854775807

theorem own_max {a b : Int} (ha : 0 ≤ b) (h : a = 18446744073709551615) : satA a b = 18446744073709551615 := by unfold satA; split <;> omega
theorem own_max2 {a b : Int} (h : fitA a b = false) : satA a b = 18446744073709551615 := by
  unfold fitA at h; unfold satA; simp only [decide_eq_false_iff_not] at h; rw [if_neg h]
theorem sum_1 {d n : Int} {s : Summ} (h : 9223372036854775808 < s.total ∨ s.total < s.untr) : sumErr d n s = 1 := by unfold sumErr; rw [if_pos h]
theorem sum_7 {d n : Int} {s : Summ} (h : ¬(9223372036854775808 < s.total ∨ s.total < s.untr)) (h2 : (96 : Int) < s.es.length) : sumErr d n s = 7 := by unfold sumErr; rw [if_neg h, if_pos (by omega)]
theorem sum_of {d n : Int} {s : Summ} (h : ¬(9223372036854775808 < s.total ∨ s.total < s.untr)) (h2 : (s.es.length : Int) ≤ 96) :
    sumErr d n s = if entsErr s.total s.es ≠ 0 then entsErr s.total s.es else if s.total < ownF s.es then 12 else rowsErr d n s.total s.rows := by unfold sumErr; rw [if_neg h, if_neg (by omega)]

end Go.Proofs.Ytkdbapbmbhmaiaa

/- Reports: how they lie; which are accepted: plain. -/
namespace Go.Proofs.Ytkdbapbmbhmaiaa
open Go.RowKit

/-- A report: its numbers, the slices as they stand, and what these read as. -/
structure Rep where
  (win tot : Int) (vl : Value) (over trk rest : Int) (vr : Value) (lines : List Ln) (rej : List Int)
def repF (r : Rep) : List Value := [.int .i64 r.win, .int .u64 r.tot, r.vl, .int .u64 r.over, .int .i64 r.trk, .int .u64 r.rest, r.vr]
abbrev repV (win tot : Int) (vl : Value) (over trk rest : Int) (vr : Value) : Value := .agg #[.int .i64 win, .int .u64 tot, vl, .int .u64 over, .int .i64 trk, .int .u64 rest, vr]
structure RepRd (w : World) (r : Rep) : Prop where
  lines : RdL lnF 3 w r.vl r.lines
  rej : RdL wordF 1 w r.vr r.rej
  lcap : ∀ a n c, r.vl = .slice a n c → n ≤ c
  rcap : ∀ a n c, r.vr = .slice a n c → n ≤ c
theorem RepRd.same {w w' : World} {r : Rep} (h : RepRd w r) (hg : w.grownBy w' none) : RepRd w' r := ⟨h.lines.same hg, h.rej.same hg, h.lcap, h.rcap⟩
def I64 (n : Int) : Prop := -9223372036854775808 ≤ n ∧ n ≤ 9223372036854775807
structure LnW (x : Ln) : Prop where
  lo : W64 x.lo
  hi : W64 x.hi
  key : x.key.size ≤ 9223372036854775807
/-- The numbers fit their kinds. -/
structure RepW (r : Rep) : Prop where
  win : I64 r.win
  tot : W64 r.tot
  over : W64 r.over
  trk : I64 r.trk
  rest : W64 r.rest
  lines : ∀ x ∈ r.lines, LnW x
  rej : ∀ n ∈ r.rej, W64 n

/-- The first error of the line with an index. -/
def lnErr (tot : Int) (prev : Option Ln) (x : Ln) : Int :=
  if x.key.size = 0 then 3 else if 255 < x.key.size then 4 else if x.hi < x.lo ∨ tot < x.hi then 1 else if (prev.map fun p => !befB p x).getD false then 6 else 0
def prevL (ls : List Ln) : Nat → Option Ln
  | 0 => none
  | i + 1 => ls[i]?
def lnErrAt (tot : Int) (ls : List Ln) (i : Nat) : Int := match ls[i]? with
  | some x => lnErr tot (prevL ls i) x
  | none => 0
def linesErr (tot : Int) (ls : List Ln) : Int := fstN ((List.range ls.length).map (lnErrAt tot ls))
theorem lines_at {tot : Int} {ls : List Ln} {j : Nat} (hj : j < ls.length) (h : ∀ i, i < j → lnErrAt tot ls i = 0) (h2 : lnErrAt tot ls j ≠ 0) : linesErr tot ls = lnErrAt tot ls j := by
  unfold linesErr
  rw [fstN_at (j := j) (by simpa using hj) (fun i hi hij => by simpa using h i hij) (by simpa using h2)]
  simp
theorem lines_no {tot : Int} {ls : List Ln} (h : ∀ i, i < ls.length → lnErrAt tot ls i = 0) : linesErr tot ls = 0 := fstN_no fun i hi => by simpa using h i (by simpa using hi)
theorem lines_none {tot : Int} {ls : List Ln} (h : linesErr tot ls = 0) : ∀ i, i < ls.length → lnErrAt tot ls i = 0 := by
  intro i hi
  induction i using Nat.strongRecOn with
  | _ i ih =>
    by_cases e : lnErrAt tot ls i = 0
    · exact e
    · rw [lines_at hi (fun j hj => ih j hj (by omega)) e] at h
      exact h
/-- The sum of the lower bounds. -/
def loSum (ls : List Ln) : Int := ls.foldl (fun a x => a + x.lo) 0
theorem loSum_snoc (ls : List Ln) (x : Ln) : loSum (ls ++ [x]) = loSum ls + x.lo := by simp [loSum]
theorem loSum_from : ∀ (ls : List Ln) (a : Int), ls.foldl (fun a x => a + x.lo) a = a + loSum ls
  | [], a => by simp [loSum]
  | x :: ls, a => by
    unfold loSum
    simp only [List.foldl_cons]
    rw [loSum_from ls (a + x.lo), loSum_from ls (0 + x.lo)]
    omega
theorem loSum_cons (x : Ln) (ls : List Ln) : loSum (x :: ls) = x.lo + loSum ls := by
  show (x :: ls).foldl (fun a x => a + x.lo) 0 = _
  simp only [List.foldl_cons]
  rw [loSum_from]; omega
theorem loSum_pos : ∀ {ls : List Ln}, (∀ x ∈ ls, 0 ≤ x.lo) → 0 ≤ loSum ls
  | [], _ => by simp [loSum]
  | x :: ls, h => by
    rw [loSum_cons]
    have := loSum_pos fun y hy => h y (List.mem_cons_of_mem x hy)
    have := h x (by simp)
    omega
theorem loSum_take_le {ls : List Ln} (h : ∀ x ∈ ls, 0 ≤ x.lo) (k : Nat) : loSum (ls.take k) ≤ loSum ls := by
  have e : loSum ls = loSum (ls.take k) + loSum (ls.drop k) := by
    have := loSum_from (ls.drop k) (loSum (ls.take k))
    rw [← this, loSum, loSum, ← List.foldl_append, List.take_append_drop]
  have := loSum_pos (ls := ls.drop k) fun x hx => h x (List.mem_of_mem_drop hx)
  omega
def keysN (ls : List Ln) : List (List UInt8) := ls.map fun x => x.key.data.toList
/-- Which reports are accepted, and the error of others. -/
def repErr (r : Rep) : Int :=
  if r.win < 0 ∨ 1099511627776 < r.win ∨ 9223372036854775808 < r.tot ∨ r.tot < r.rest then 1
  else if 64 < r.lines.length ∨ r.trk < r.lines.length ∨ 768 < r.trk then 7
  else if linesErr r.tot r.lines ≠ 0 then linesErr r.tot r.lines
  else if ¬ (keysN r.lines).Nodup then 10
  else if 18446744073709551615 < r.over + loSum r.lines ∨ r.over + loSum r.lines ≠ r.tot then 13
  else if r.rej.length ≠ 7 ∨ r.rej[0]? ≠ some 0 then 3
  else 0
/-- What holds of an accepted report. -/
structure RepOk (r : Rep) : Prop where
  win : 0 ≤ r.win ∧ r.win ≤ 1099511627776
  tot : r.tot ≤ 9223372036854775808
  rest : r.rest ≤ r.tot
  few : r.lines.length ≤ 64
  trk : (r.lines.length : Int) ≤ r.trk ∧ r.trk ≤ 768
  lines : ∀ i, i < r.lines.length → lnErrAt r.tot r.lines i = 0
  keys : (keysN r.lines).Nodup
  sum : r.over + loSum r.lines = r.tot
  fits : r.over + loSum r.lines ≤ 18446744073709551615
  rej : r.rej.length = 7
  rej0 : r.rej[0]? = some 0
theorem rep_ok {r : Rep} (h : repErr r = 0) : RepOk r := by
  unfold repErr at h
  by_cases h1 : r.win < 0 ∨ 1099511627776 < r.win ∨ 9223372036854775808 < r.tot ∨ r.tot < r.rest
  · rw [if_pos h1] at h; cases h
  rw [if_neg h1] at h
  by_cases h2 : 64 < r.lines.length ∨ r.trk < r.lines.length ∨ 768 < r.trk
  · rw [if_pos h2] at h; cases h
  rw [if_neg h2] at h
  by_cases h3 : linesErr r.tot r.lines ≠ 0
  · rw [if_pos h3] at h; exact absurd h h3
  rw [if_neg h3] at h
  by_cases h4 : ¬ (keysN r.lines).Nodup
  · rw [if_pos h4] at h; cases h
  rw [if_neg h4] at h
  by_cases h5 : 18446744073709551615 < r.over + loSum r.lines ∨ r.over + loSum r.lines ≠ r.tot
  · rw [if_pos h5] at h; cases h
  rw [if_neg h5] at h
  by_cases h6 : r.rej.length ≠ 7 ∨ r.rej[0]? ≠ some 0
  · rw [if_pos h6] at h; cases h
  have h7 : r.rej.length = 7 ∧ r.rej[0]? = some 0 := by
    constructor
    · exact Decidable.byContradiction fun e => h6 (.inl e)
    · exact Decidable.byContradiction fun e => h6 (.inr e)
  exact ⟨by omega, by omega, by omega, by omega, by omega, lines_none (Decidable.byContradiction h3), Decidable.byContradiction h4, by omega, by omega, h7.1, h7.2⟩
theorem ln_ok {tot : Int} {p : Option Ln} {x : Ln} (h : lnErr tot p x = 0) : x.key.size ≠ 0 ∧ x.key.size ≤ 255 ∧ x.lo ≤ x.hi ∧ x.hi ≤ tot ∧ (p.map fun p => !befB p x).getD false = false := by
  unfold lnErr at h
  by_cases h1 : x.key.size = 0
  · rw [if_pos h1] at h; cases h
  rw [if_neg h1] at h
  by_cases h2 : 255 < x.key.size
  · rw [if_pos h2] at h; cases h
  rw [if_neg h2] at h
  by_cases h3 : x.hi < x.lo ∨ tot < x.hi
  · rw [if_pos h3] at h; cases h
  rw [if_neg h3] at h
  by_cases h4 : (p.map fun p => !befB p x).getD false = true
  · rw [if_pos h4] at h; cases h
  exact ⟨h1, by omega, by omega, by omega, by simpa using h4⟩
theorem RepOk.ln {r : Rep} (h : RepOk r) {i : Nat} (hi : i < r.lines.length) : r.lines[i].key.size ≠ 0 ∧ r.lines[i].key.size ≤ 255 ∧ r.lines[i].lo ≤ r.lines[i].hi ∧ r.lines[i].hi ≤ r.tot := by
  have := h.lines i hi
  unfold lnErrAt at this
  rw [List.getElem?_eq_getElem hi] at this
  obtain ⟨a, b, c, d, _⟩ := ln_ok this
  exact ⟨a, b, c, d⟩
end Go.Proofs.Ytkdbapbmbhmaiaa

/- A set of texts, kept as a map to true: how many different ones there are. -/
namespace Go.Proofs.Ytkdbapbmbhmaiaa
open Go.RowKit Go.Maps Go.WideMaps

theorem strKey (b : List UInt8) : WideAt.IsKeyLit (.string b) := by unfold WideAt.IsKeyLit; trivial
theorem addKey_fold : ∀ (xs acc : List Lit), (∀ x ∈ xs, WideAt.IsKeyLit x) →
    (xs.foldl addKey acc).length ≤ acc.length + xs.length ∧ ((xs.foldl addKey acc).length = acc.length + xs.length ↔ xs.Nodup ∧ ∀ x ∈ xs, acc.any (fun y => y.sameKey x) = false)
  | [], acc, _ => by simp
  | x :: xs, acc, h => by
    have hx := h x (by simp)
    simp only [List.foldl_cons, List.length_cons]
    unfold addKey
    by_cases ha : acc.any (fun y => y.sameKey x) = true
    · rw [if_pos ha]
      obtain ⟨h1, _⟩ := addKey_fold xs acc fun y hy => h y (List.mem_cons_of_mem _ hy)
      unfold addKey at h1
      refine ⟨by omega, fun e => by omega, fun ⟨_, h3⟩ => ?_⟩
      have := h3 x (by simp)
      rw [ha] at this; cases this
    · rw [if_neg ha]
      obtain ⟨h1, h2⟩ := addKey_fold xs (acc ++ [x]) fun y hy => h y (List.mem_cons_of_mem _ hy)
      unfold addKey at h1 h2
      rw [List.length_append, List.length_singleton] at h1 h2
      refine ⟨by omega, ?_⟩
      rw [show acc.length + (xs.length + 1) = acc.length + 1 + xs.length by omega, h2]
      have ha' : acc.any (fun y => y.sameKey x) = false := by simpa using ha
      constructor
      · rintro ⟨h3, h4⟩
        have hne : x ∉ xs := fun hm => by
          have := h4 x hm
          rw [List.any_append, Bool.or_eq_false_iff] at this
          have e := this.2
          simp [WideAt.sameKey_self hx] at e
        refine ⟨List.nodup_cons.2 ⟨hne, h3⟩, fun y hy => ?_⟩
        rcases List.mem_cons.1 hy with e | e
        · rw [e]; exact ha'
        · have := h4 y e
          rw [List.any_append, Bool.or_eq_false_iff] at this
          exact this.1
      · rintro ⟨h3, h4⟩
        obtain ⟨h5, h6⟩ := List.nodup_cons.1 h3
        refine ⟨h6, fun y hy => ?_⟩
        rw [List.any_append, Bool.or_eq_false_iff]
        refine ⟨h4 y (List.mem_cons_of_mem _ hy), ?_⟩
        have hxy : x ≠ y := fun e => h5 (e ▸ hy)
        simp [sameKey_ne hxy]
/-- The set of texts. -/
def setS (L : List (List UInt8)) : DataW Unit := setOf (.lit (.bool true)) (L.map fun b => .string b)
theorem setS_nil : setS [] = .map [] := rfl
theorem setS_snoc (L : List (List UInt8)) (b : List UInt8) : setS (L ++ [b]) = (setS L).put (.string b) (.lit (.bool true)) := by
  unfold setS
  rw [List.map_append]; exact setOf_snoc _ _ _
theorem setS_keys (L : List (List UInt8)) : ∀ x ∈ L.map (fun b => (Lit.string b)), WideAt.IsKeyLit x := by
  intro x hx
  obtain ⟨b, _, rfl⟩ := List.mem_map.1 hx
  exact strKey b
theorem setS_size (L : List (List UInt8)) : Maps.size (setS L) ≤ L.length ∧ (Maps.size (setS L) = L.length ↔ L.Nodup) := by
  have h := addKey_fold (L.map fun b => (Lit.string b)) [] (setS_keys L)
  unfold setS
  rw [size_setOf _ _ (setS_keys L)]
  simp only [List.length_nil, Nat.zero_add, List.length_map, List.any_nil, implies_true, and_true] at h
  refine ⟨h.1, h.2.trans ?_⟩
  rw [List.nodup_iff_pairwise_ne, List.nodup_iff_pairwise_ne, List.pairwise_map]
  exact ⟨fun h => h.imp fun hne e => hne (by rw [e]), fun h => h.imp fun hne e => hne (by cases e; rfl)⟩
end Go.Proofs.Ytkdbapbmbhmaiaa

/- Which reports are accepted: the program's walks. -/
namespace Go.Proofs.Ytkdbapbmbhmaiaa
open Go.RowKit Go.Sort

def satL (n : Int) : Int := if n ≤ 18446744073709551615 then n else 18446744073709551615
def fitL (n : Int) : Bool := decide (n ≤ 18446744073709551615)
theorem satL_w {n : Int} (h : 0 ≤ n) : W64 (satL n) := by unfold W64 satL; split <;> omega
theorem satL_add {n x : Int} (hn : 0 ≤ n) (hx : 0 ≤ x) : satA (satL n) x = satL (n + x) := by unfold satA satL; (repeat' split) <;> omega
theorem fitL_add {n x : Int} (hx : 0 ≤ x) : (fitL n && fitA (satL n) x) = fitL (n + x) := by
  unfold fitL fitA satL
  rw [Bool.eq_iff_iff]
  simp only [Bool.and_eq_true, decide_eq_true_eq]
  split <;> constructor <;> intro h <;> omega
theorem fitL_of {n : Int} {b : Bool} (h : fitL n = b) : fitL n = b := h
theorem fitL_0 : fitL 0 = true := by decide
theorem satL_0 : satL 0 = 0 := by decide
def RetSum (n : Int) (w : World) (e : Ending) (w' : World) : Prop := e = .returned (.tuple #[.int .u64 (satL n), .bool (fitL n)]) ∧ w.grownBy w' none

set_option maxHeartbeats 400000 in
theorem lows_c (v : Value) (ls : List Ln) (w : World) (h : RdL lnF 3 w v ls) (hW : ∀ x ∈ ls, LnW x) : Calls Try.prog 45 #[v] w (RetSum (loSum ls) w) := by
  obtain ⟨a, c, rfl⟩ := h.shape
  have hm := h.2.1
  have H := Lib.hid h
  have HW := Lib.hid hW
  have H0 := Lib.hid (show RetSum (loSum ls) w = fun e w' => e = .returned (.tuple #[.int .u64 (satL (loSum ls)), .bool (fitL (loSum ls))]) ∧ w.grownBy w' none from rfl)
  clear h hW
  go_enter Try.func45, Try.ntmps45
  go_wp2_with fail
  go_loopw [2, 3, 9] (fun s2 s3 s9 wk => ∃ k : Nat, k ≤ ls.length ∧ s9 = .int .i64 k ∧ s2 = .int .u64 (satL (loSum (ls.take k))) ∧ s3 = .bool (fitL (loSum (ls.take k))) ∧ w.grownBy wk none) (fun _ _ s9 _ => ls.length - (intOf s9).toNat)
  case atStart => exact ⟨0, Nat.zero_le _, rfl, rfl, rfl, grownBy_refl _ _⟩
  case round =>
    obtain ⟨k, hk, rfl, rfl, rfl, hg⟩ := hrel
    by_cases hlt : k < ls.length
    · obtain ⟨g, off, cap, hv, hgl, hc⟩ := (RdL.same H.out hg).at_ lnF_len hlt
      cases hv
      have c0 := hc 0 _ rfl
      have c1 := hc 1 _ rfl
      have c2 := hc 2 _ rfl
      rw [Nat.add_zero] at c0
      clear hc
      have hx := HW.out _ (List.getElem_mem hlt)
      have hp : 0 ≤ loSum (ls.take k) := loSum_pos fun y hy => (HW.out y (List.mem_of_mem_take hy)).lo.1
      have HS := Lib.hid (show loSum (ls.take (k + 1)) = loSum (ls.take k) + ls[k].lo by rw [take_succ hlt, loSum_snoc])
      have w1 := satL_w hp
      have w2 := hx.lo
      have Ha := Lib.hid (satL_add hp w2.1)
      have Hf := Lib.hid (fitL_add (n := loSum (ls.take k)) w2.1)
      clear hx
      generalize loSum (ls.take k) = n at *
      generalize ls[k] = x at *
      obtain ⟨bt, hbt⟩ : ∃ bt, fitL n = bt := ⟨_, rfl⟩
      rw [hbt] at Hf ⊢
      clear hbt hp
      generalize satL n = sn at *
      cases bt
      · go_wp2_with (go_at_call 21; refine (satAdd_c sn x.lo _ w1 w2).mono ?_; rintro e w' ⟨rfl, rfl⟩)
        exact ⟨⟨k + 1, by omega, by go_num, by rw [HS.out, ← Ha.out], by rw [HS.out, ← Hf.out]; rfl, grownBy_new_block hg _⟩, by simp [intOf]; omega⟩
      · go_wp2_with (go_at_call 21; refine (satAdd_c sn x.lo _ w1 w2).mono ?_; rintro e w' ⟨rfl, rfl⟩)
        exact ⟨⟨k + 1, by omega, by go_num, by rw [HS.out, ← Ha.out], by rw [HS.out, ← Hf.out, Bool.true_and], grownBy_new_block hg _⟩, by simp [intOf]; omega⟩
    · have hl : ls.take k = ls := List.take_of_length_le (by omega)
      rw [hl]
      go_wp2_with fail
      go_ret2
      exact ⟨rfl, hg⟩

theorem ln_empty {tot : Int} {p : Option Ln} {x : Ln} (h : x.key.toList.isEmpty = true) : lnErr tot p x = 3 := by unfold lnErr; rw [if_pos (isE h)]
theorem ln_long {tot : Int} {p : Option Ln} {x : Ln} (h : x.key.toList.isEmpty = false) (h2 : 255 < (x.key.size : Int)) : lnErr tot p x = 4 := by unfold lnErr; rw [if_neg (isN h), if_pos (by omega)]
theorem ln_range {tot : Int} {p : Option Ln} {x : Ln} (h : x.key.toList.isEmpty = false) (h2 : (x.key.size : Int) ≤ 255) (h3 : x.hi < x.lo ∨ tot < x.hi) : lnErr tot p x = 1 := by unfold lnErr; rw [if_neg (isN h), if_neg (by omega), if_pos h3]
theorem ln_rest {tot : Int} {p : Option Ln} {x : Ln} (h : x.key.toList.isEmpty = false) (h2 : (x.key.size : Int) ≤ 255) (h3 : x.lo ≤ x.hi) (h4 : x.hi ≤ tot) : lnErr tot p x = if (p.map fun p => !befB p x).getD false then 6 else 0 := by
  unfold lnErr; rw [if_neg (isN h), if_neg (by omega), if_neg (by omega)]

set_option maxHeartbeats 1000000 in
set_option maxRecDepth 100000 in
theorem line0_c (r : Rep) (w : World) (hR : RepRd w r) (hi : 0 < r.lines.length) : Calls Try.prog 44 #[repV r.win r.tot r.vl r.over r.trk r.rest r.vr, .int .i64 0] w (RetInt (lnErr r.tot none r.lines[0]) w) := by
  obtain ⟨win, tot, vl, over, trk, rest, vr, ls, rj⟩ := r
  obtain ⟨ra, rc, e2⟩ := hR.rej.shape
  simp only at e2 hi ⊢
  subst e2
  obtain ⟨g, off, cap, hv, hgl, hc⟩ := hR.lines.at_ lnF_len hi
  simp only at hv
  subst hv
  have c0 := hc 0 _ rfl
  have c1 := hc 1 _ rfl
  have c2 := hc 2 _ rfl
  have hlen : ls.length ≤ 9223372036854775807 := hR.lines.2.1
  simp only [Nat.zero_mul, Nat.add_zero] at c0 c1 c2
  clear hR hc
  have hl0 : (0 : Int) < (ls.length : Int) := by omega
  generalize ls[0] = x at *
  go_enter Try.func44, Try.ntmps44
  go_upto_region 2 with fail
  have B1 := (Blk.new w #[.int .i64 win, .int .u64 tot, .slice (some ⟨g, off, none⟩) ls.length cap, .int .u64 over, .int .i64 trk, .int .u64 rest, .slice ra rj.length rc] 48).same (World.grownBy_alloc _ (.cells #[.string x.key, .int .u64 x.lo, .int .u64 x.hi] 46) none)
  have B2 := Blk.new' (w.alloc (.cells #[.int .i64 win, .int .u64 tot, .slice (some ⟨g, off, none⟩) ls.length cap, .int .u64 over, .int .i64 trk, .int .u64 rest, .slice ra rj.length rc] 48)) #[.string x.key, .int .u64 x.lo, .int .u64 x.hi] 46 (g := w.heap.size + 1) (by simp)
  have hg := grownBy_new_block (grownBy_new_block (grownBy_refl w none) (.cells #[.int .i64 win, .int .u64 tot, .slice (some ⟨g, off, none⟩) ls.length cap, .int .u64 over, .int .i64 trk, .int .u64 rest, .slice ra rj.length rc] 48)) (.cells #[.string x.key, .int .u64 x.lo, .int .u64 x.hi] 46)
  generalize (w.alloc (.cells #[.int .i64 win, .int .u64 tot, .slice (some ⟨g, off, none⟩) ls.length cap, .int .u64 over, .int .i64 trk, .int .u64 rest, .slice ra rj.length rc] 48)).alloc (.cells #[.string x.key, .int .u64 x.lo, .int .u64 x.hi] 46) = wq at *
  have b1 := B1.cell
  have b2 := B2.cell
  clear c0 c1 c2
  go_wp2_with fail
  · go_ret
    exact retInt (ln_empty (by assumption)) hg
  · go_ret
    exact retInt (ln_long (by assumption) (by assumption)) hg
  · go_ret
    exact retInt (ln_range (by assumption) (by assumption) (by assumption)) hg
  · have he : x.key.toList.isEmpty = false := by assumption
    have hl : (x.key.size : Int) ≤ 255 := by assumption
    have h3 : x.lo ≤ x.hi := by assumption
    have h4 : x.hi ≤ tot := And.right (show x.lo ≤ x.hi ∧ x.hi ≤ tot by assumption)
    have HL := Lib.hid (ln_rest (p := none) he hl h3 h4)
    clear he hl h3 h4
    go_quiet (fail)
    go_wp2_with fail
    go_ret
    exact retInt HL.out (grownBy_drewN hg _)
  · go_ret
    exact retInt (ln_range (by assumption) (by assumption) (Or.inl (by assumption))) hg

set_option maxHeartbeats 1000000 in
set_option maxRecDepth 100000 in
theorem lineS_c (r : Rep) (m : Nat) (w : World) (hR : RepRd w r) (hi : m + 1 < r.lines.length) : Calls Try.prog 44 #[repV r.win r.tot r.vl r.over r.trk r.rest r.vr, .int .i64 (m + 1 : Nat)] w (RetInt (lnErr r.tot (some r.lines[m]) r.lines[m + 1]) w) := by
  obtain ⟨win, tot, vl, over, trk, rest, vr, ls, rj⟩ := r
  obtain ⟨ra, rc, e2⟩ := hR.rej.shape
  simp only at e2 hi ⊢
  subst e2
  obtain ⟨g, off, cap, hv, hgl, hc⟩ := hR.lines.at_ lnF_len hi
  simp only at hv
  subst hv
  have c0 := hc 0 _ rfl
  have c1 := hc 1 _ rfl
  have c2 := hc 2 _ rfl
  obtain ⟨g', off', cap', hv', -, hd⟩ := hR.lines.at_ lnF_len (show m < ls.length by omega)
  cases hv'
  have HD := Lib.hid hd
  have hlen : ls.length ≤ 9223372036854775807 := hR.lines.2.1
  simp only [Nat.add_zero] at c0 c1 c2
  clear hR hc hd
  have hl0 : (0 : Int) ≤ ((m + 1 : Nat) : Int) := by omega
  have hl1 : ((m + 1 : Nat) : Int) < (ls.length : Int) := by omega
  have hl2 : (0 : Int) ≤ (m : Int) := by omega
  have hl3 : (m : Int) < (ls.length : Int) := by omega
  have hs1 : IntKind.i64.wrap (((m + 1 : Nat) : Int) - 1) = (m : Int) := by rw [IntWalk.i64_in _ (by omega)]; omega
  have hs2 : ((m + 1 : Nat) : Int) - 1 = (m : Int) := by omega
  have hgt : decide ((0 : Int) < ((m + 1 : Nat) : Int)) = true := decide_eq_true (by omega)
  generalize ls[m] = y at *
  generalize ls[m + 1] = x at *
  go_enter Try.func44, Try.ntmps44
  go_upto_region 2 with fail
  have B1 := (Blk.new w #[.int .i64 win, .int .u64 tot, .slice (some ⟨g, off, none⟩) ls.length cap, .int .u64 over, .int .i64 trk, .int .u64 rest, .slice ra rj.length rc] 48).same (World.grownBy_alloc _ (.cells #[.string x.key, .int .u64 x.lo, .int .u64 x.hi] 46) none)
  have B2 := Blk.new' (w.alloc (.cells #[.int .i64 win, .int .u64 tot, .slice (some ⟨g, off, none⟩) ls.length cap, .int .u64 over, .int .i64 trk, .int .u64 rest, .slice ra rj.length rc] 48)) #[.string x.key, .int .u64 x.lo, .int .u64 x.hi] 46 (g := w.heap.size + 1) (by simp)
  have hg := grownBy_new_block (grownBy_new_block (grownBy_refl w none) (.cells #[.int .i64 win, .int .u64 tot, .slice (some ⟨g, off, none⟩) ls.length cap, .int .u64 over, .int .i64 trk, .int .u64 rest, .slice ra rj.length rc] 48)) (.cells #[.string x.key, .int .u64 x.lo, .int .u64 x.hi] 46)
  generalize (w.alloc (.cells #[.int .i64 win, .int .u64 tot, .slice (some ⟨g, off, none⟩) ls.length cap, .int .u64 over, .int .i64 trk, .int .u64 rest, .slice ra rj.length rc] 48)).alloc (.cells #[.string x.key, .int .u64 x.lo, .int .u64 x.hi] 46) = wq at *
  have b1 := B1.cell
  have b2 := B2.cell
  clear c0 c1 c2
  go_wp2_with fail
  · go_ret
    exact retInt (ln_empty (by assumption)) hg
  · go_ret
    exact retInt (ln_long (by assumption) (by assumption)) hg
  · go_ret
    exact retInt (ln_range (by assumption) (by assumption) (by assumption)) hg
  · have he : x.key.toList.isEmpty = false := by assumption
    have hl : (x.key.size : Int) ≤ 255 := by assumption
    have h3 : x.lo ≤ x.hi := by assumption
    have h4 : x.hi ≤ tot := And.right (show x.lo ≤ x.hi ∧ x.hi ≤ tot by assumption)
    have HL2 := Lib.hid (show lnErr tot (some y) x = if !(befB y x) then 6 else 0 from ln_rest (p := some y) he hl h3 h4)
    have d0 := cell_regrown ((((grownBy_cells hg).1 g _ hgl (by simp))).trans (HD.out 0 _ rfl))
    have d1 := cell_regrown ((((grownBy_cells hg).1 g _ hgl (by simp))).trans (HD.out 1 _ rfl))
    have d2 := cell_regrown ((((grownBy_cells hg).1 g _ hgl (by simp))).trans (HD.out 2 _ rfl))
    simp only [Nat.add_zero] at d0
    have e1 := B1.re
    have e2 := B2.re
    have r4 := call_re (w := wq) fun w' hg => before_c y x w'
    clear he hl h3 h4 HD b1 b2 B1 B2
    generalize befB y x = bb at *
    (refine Tail.wp_region_tail_grown 14 (by kernel_rfl) (by kernel_rfl) ?_; simp only [List.take, List.drop]; (repeat (go_big_quiet_step (with_reducible exact r4 _ _))); refine wpQuiet_nil ?_; rintro _ ⟨⟨d5, os5⟩, rfl⟩)
    have K3 := grownBy_trans hg (grown_re wq d5 os5)
    generalize grow (redrawn wq d5) os5 = w3 at *
    clear d0 d1 d2 e1 e2 r4
    cases bb
    · go_wp2_with fail
      go_ret
      exact retInt HL2.out K3
    · go_wp2_with fail
      go_ret
      exact retInt HL2.out K3
  · go_ret
    exact retInt (ln_range (by assumption) (by assumption) (Or.inl (by assumption))) hg
end Go.Proofs.Ytkdbapbmbhmaiaa

/- Which reports are accepted: the program's Check. -/
namespace Go.Proofs.Ytkdbapbmbhmaiaa
open Go.RowKit Go.Sort Go.Maps Go.WideMaps

theorem keyLaw : Keyed Try.prog 9 := string_keyed Try.underlying9
theorem lnErrAt_0 {tot : Int} {ls : List Ln} (h : 0 < ls.length) : lnErrAt tot ls 0 = lnErr tot none ls[0] := by
  unfold lnErrAt; rw [List.getElem?_eq_getElem h]; rfl
theorem lnErrAt_s {tot : Int} {ls : List Ln} {m : Nat} (h : m + 1 < ls.length) : lnErrAt tot ls (m + 1) = lnErr tot (some ls[m]) ls[m + 1] := by
  unfold lnErrAt; rw [List.getElem?_eq_getElem h]; simp only [prevL]; rw [List.getElem?_eq_getElem (show m < ls.length by omega)]
theorem line_c_at (r : Rep) (i : Nat) (w : World) (hR : RepRd w r) (hi : i < r.lines.length) : Calls Try.prog 44 #[repV r.win r.tot r.vl r.over r.trk r.rest r.vr, .int .i64 i] w (RetInt (lnErrAt r.tot r.lines i) w) := by
  cases i with
  | zero => rw [lnErrAt_0 hi]; exact line0_c r w hR hi
  | succ m => rw [lnErrAt_s hi]; exact lineS_c r m w hR hi
theorem keysN_snoc {ls : List Ln} {k : Nat} (h : k < ls.length) : keysN (ls.take (k + 1)) = keysN (ls.take k) ++ [ls[k].key.data.toList] := by
  unfold keysN; rw [List.take_succ_eq_append_getElem h, List.map_append]; rfl

theorem rep_1 {r : Rep} (h : r.win < 0 ∨ 1099511627776 < r.win ∨ 9223372036854775808 < r.tot ∨ r.tot < r.rest) : repErr r = 1 := by unfold repErr; rw [if_pos h]
theorem rep_7 {r : Rep} (h1 : ¬ (r.win < 0 ∨ 1099511627776 < r.win ∨ 9223372036854775808 < r.tot ∨ r.tot < r.rest)) (h : 64 < r.lines.length ∨ r.trk < r.lines.length ∨ 768 < r.trk) : repErr r = 7 := by unfold repErr; rw [if_neg h1, if_pos h]
/-- The third part of the check and what follows. -/
def repErr3 (r : Rep) : Int :=
  if linesErr r.tot r.lines ≠ 0 then linesErr r.tot r.lines
  else if ¬ (keysN r.lines).Nodup then 10
  else if 18446744073709551615 < r.over + loSum r.lines ∨ r.over + loSum r.lines ≠ r.tot then 13
  else if r.rej.length ≠ 7 ∨ r.rej[0]? ≠ some 0 then 3
  else 0
theorem rep_3 {r : Rep} (h1 : ¬ (r.win < 0 ∨ 1099511627776 < r.win ∨ 9223372036854775808 < r.tot ∨ r.tot < r.rest)) (h2 : ¬ (64 < r.lines.length ∨ r.trk < r.lines.length ∨ 768 < r.trk)) : repErr r = repErr3 r := by unfold repErr; rw [if_neg h1, if_neg h2]; rfl
theorem rep3_lines {r : Rep} {j : Nat} (hj : j < r.lines.length) (h : ∀ i, i < j → lnErrAt r.tot r.lines i = 0) (h2 : lnErrAt r.tot r.lines j ≠ 0) : repErr3 r = lnErrAt r.tot r.lines j := by
  have e := lines_at hj h h2
  unfold repErr3; rw [e, if_pos h2]
/-- The rest behind the lines. -/
def repErr4 (r : Rep) : Int :=
  if 18446744073709551615 < r.over + loSum r.lines ∨ r.over + loSum r.lines ≠ r.tot then 13
  else if r.rej.length ≠ 7 ∨ r.rej[0]? ≠ some 0 then 3
  else 0
theorem rep3_10 {r : Rep} (h : ∀ i, i < r.lines.length → lnErrAt r.tot r.lines i = 0) (h2 : ¬ (keysN r.lines).Nodup) : repErr3 r = 10 := by
  unfold repErr3; rw [lines_no h, if_neg (by simp), if_pos h2]
theorem rep3_4 {r : Rep} (h : ∀ i, i < r.lines.length → lnErrAt r.tot r.lines i = 0) (h2 : (keysN r.lines).Nodup) : repErr3 r = repErr4 r := by
  unfold repErr3; rw [lines_no h, if_neg (by simp), if_neg (by simpa using h2)]; rfl
theorem rep4_13 {r : Rep} (h : 18446744073709551615 < r.over + loSum r.lines ∨ r.over + loSum r.lines ≠ r.tot) : repErr4 r = 13 := by unfold repErr4; rw [if_pos h]
theorem rep4_3 {r : Rep} (h : ¬ (18446744073709551615 < r.over + loSum r.lines ∨ r.over + loSum r.lines ≠ r.tot)) (h2 : r.rej.length ≠ 7 ∨ r.rej[0]? ≠ some 0) : repErr4 r = 3 := by unfold repErr4; rw [if_neg h, if_pos h2]
theorem rep4_0 {r : Rep} (h : ¬ (18446744073709551615 < r.over + loSum r.lines ∨ r.over + loSum r.lines ≠ r.tot)) (h2 : ¬ (r.rej.length ≠ 7 ∨ r.rej[0]? ≠ some 0)) : repErr4 r = 0 := by unfold repErr4; rw [if_neg h, if_neg h2]

set_option maxHeartbeats 2000000 in
set_option maxRecDepth 100000 in
theorem repcheck_c (r : Rep) (w : World) (hR : RepRd w r) (hW : RepW r) : Calls Try.prog 27 #[repV r.win r.tot r.vl r.over r.trk r.rest r.vr] w (RetInt (repErr r) w) := by
  have HR := Lib.hid hR
  have HW := Lib.hid hW
  obtain ⟨la, lc, e1⟩ := hR.lines.shape
  obtain ⟨ra, rc, e2⟩ := hR.rej.shape
  have hlm := hR.lines.2.1
  have hrm := hR.rej.2.1
  clear hR hW
  rw [e1, e2]
  have E1 := Lib.hid e1
  have E2 := Lib.hid e2
  clear e1 e2
  have hmm := @run_makeMap Try.prog
  by_cases p1 : r.win < 0 ∨ 1099511627776 < r.win ∨ 9223372036854775808 < r.tot ∨ r.tot < r.rest
  · have HE := Lib.hid (rep_1 p1)
    have hg := Lib.hid (grownBy_new_block (grownBy_refl w none) (.cells #[.int .i64 r.win, .int .u64 r.tot, .slice la r.lines.length lc, .int .u64 r.over, .int .i64 r.trk, .int .u64 r.rest, .slice ra r.rej.length rc] 48))
    generalize repErr r = q at *
    rcases p1 with h | h | h | h
    all_goals
      go_enter Try.func27, Try.ntmps27
      go_wp2_with fail
      all_goals
        go_ret
        exact retInt HE.out hg.out
  by_cases p2 : 64 < r.lines.length ∨ r.trk < r.lines.length ∨ 768 < r.trk
  · have HE := Lib.hid (rep_7 p1 p2)
    have hg := Lib.hid (grownBy_new_block (grownBy_refl w none) (.cells #[.int .i64 r.win, .int .u64 r.tot, .slice la r.lines.length lc, .int .u64 r.over, .int .i64 r.trk, .int .u64 r.rest, .slice ra r.rej.length rc] 48))
    generalize repErr r = q at *
    have q1 : 0 ≤ r.win := by omega
    have q2 : r.win ≤ 1099511627776 := by omega
    have q3 : r.tot ≤ 9223372036854775808 := by omega
    have q4 : r.rest ≤ r.tot := by omega
    clear p1
    rcases p2 with h | h | h
    · have h' : (64 : Int) < (r.lines.length : Int) := by omega
      go_enter Try.func27, Try.ntmps27
      go_wp2_with fail
      all_goals
        go_ret
        exact retInt HE.out hg.out
    all_goals
      go_enter Try.func27, Try.ntmps27
      go_wp2_with fail
      all_goals
        go_ret
        exact retInt HE.out hg.out
  have HE := Lib.hid (rep_3 p1 p2)
  have q1 : 0 ≤ r.win := by omega
  have q2 : r.win ≤ 1099511627776 := by omega
  have q3 : r.tot ≤ 9223372036854775808 := by omega
  have q4 : r.rest ≤ r.tot := by omega
  have q5 : (r.lines.length : Int) ≤ 64 := by omega
  have q6 : (r.lines.length : Int) ≤ r.trk := by omega
  have q7 : r.trk ≤ 768 := by omega
  clear p1 p2
  go_enter Try.func27, Try.ntmps27
  go_upto_region 5 with fail
  have B1 := Blk.new w #[.int .i64 r.win, .int .u64 r.tot, .slice la r.lines.length lc, .int .u64 r.over, .int .i64 r.trk, .int .u64 r.rest, .slice ra r.rej.length rc] 48
  have G1 := grownBy_new_block (grownBy_refl w none) (.cells #[.int .i64 r.win, .int .u64 r.tot, .slice la r.lines.length lc, .int .u64 r.over, .int .i64 r.trk, .int .u64 r.rest, .slice ra r.rej.length rc] 48)
  generalize w.alloc (.cells #[.int .i64 r.win, .int .u64 r.tot, .slice la r.lines.length lc, .int .u64 r.over, .int .i64 r.trk, .int .u64 r.rest, .slice ra r.rej.length rc] 48) = w1 at *
  generalize w.heap.size = b at *
  have hn64 : r.lines.length ≤ 64 := by omega
  clear q1 q2 q3 q4 q5 q6 q7
  go_upto_region 6 with fail
  have M2 := World.ownsMap_made w1 Try.prog 9 (plainElem (H := Unit) Try.prog 4)
  have B2 := B1.same (World.grownBy_alloc w1 (.map #[] 0) none)
  have G2 := grownBy_new_block G1 (.map #[] 0)
  have hmb : w1.heap.size < (w1.alloc (.map #[] 0)).heap.size := by simp
  have hmw : w.heap.size ≤ w1.heap.size := G1.size
  generalize w1.alloc (.map #[] 0) = w2 at *
  have hbm := B1.lt
  generalize w1.heap.size = mb at *
  clear B1 G1 hmm
  have b2 := B2.cell
  go_wp2_with fail
  clear b2
  go_loopw [52] (fun s52 wk => ∃ k : Nat, k ≤ r.lines.length ∧ s52 = .int .i64 k ∧ (∀ i, i < k → lnErrAt r.tot r.lines i = 0) ∧ wk.ownsMap Try.prog 9 (plainElem Try.prog 4) mb k (setS (keysN (r.lines.take k))) ∧ w2.grownBy wk (some mb)) (fun s52 _ => r.lines.length - (intOf s52).toNat)
  case atStart => exact ⟨0, Nat.zero_le _, rfl, by intro i h; omega, M2, grownBy_refl _ _⟩
  case round =>
    clear M2
    obtain ⟨k, hk, rfl, hall, hM, hg⟩ := hrel
    have Hall := Lib.hid hall
    clear hall
    have hgw := grownBy_new G2 hg hmw
    have B3 := B2.kept hg (by simp; omega)
    have RR := HR.out.same hgw
    by_cases hlt : k < r.lines.length
    · obtain ⟨g, off, cap, hv, hgl, hc⟩ := RR.lines.at_ lnF_len hlt
      rw [E1.out] at hv
      cases hv
      have c0 := hc 0 _ rfl
      have c1 := hc 1 _ rfl
      have c2 := hc 2 _ rfl
      rw [Nat.add_zero] at c0
      have hsz := (HW.out.lines _ (List.getElem_mem hlt)).key
      have hcl := fun w' (h : World.grownBy wr w' none) => line_c_at r k w' (RR.same h) hlt
      rw [E1.out, E2.out] at hcl
      have Hcl := Lib.hid hcl
      have HS := Lib.hid (keysN_snoc hlt)
      clear RR hc hcl
      have hq := Lib.hid fun h => rep3_lines hlt Hall.out h
      generalize r.lines[k] = x at *
      obtain ⟨q, hqe⟩ : ∃ q, lnErrAt r.tot r.lines k = q := ⟨_, rfl⟩
      have Hqe := Lib.hid hqe
      rw [hqe] at Hcl hq
      clear hqe
      go_upto_region 9 with fail
      have M3 := hM.alloc (.cells #[.string x.key, .int .u64 x.lo, .int .u64 x.hi] 46)
      have B4 := B3.same (World.grownBy_alloc wr (.cells #[.string x.key, .int .u64 x.lo, .int .u64 x.hi] 46) none)
      have A3 := Blk.new wr #[.string x.key, .int .u64 x.lo, .int .u64 x.hi] 46
      have g3 : wr.grownBy (wr.alloc (.cells #[.string x.key, .int .u64 x.lo, .int .u64 x.hi] 46)) none := World.grownBy_alloc wr _ none
      generalize wr.alloc (.cells #[.string x.key, .int .u64 x.lo, .int .u64 x.hi] 46) = w3 at *
      generalize wr.heap.size = lb at *
      clear c0 c1 c2 hM B3 B2
      have b4 := B4.cell
      go_upto_region 10 with (go_at_call 44; refine (Hcl.out _ g3).mono ?_; rintro e w4 ⟨rfl, g4⟩)
      clear b4 B4
      have M4 := M3.kept g4 (by simp)
      have A4 := (A3.same g4).cell
      have K4 := grownBy_trans hg (grownBy_some (grownBy_trans g3 g4) (some mb))
      have KW := grownBy_trans hgw (grownBy_trans g3 g4)
      by_cases hq0 : q = 0
      · subst hq0
        have hkey := keyOf_string_mk Try.underlying9 (s := x.key) (by unfold maxLen; omega)
        have hkm : k < maxLen := by unfold maxLen; omega
        go_wp2_with (at_mapUpdate; refine wpList_mapUpdate_own _ rfl _ _ _ 96 rfl 9 4 keyLaw Try.underlying96 (plainElem (H := Unit) Try.prog 4) mb k _ rfl M4 hkm _ _ _ rfl rfl hkey _ [] (plainElem_bool Try.underlying4 true) ?_; intro w5 M5 g5)
        exact ⟨⟨k + 1, by omega, by go_num, fun i hi => by
          rcases Nat.lt_or_ge i k with h | h
          · exact Hall.out i h
          · obtain rfl : i = k := by omega
            exact Hqe.out, by rw [HS.out, setS_snoc]; exact M5, grownBy_trans K4 g5⟩, by simp [intOf]; omega⟩
      · have hqb : (q != 0) = true := by simp [hq0]
        have HQ := Lib.hid (HE.out.trans (hq.out hq0))
        go_wp2_with fail
        go_ret
        exact retInt HQ.out KW
    · have hke : r.lines.take k = r.lines := List.take_of_length_le (by omega)
      rw [hke] at hM
      obtain rfl : k = r.lines.length := by omega
      clear hke hk
      obtain ⟨hs1, hs2⟩ := setS_size (keysN r.lines)
      have hkl : (keysN r.lines).length = r.lines.length := by simp [keysN]
      rw [hkl] at hs1 hs2
      have H10 := Lib.hid fun h => HE.out.trans (rep3_10 Hall.out h)
      have H4 := Lib.hid fun h => HE.out.trans (rep3_4 Hall.out h)
      have HM := Lib.hid hM
      generalize setS (keysN r.lines) = D at *
      generalize hsz : Maps.size D = sz at *
      have b3 := B3.cell
      by_cases hnd : (keysN r.lines).Nodup
      · have hse := hs2.2 hnd
        have HX := Lib.hid (H4.out hnd)
        clear H10 H4 hnd hs1 hs2
        have hne : ((sz : Int) != (r.lines.length : Int)) = false := by rw [hse]; simp
        have Hsz := Lib.hid hsz
        clear hsz hse
        have hcl := fun w' (h : World.grownBy wr w' none) => lows_c _ r.lines w' (RdL.same RR.lines h) HW.out.lines
        rw [E1.out] at hcl
        have hT0 : 0 ≤ loSum r.lines := loSum_pos fun y hy => (HW.out.lines y hy).lo.1
        obtain ⟨ho0, ho1⟩ := HW.out.over
        obtain ⟨T, hT⟩ : ∃ T, loSum r.lines = T := ⟨_, rfl⟩
        rw [hT] at hcl hT0
        have H13 := Lib.hid fun h => HX.out.trans (rep4_13 (r := r) (by rw [hT]; exact h))
        have H3 := Lib.hid fun h h2 => HX.out.trans (rep4_3 (r := r) (by rw [hT]; exact h) h2)
        have H0 := Lib.hid fun h h2 => HX.out.trans (rep4_0 (r := r) (by rw [hT]; exact h) h2)
        clear hT HX
        by_cases hf : r.over + T ≤ 18446744073709551615
        · have f1 : fitL T = true := by unfold fitL; exact decide_eq_true (by omega)
          have f2 : satL T = T := by unfold satL; rw [if_pos (by omega)]
          have f3 : fitA T r.over = true := by unfold fitA; exact decide_eq_true (by omega)
          have f4 : satA T r.over = T + r.over := by unfold satA; rw [if_pos (by omega)]
          have hcl2 : ∀ w', World.grownBy wr w' none → Calls Try.prog 45 #[.slice la r.lines.length lc] w' fun e w'' => e = .returned (.tuple #[.int .u64 T, .bool true]) ∧ w'.grownBy w'' none := fun w' h => (hcl w' h).mono fun e w'' ⟨he, hg⟩ => ⟨by rw [he, f1, f2], hg⟩
          have had : ∀ w', Calls Try.prog 21 #[.int .u64 T, .int .u64 r.over] w' fun e w'' => e = .returned (.tuple #[.int .u64 (T + r.over), .bool true]) ∧ w' = w'' := fun w' => (satAdd_c T r.over w' ⟨hT0, by omega⟩ ⟨ho0, ho1⟩).mono fun e w'' ⟨he, hg⟩ => ⟨by rw [he, f3, f4], hg⟩
          have Hcl := Lib.hid hcl2
          have Had := Lib.hid had
          clear hcl hcl2 had f1 f2 f3 f4 HM
          by_cases ht : T + r.over = r.tot
          · have htb : ((T + r.over : Int) != r.tot) = false := by rw [ht]; simp
            have H3' := Lib.hid (H3.out (by omega))
            have H0' := Lib.hid (H0.out (by omega))
            clear H3 H0 H13 ht hf
            by_cases h7 : r.rej.length = 7
            · obtain ⟨g7, o7, c7, hv7, hg7, hc7⟩ := RdL.one word_one RR.rej (k := 0) (by omega)
              rw [E2.out] at hv7
              cases hv7
              have h7b : ((r.rej.length : Int) != 7) = false := by rw [h7]; rfl
              have h7c : (0 : Int) < (r.rej.length : Int) := by omega
              rw [Nat.add_zero] at hc7
              have H7 := Lib.hid h7
              obtain ⟨r0, hr0, hr1⟩ : ∃ r0, r.rej[0]? = some r0 ∧ wr.cell? ⟨g7, o7, none⟩ = some (.int .u64 r0) := ⟨r.rej[0], List.getElem?_eq_getElem (by omega), hc7⟩
              clear hc7
              have hc7 := hr1
              have Hr0 := Lib.hid hr0
              clear hr0 hr1 h7
              have HC7 := Lib.hid fun w' (h : World.grownBy wr w' none) => ((grownBy_cells h).1 g7 o7 hg7 (by simp)).trans hc7
              have HB3 := Lib.hid B3
              clear hc7 B3
              by_cases hz : r0 = 0
              · have HZ := Lib.hid (H0'.out (by rw [Hr0.out, hz]; have := H7.out; simp; omega))
                rw [hz] at HC7
                clear H3' H0' Hr0 hz H7
                go_upto_region 17 with (first
                  | (at_len; refine wpList_len_own _ rfl _ 96 rfl 9 4 Try.underlying96 _ mb r.lines.length D rfl hM ?_; rw [Hsz.out])
                  | (go_at_call 45; refine (Hcl.out _ (grownBy_refl _ _)).mono ?_; rintro e w6 ⟨rfl, g6⟩; have b6 := (HB3.out.same g6).cell; have c6 := HC7.out _ g6; have K6 := grownBy_trans hgw g6))
                go_wp2_with (go_at_call 21; refine (Had.out _).mono ?_; rintro e w7 ⟨rfl, rfl⟩)
                go_ret
                exact retInt HZ.out K6
              · have hzb : ((r0 : Int) != 0) = true := by simp [hz]
                have HZ := Lib.hid (H3'.out (.inr (by rw [Hr0.out]; simp [hz])))
                clear H3' H0' Hr0 hz H7
                go_upto_region 17 with (first
                  | (at_len; refine wpList_len_own _ rfl _ 96 rfl 9 4 Try.underlying96 _ mb r.lines.length D rfl hM ?_; rw [Hsz.out])
                  | (go_at_call 45; refine (Hcl.out _ (grownBy_refl _ _)).mono ?_; rintro e w6 ⟨rfl, g6⟩; have b6 := (HB3.out.same g6).cell; have c6 := HC7.out _ g6; have K6 := grownBy_trans hgw g6))
                go_wp2_with (go_at_call 21; refine (Had.out _).mono ?_; rintro e w7 ⟨rfl, rfl⟩)
                go_ret
                exact retInt HZ.out K6
            · have h7b : ((r.rej.length : Int) != 7) = true := by simp; omega
              have HZ := Lib.hid (H3'.out (.inl h7))
              clear H3' H0' h7
              have HB3 := Lib.hid B3
              go_upto_region 17 with (first
                | (at_len; refine wpList_len_own _ rfl _ 96 rfl 9 4 Try.underlying96 _ mb r.lines.length D rfl hM ?_; rw [Hsz.out])
                | (go_at_call 45; refine (Hcl.out _ (grownBy_refl _ _)).mono ?_; rintro e w6 ⟨rfl, g6⟩; have b6 := (HB3.out.same g6).cell; have K6 := grownBy_trans hgw g6))
              go_wp2_with (go_at_call 21; refine (Had.out _).mono ?_; rintro e w7 ⟨rfl, rfl⟩)
              go_ret
              exact retInt HZ.out K6
          · have htb : ((T + r.over : Int) != r.tot) = true := by simp [ht]
            have HZ := Lib.hid (H13.out (.inr (by omega)))
            clear H3 H0 H13 ht hf
            have HB3 := Lib.hid B3
            go_upto_region 17 with (first
              | (at_len; refine wpList_len_own _ rfl _ 96 rfl 9 4 Try.underlying96 _ mb r.lines.length D rfl hM ?_; rw [Hsz.out])
              | (go_at_call 45; refine (Hcl.out _ (grownBy_refl _ _)).mono ?_; rintro e w6 ⟨rfl, g6⟩; have b6 := (HB3.out.same g6).cell; have K6 := grownBy_trans hgw g6))
            go_wp2_with (go_at_call 21; refine (Had.out _).mono ?_; rintro e w7 ⟨rfl, rfl⟩)
            go_ret
            exact retInt HZ.out K6
        · have HZ := Lib.hid (H13.out (.inl (by omega)))
          have hW1 := satL_w hT0
          have hfa := fitL_add (n := T) (x := r.over) ho0
          have hfn : fitL (T + r.over) = false := by unfold fitL; exact decide_eq_false (by omega)
          rw [hfn] at hfa
          clear H3 H0 H13 HM hfn
          have HB3 := Lib.hid B3
          have hcl2 : ∀ w', World.grownBy wr w' none → Calls Try.prog 45 #[.slice la r.lines.length lc] w' fun e w'' => e = .returned (.tuple #[.int .u64 (satL T), .bool (fitL T)]) ∧ w'.grownBy w'' none := hcl
          have Hcl := Lib.hid hcl2
          clear hcl hcl2 hf
          generalize fitL T = f1 at *
          generalize satL T = s1 at *
          have Had := Lib.hid fun w' => satAdd_c s1 r.over w' hW1 ⟨ho0, ho1⟩
          generalize fitA s1 r.over = f2 at *
          generalize satA s1 r.over = s2 at *
          have hfe : f1 = false ∨ f2 = false := by cases f1 <;> simp_all
          clear hfa
          rcases hfe with rfl | rfl
          · go_upto_region 17 with (first
              | (at_len; refine wpList_len_own _ rfl _ 96 rfl 9 4 Try.underlying96 _ mb r.lines.length D rfl hM ?_; rw [Hsz.out])
              | (go_at_call 45; refine (Hcl.out _ (grownBy_refl _ _)).mono ?_; rintro e w6 ⟨rfl, g6⟩; have b6 := (HB3.out.same g6).cell; have K6 := grownBy_trans hgw g6))
            go_wp2_with (go_at_call 21; refine (Had.out _).mono ?_; rintro e w7 ⟨rfl, rfl⟩)
            go_ret
            exact retInt HZ.out K6
          · cases f1
            all_goals
              go_upto_region 17 with (first
                | (at_len; refine wpList_len_own _ rfl _ 96 rfl 9 4 Try.underlying96 _ mb r.lines.length D rfl hM ?_; rw [Hsz.out])
                | (go_at_call 45; refine (Hcl.out _ (grownBy_refl _ _)).mono ?_; rintro e w6 ⟨rfl, g6⟩; have b6 := (HB3.out.same g6).cell; have K6 := grownBy_trans hgw g6))
              go_wp2_with (go_at_call 21; refine (Had.out _).mono ?_; rintro e w7 ⟨rfl, rfl⟩)
              go_ret
              exact retInt HZ.out K6
      · have hne : ((sz : Int) != (r.lines.length : Int)) = true := by
          have : sz ≠ r.lines.length := fun e => hnd (hs2.1 e)
          simp; omega
        have HX := Lib.hid (H10.out hnd)
        clear H10 H4 hnd hs1 hs2
        have Hsz := Lib.hid hsz
        clear hsz
        go_wp2_with (at_len; refine wpList_len_own _ rfl _ 96 rfl 9 4 Try.underlying96 _ mb r.lines.length D rfl hM ?_; rw [Hsz.out])
        go_ret
        exact retInt HX.out hgw
end Go.Proofs.Ytkdbapbmbhmaiaa

/- A whole report: made, written, read, at once. -/
namespace Go.Proofs.Ytkdbapbmbhmaiaa
open Go.RowKit

theorem size_rep : (Try.prog.info? 48).map (·.size) = some 7 := by kernel_rfl
abbrev repA (win tot : Int) (vl : Value) (over trk rest : Int) (vr : Value) : Array Value := #[.int .i64 win, .int .u64 tot, vl, .int .u64 over, .int .i64 trk, .int .u64 rest, vr]
abbrev rep0 : Array Value := repA 0 0 (.slice none 0 0) 0 0 0 (.slice none 0 0)
theorem run_alloc_rep (w : World) : (Instr.alloc 48 true (.tuple #[])).run Try.prog w = .ok (.pointer (some ⟨w.heap.size, 0, none⟩)) (w.alloc (.cells rep0 48)) := by kernel_rfl
theorem alloc_rep {ops : Array Oper} {rest : List Oper} {o : Oper} {a : Act} {w : World} {Q : Exit → Act → World → Prop} (hgd : o.guard = none) (ho : o.op = .alloc 48)
    (h : ∀ w', Blk w' w.heap.size rep0 → w.grownBy w' none → w.heap.size < w'.heap.size → wpList Try.prog ops Q rest (a.put o.dst (.pointer (some ⟨w.heap.size, 0, none⟩))) w') : wpList Try.prog ops Q (o :: rest) a w :=
  wpList_plain hgd fun _ hK => by
    unfold Oper.wp execOp
    simp only [ho, run_alloc_rep, Sem.run_bind, Sem.run_pure, Result.andThen_ok]
    exact hK _ _ (h _ (Blk.new w _ _) (World.grownBy_alloc w _ _) (by simp))
theorem store_rep {ops : Array Oper} {rest : List Oper} {o : Oper} {a : Act} {w : World} {Q : Exit → Act → World → Prop} (hgd : o.guard = none) (x y : Operand) (ho : o.op = .store 48 x y)
    (b : Nat) (hx : a.eval x = .pointer (some ⟨b, 0, none⟩)) {win tot over trk rst : Int} {vl vr : Value} (hy : a.eval y = repV win tot vl over trk rst vr) (h1 : vl.oneCell' = true) (h2 : vr.oneCell' = true) (c0 : Array Value) (hs : c0.size = 7) (hb : Blk w b c0)
    (h : ∀ w', Blk w' b (repA win tot vl over trk rst vr) → w.grownBy w' (some b) → wpList Try.prog ops Q rest (a.put o.dst undef) w') : wpList Try.prog ops Q (o :: rest) a w := by
  obtain ⟨t, hbl⟩ := hb.blk
  have hst := run_storeCells_at Try.prog b 0 t (repA win tot vl over trk rst vr).toList 0 c0 w hbl (by simp [hs]) (by intro v hv; simp at hv; rcases hv with rfl | rfl | rfl | rfl | rfl | rfl | rfl <;> first | rfl | assumption)
  have hz : (sizeOf 48).run Try.prog w = .ok 7 w := by
    have := size_rep
    cases hq : Try.prog.info? 48 with
    | none => rw [hq] at this; simp at this
    | some i => rw [hq] at this; simp [sizeOf, typeInfo, hq]; simpa using this
  refine wpList_plain hgd fun _ hK => ?_
  unfold Oper.wp execOp
  simp only [ho, hx, hy, Instr.storeAt, Instr.sureAddr, storeVar, Sem.run_bind, Sem.run_pure, Result.andThen_ok, hz]
  simp only [Value.cells, List.size_toArray, List.length_cons, List.length_nil, Nat.reduceAdd, ne_eq, not_true_eq_false, if_false]
  rw [hst]
  refine hK _ _ (h _ ⟨t, ?_⟩ ⟨rfl, rfl, rfl, by simp, fun k _ hk => setRow_other w b k _ (fun e => hk (by simp [e]))⟩)
  rw [setRow_heap w b c0 _ t _ hbl]
  obtain ⟨l, rfl⟩ : ∃ l : List Value, c0 = l.toArray := ⟨c0.toList, by simp⟩
  match l, hs with
  | [_, _, _, _, _, _, _], _ => rfl
theorem load_rep {ops : Array Oper} {rest : List Oper} {o : Oper} {a : Act} {w : World} {Q : Exit → Act → World → Prop} (hgd : o.guard = none) (x : Operand) (ho : o.op = .load 48 x)
    (b : Nat) (hx : a.eval x = .pointer (some ⟨b, 0, none⟩)) {win tot over trk rst : Int} {vl vr : Value} (hb : Blk w b (repA win tot vl over trk rst vr)) (h : wpList Try.prog ops Q rest (a.put o.dst (repV win tot vl over trk rst vr)) w) : wpList Try.prog ops Q (o :: rest) a w := by
  obtain ⟨t, hbl⟩ := hb.blk
  exact wpList_load_row hgd _ x ho b hx t _ _ _ hbl Try.underlying48 rfl size_rep h
end Go.Proofs.Ytkdbapbmbhmaiaa

/- Tags: the program's test of one. -/
namespace Go.Proofs.Ytkdbapbmbhmaiaa
open Go.RowKit Go.Sort

theorem letterN_c (n : Nat) (w : World) : Calls Try.prog 82 #[.int .u8 n] w fun e w' => e = .returned (.bool (letN n)) ∧ w = w' := by
  rcases (show (97 ≤ n ∧ n ≤ 122) ∨ (48 ≤ n ∧ n ≤ 57) ∨ n = 95 ∨ n = 46 ∨ n = 45 ∨ n < 45 ∨ n = 47 ∨ (58 ≤ n ∧ n ≤ 94) ∨ n = 96 ∨ 123 ≤ n by omega) with h | h | h | h | h | h | h | h | h | h
  · obtain ⟨h1, h2⟩ := h
    have i1 : (97 : Int) ≤ (n : Int) := by omega
    have i2 : (n : Int) ≤ 122 := by omega
    have HB := Lib.hid (show letN n = true by simp [letN]; omega)
    go_enter Try.func82, Try.ntmps82
    go_wp2_with fail
    go_ret
    exact ⟨by rw [HB.out]; rfl, rfl⟩
  · obtain ⟨h1, h2⟩ := h
    have i1 : (48 : Int) ≤ (n : Int) := by omega
    have i2 : (n : Int) ≤ 57 := by omega
    have HB := Lib.hid (show letN n = true by simp [letN]; omega)
    go_enter Try.func82, Try.ntmps82
    go_wp2_with fail
    go_ret
    exact ⟨by rw [HB.out]; rfl, rfl⟩
  · subst h
    have HB := Lib.hid (show letN 95 = true from rfl)
    rw [show (((95 : Nat) : Nat) : Int) = (95 : Int) from rfl]
    go_enter Try.func82, Try.ntmps82
    go_wp2_with fail
    go_ret
    exact ⟨by rw [HB.out]; rfl, rfl⟩
  · subst h
    have HB := Lib.hid (show letN 46 = true from rfl)
    rw [show (((46 : Nat) : Nat) : Int) = (46 : Int) from rfl]
    go_enter Try.func82, Try.ntmps82
    go_wp2_with fail
    go_ret
    exact ⟨by rw [HB.out]; rfl, rfl⟩
  · subst h
    have HB := Lib.hid (show letN 45 = true from rfl)
    rw [show (((45 : Nat) : Nat) : Int) = (45 : Int) from rfl]
    go_enter Try.func82, Try.ntmps82
    go_wp2_with fail
    go_ret
    exact ⟨by rw [HB.out]; rfl, rfl⟩
  · have i1 : (n : Int) < 45 := by omega
    have HB := Lib.hid (show letN n = false by simp [letN]; omega)
    have f1 : ((n : Int) == 95) = false := beq_eq_false_iff_ne.2 (by omega)
    have f2 : ((n : Int) == 46) = false := beq_eq_false_iff_ne.2 (by omega)
    have f3 : ((n : Int) == 45) = false := beq_eq_false_iff_ne.2 (by omega)
    go_enter Try.func82, Try.ntmps82
    go_wp2_with fail
    go_ret
    exact ⟨by rw [HB.out]; rfl, rfl⟩
  · subst h
    have HB := Lib.hid (show letN 47 = false from rfl)
    rw [show (((47 : Nat) : Nat) : Int) = (47 : Int) from rfl]
    go_enter Try.func82, Try.ntmps82
    go_wp2_with fail
    go_ret
    exact ⟨by rw [HB.out]; rfl, rfl⟩
  · obtain ⟨h1, h2⟩ := h
    have i1 : (58 : Int) ≤ (n : Int) := by omega
    have i2 : (n : Int) ≤ 94 := by omega
    have i3 : decide ((n : Int) ≤ 57) = false := decide_eq_false (by omega)
    have HB := Lib.hid (show letN n = false by simp [letN]; omega)
    have f1 : ((n : Int) == 95) = false := beq_eq_false_iff_ne.2 (by omega)
    have f2 : ((n : Int) == 46) = false := beq_eq_false_iff_ne.2 (by omega)
    have f3 : ((n : Int) == 45) = false := beq_eq_false_iff_ne.2 (by omega)
    go_enter Try.func82, Try.ntmps82
    go_wp2_with fail
    go_ret
    exact ⟨by rw [HB.out]; rfl, rfl⟩
  · subst h
    have HB := Lib.hid (show letN 96 = false from rfl)
    rw [show (((96 : Nat) : Nat) : Int) = (96 : Int) from rfl]
    go_enter Try.func82, Try.ntmps82
    go_wp2_with fail
    go_ret
    exact ⟨by rw [HB.out]; rfl, rfl⟩
  · have i1 : (123 : Int) ≤ (n : Int) := by omega
    have i3 : decide ((n : Int) ≤ 57) = false := decide_eq_false (by omega)
    have i4 : decide ((n : Int) ≤ 122) = false := decide_eq_false (by omega)
    have HB := Lib.hid (show letN n = false by simp [letN]; omega)
    have f1 : ((n : Int) == 95) = false := beq_eq_false_iff_ne.2 (by omega)
    have f2 : ((n : Int) == 46) = false := beq_eq_false_iff_ne.2 (by omega)
    have f3 : ((n : Int) == 45) = false := beq_eq_false_iff_ne.2 (by omega)
    go_enter Try.func82, Try.ntmps82
    go_wp2_with fail
    go_ret
    exact ⟨by rw [HB.out]; rfl, rfl⟩
theorem letter_c (b : UInt8) (w : World) : Calls Try.prog 82 #[.int .u8 b.toNat] w fun e w' => e = .returned (.bool (letB b)) ∧ w = w' := letterN_c b.toNat w
set_option maxHeartbeats 1000000 in
set_option maxRecDepth 100000 in
theorem tvalid_c (t : TagR) (w : World) (hW : TagW t) : Calls Try.prog 71 #[tagV t] w (RetInt (tagE t) w) := by
  obtain ⟨hn, hv⟩ := hW
  have HN := Lib.hid (nm_len t)
  have HX := Lib.hid (show tagE t = if (nmB t).all letB = false then 3 else if t.name.size = 0 then 3 else if 32 < t.name.size ∨ 64 < t.value.size then 4 else 0 from rfl)
  have HQ := Lib.hid (show nmB t = t.name.data.toList from rfl)
  generalize tagE t = E at *
  generalize nmB t = q at *
  obtain ⟨y, v⟩ := t
  dsimp only at *
  have B1 := Blk.new w #[.string y, .string v] 43
  have G1 := grownBy_new_block (grownBy_refl w none) (.cells #[.string y, .string v] 43)
  go_enter Try.func71, Try.ntmps71
  go_upto_region 1 with fail
  generalize w.alloc (.cells #[.string y, .string v] 43) = w1 at *
  generalize w.heap.size = b at *
  have b1 := B1.cell
  by_cases h0 : y.size = 0
  · have HF := Lib.hid (show E = 3 by
      rw [HX.out, if_pos h0]
      split <;> rfl)
    obtain rfl : y = ⟨#[]⟩ := by
      obtain ⟨⟨l⟩⟩ := y
      have : l = [] := by simpa [ByteArray.size] using h0
      rw [this]
    clear h0
    go_wp2_with fail
    go_ret
    exact retInt HF.out G1
  have hne : y.toList.isEmpty = false := by
    rw [ByteArray.toList_eq]
    obtain ⟨⟨l⟩⟩ := y
    cases l with
    | nil => exact absurd rfl h0
    | cons a l => rfl
  go_upto_region 4 with fail
  go_loopw [10] (fun s10 wk => ∃ i : Nat, i ≤ q.length ∧ s10 = .int .i64 i ∧ (∀ j (hj : j < q.length), j < i → letB q[j] = true) ∧ w1 = wk) (fun s10 _ => q.length - (intOf s10).toNat)
  case atStart => exact ⟨0, Nat.zero_le _, rfl, by intro j hj h; omega, rfl⟩
  case round =>
    obtain ⟨i, hi, rfl, hall, rfl⟩ := hrel
    have Hall := Lib.hid hall
    have hql := HN.out
    clear hall
    by_cases hlt : i < q.length
    · have hi1 : (i : Int) < (y.size : Int) := by omega
      have hi2 : i < y.size := by omega
      have hx : q[i] = y[i]'hi2 := by
        have : q[i]? = some (y[i]'hi2) := by
          rw [HQ.out]
          show y.data.toList[i]? = _
          rw [Array.getElem?_toList, Array.getElem?_eq_getElem (by exact hi2)]; rfl
        rw [List.getElem?_eq_getElem hlt] at this
        exact Option.some.inj this
      have HF := Lib.hid (show letB q[i] = false → E = 3 from fun h => by rw [HX.out, if_pos (all_let_not hlt h)])
      have HS := Lib.hid (show letB q[i] = true → ∀ j (hj : j < q.length), j < i + 1 → letB q[j] = true from fun h j hj hji => by
        rcases Nat.lt_or_ge j i with h1 | h1
        · exact Hall.out j hj h1
        · obtain rfl : j = i := by omega
          exact h)
      rw [hx] at HF HS
      have C := Lib.hid fun w' => letter_c (y[i]'hi2) w'
      have hi0 : (0 : Int) ≤ (i : Int) := by omega
      clear hx Hall
      cases hb : letB (y[i]'hi2)
      · rw [hb] at C
        have HF2 := Lib.hid (HF.out hb)
        clear hb
        go_wp2_with (go_at_call 82; refine (C.out _).mono ?_; rintro e w' ⟨rfl, rfl⟩)
        go_ret
        exact retInt HF2.out G1
      · rw [hb] at C
        have HS2 := Lib.hid (HS.out hb)
        clear hb
        go_wp2_with (go_at_call 82; refine (C.out _).mono ?_; rintro e w' ⟨rfl, rfl⟩)
        exact ⟨⟨i + 1, by omega, by go_num, HS2.out, by trivial⟩, by simp [intOf]; omega⟩
    · have hi1 : ¬ (i : Int) < (y.size : Int) := by omega
      have HA := Lib.hid (show ¬ q.all letB = false by rw [all_lets fun j hj => Hall.out j hj (by omega)]; simp)
      have HF := Lib.hid (show E = if 32 < y.size ∨ 64 < v.size then 4 else 0 by rw [HX.out, if_neg HA.out, if_neg h0])
      clear h0 HX
      by_cases h1 : 32 < y.size
      · have j1 : (32 : Int) < (y.size : Int) := by omega
        have HF2 := Lib.hid (HF.out.trans (if_pos (.inl h1)))
        clear HF h1
        go_wp2_with fail
        go_ret
        exact retInt HF2.out G1
      · have j1 : (y.size : Int) ≤ 32 := by omega
        by_cases h2 : 64 < v.size
        · have j2 : (64 : Int) < (v.size : Int) := by omega
          have HF2 := Lib.hid (HF.out.trans (if_pos (.inr h2)))
          clear HF h1 h2
          go_wp2_with fail
          go_ret
          exact retInt HF2.out G1
        · have j2 : (v.size : Int) ≤ 64 := by omega
          have HF2 := Lib.hid (HF.out.trans (if_neg (fun h => h.elim h1 h2)))
          clear HF h1 h2
          go_wp2_with fail
          go_ret
          exact retInt HF2.out G1
end Go.Proofs.Ytkdbapbmbhmaiaa
