/- The entries that the deck makes are valid: plain laws. -/
import Derived.Test.YtiagjiaahnkefaaSumC
namespace Go.Proofs.Ytiagjiaahnkefaa
open Go.RowKit

def keyS (n : Int) : ByteArray := ⟨#[UInt8.ofNat n.toNat]⟩
theorem keyS_list (n : Int) : (keyS n).toList = [UInt8.ofNat n.toNat] := by rw [ByteArray.toList_eq]; rfl
theorem keyS_lt {n m : Int} (h0 : 0 ≤ n) (h : n < m) (h1 : m ≤ 255) : leB (keyS m) (keyS n) = false := by
  have a : (UInt8.ofNat m.toNat).toNat = m.toNat := by rw [UInt8.toNat_ofNat']; omega
  have b : (UInt8.ofNat n.toNat).toNat = n.toNat := by rw [UInt8.toNat_ofNat']; omega
  unfold leB
  rw [keyS_list, keyS_list]
  have h2 : ¬ (UInt8.ofNat m.toNat < UInt8.ofNat n.toNat) := by rw [UInt8.lt_iff_toNat_lt, a, b]; omega
  have h3 : UInt8.ofNat m.toNat ≠ UInt8.ofNat n.toNat := by intro e; have := congrArg UInt8.toNat e; rw [a, b] at this; omega
  simp [Op.bytesLess, h2, h3]
structure EntsG (tot left key : Int) (es : List Ent) : Prop where
  err : ∀ i, i < es.length → errAt tot es i = 0
  own : ownF es = tot - left
  keys : ∀ e ∈ es, ∃ n, e.key = keyS n ∧ 97 ≤ n ∧ n ≤ key
  num : ∀ e ∈ es, W64 e.own ∧ W64 e.slack
  sum : ∀ e ∈ es, e.own + e.slack ≤ tot
theorem EntsG.nil (tot : Int) : EntsG tot tot 97 [] := ⟨by simp, by simp [ownF], by simp, by simp, by simp⟩
theorem EntsG.snoc {tot left key key2 own slack : Int} {es : List Ent} (h : EntsG tot left key es) (ht : tot ≤ 9223372036854775808) (hl : left ≤ tot) (hk0 : 97 ≤ key) (hk : key < key2) (hk2 : key2 ≤ 255)
    (ho : 1 ≤ own) (ho2 : own ≤ left) (hs : 0 ≤ slack) (hs2 : slack ≤ tot - own) : EntsG tot (left - own) key2 (es ++ [⟨keyS key2, own, slack⟩]) := by
  refine ⟨fun i hi => ?_, ?_, fun e he => ?_, fun e he => ?_, fun e he => ?_⟩
  · have hi' : i < es.length + 1 := by simpa using hi
    have hp : prevK (es ++ [⟨keyS key2, own, slack⟩]) i = prevK es i := by
      cases i with
      | zero => rfl
      | succ m => simp only [prevK]; rw [List.getElem?_append_left (by omega)]
    rcases Nat.lt_or_ge i es.length with h1 | h1
    · have := h.err i h1
      unfold errAt at this ⊢
      rw [hp, List.getElem?_append_left h1]
      exact this
    · obtain rfl : i = es.length := by omega
      unfold errAt
      rw [hp, List.getElem?_append_right (Nat.le_refl _), Nat.sub_self]
      show entErr tot (prevK es es.length) ⟨keyS key2, own, slack⟩ = 0
      refine err_ok (by simp [keyS_list]) (by show ((keyS key2).size : Int) ≤ 255; have : (keyS key2).size = 1 := rfl; omega) ?_ (by simp; omega) (by simp; omega)
      cases hl : es.length with
      | zero => rfl
      | succ m =>
        simp only [prevK]
        rw [List.getElem?_eq_getElem (by omega)]
        obtain ⟨n, h2, h3, h4⟩ := h.keys es[m] (List.getElem_mem _)
        simp only [Option.map_some, Option.getD_some]
        rw [h2]
        exact keyS_lt (by omega) (by omega) hk2
  · rw [ownF_snoc, h.own]
    unfold satA
    rw [if_pos (by simp; omega)]
    simp; omega
  · rcases List.mem_append.1 he with he | he
    · obtain ⟨n, h2, h3, h4⟩ := h.keys e he
      exact ⟨n, h2, h3, by omega⟩
    · obtain rfl := List.mem_singleton.1 he
      exact ⟨key2, rfl, by omega, Int.le_refl _⟩
  · rcases List.mem_append.1 he with he | he
    · exact h.num e he
    · obtain rfl := List.mem_singleton.1 he
      unfold W64
      simp only
      omega
  · rcases List.mem_append.1 he with he | he
    · exact h.sum e he
    · obtain rfl := List.mem_singleton.1 he
      simp only
      omega
/-- A summary of the deck's. -/
structure SummG (c : Cfg) (s : Summ) : Prop where
  err : sumErr c.Depth c.Width s = 0
  num : SumW s
  small : SumSmall s
  keys : ∀ e ∈ s.es, ∃ n, e.key = keyS n ∧ 97 ≤ n ∧ n ≤ 109
  few : s.es.length ≤ 4
  total : s.total * (2 * c.Shards) ≤ 9223372036854775808
  len : s.rows.length ≤ 4
  row : ∀ r ∈ s.rows, r.length ≤ 256
  pos : 0 ≤ s.total
  sum : ∀ e ∈ s.es, e.own + e.slack ≤ s.total
  un : s.untr ≤ s.total
  wid : ∀ r ∈ s.rows, (r.length : Int) = c.Width
theorem summG {c : Cfg} {tot left key un : Int} {es : List Ent} {ve vr : Value} {vs : List Value} {rows : List (List Int)} (h : EntsG tot left key es) (h0 : 0 ≤ tot) (ht : tot * (2 * c.Shards) ≤ 9223372036854775808) (hsh : 1 ≤ c.Shards) (hle : 0 ≤ left) (hlen : es.length ≤ 4) (hkey : key ≤ 109) (hu : 0 ≤ un) (hu2 : un ≤ tot)
    (hd : 0 ≤ c.Depth ∧ c.Depth ≤ 4) (hw : 0 ≤ c.Width ∧ c.Width ≤ 256) (hr : rows = [] ∨ (rows.length : Int) = c.Depth ∧ ∀ r ∈ rows, (r.length : Int) = c.Width ∧ ∀ x ∈ r, 0 ≤ x ∧ x ≤ tot) : SummG c ⟨tot, ve, un, vr, es, vs, rows⟩ := by
  have ht2 : tot ≤ 9223372036854775808 := by
    have h1 : tot * 1 ≤ tot * (2 * c.Shards) := Int.mul_le_mul_of_nonneg_left (by omega) h0
    omega
  have hrow : ∀ r ∈ rows, (r.length : Int) = c.Width ∧ ∀ x ∈ r, 0 ≤ x ∧ x ≤ tot := by
    rcases hr with rfl | hr
    · simp
    · exact hr.2
  have hrl : rows.length ≤ 4 := by
    rcases hr with rfl | hr
    · simp
    · omega
  have hre : rowsErr c.Depth c.Width tot rows = 0 := by
    unfold rowsErr
    by_cases e : rows.length = 0
    · rw [if_pos e]
    · rw [if_neg e]
      rcases hr with rfl | hr
      · exact absurd rfl e
      · rw [if_neg (by omega)]
        have h1 : badLen c.Width rows = false := any_no fun j hj => by
          have := (hr.2 _ (List.getElem_mem hj)).1
          simp [this]
        have h2 : badNum tot rows = false := any_no fun j hj => gtF_no fun i hi => by
          have := ((hr.2 _ (List.getElem_mem hj)).2 _ (List.getElem_mem hi)).2
          simp; omega
        rw [h1, h2]; rfl
  have hW : ∀ x : Int, 0 ≤ x → x ≤ tot → W64 x := fun x a b => by unfold W64; omega
  refine ⟨?_, ⟨hW _ h0 (Int.le_refl _), hW _ hu hu2, h.num, fun r hr x hx => hW _ ((hrow r hr).2 x hx).1 ((hrow r hr).2 x hx).2⟩, ⟨fun e he => ?_, by show rows.length ≤ 1000; omega, fun r hr => by have := (hrow r hr).1; omega⟩,
    fun e he => ?_, hlen, ht, hrl, fun r hr => by have := (hrow r hr).1; omega, h0, h.sum, hu2, fun r hr => (hrow r hr).1⟩
  · unfold sumErr
    simp only
    rw [if_neg (by omega), if_neg (by omega), ents_no h.err]
    simp only [ne_eq, not_true, if_false]
    rw [h.own, if_neg (by omega), hre]
  · obtain ⟨n, h2, _⟩ := h.keys e he
    rw [h2]; show (1 : Nat) ≤ _; omega
  · obtain ⟨n, h2, h3, h4⟩ := h.keys e he
    exact ⟨n, h2, h3, by omega⟩
end Go.Proofs.Ytiagjiaahnkefaa
