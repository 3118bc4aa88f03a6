/- What the laws of chapter 22 begin with: a configuration and a list of summaries of the deck's. Plain laws on their lines. -/
import Derived.Test.YtiagjiaahnkefaaDsums
import Derived.Test.YtiagjiaahnkefaaLine
import Derived.Test.YtiagjiaahnkefaaMchk
namespace Go.Proofs.Ytiagjiaahnkefaa
open Go.RowKit

theorem CfgNums.rcfg {c : Cfg} {l : List (Int × Int)} {t : List Int} {w : World} (h : CfgNums c) (m : CfgMem c l t w) : RCfg w c t :=
  ⟨⟨h.shards.1, by have := h.shards.2; omega⟩, h.spread, m.table, m.tlen, ⟨h.seed.1, by have := h.seed.2; omega⟩⟩
theorem CfgMem.off {c : Cfg} {l : List (Int × Int)} {t : List Int} {w w' : World} {r : Option Nat} {n : Nat} (h : CfgMem c l t w) (hg : w.grownBy w' r) (hr : ∀ k, r = some k → k < n)
    (h1 : ∀ a i m, c.Table = .slice (some a) i m → n ≤ a.block) (h2 : ∀ a i m, c.Classes = .slice (some a) i m → n ≤ a.block) : CfgMem c l t w' :=
  ⟨Rd.kept h.classes hg fun k e a i m hv => by have := hr k e; have := h2 a i m hv; omega, Rd.kept h.table hg fun k e a i m hv => by have := hr k e; have := h1 a i m hv; omega, h.tlen, h.twords⟩
theorem CfgMem.one1 {c : Cfg} {l : List (Int × Int)} {t : List Int} {w : World} (h : CfgMem c l t w) : c.Classes.oneCell' = true := by obtain ⟨a, cap, hv⟩ := h.classes.shape; rw [hv]; rfl
theorem CfgMem.one2 {c : Cfg} {l : List (Int × Int)} {t : List Int} {w : World} (h : CfgMem c l t w) : c.Table.oneCell' = true := by obtain ⟨a, cap, hv⟩ := h.table.shape; rw [hv]; rfl
theorem rowsOk_g {c : Cfg} {s : Summ} (h : SummG c s) (hw : 1 ≤ c.Width) : RowsOk s.rows := fun r hr => ⟨by have := h.wid r hr; have := h.row r hr; omega, h.num.rows r hr⟩
theorem sumsOk_g {lo : Nat} {c : Cfg} {w : World} {v : Value} {l : List Summ} (h : SumsG lo c w v l) (hw : 1 ≤ c.Width) : SumsOk l :=
  ⟨fun s hs => (h.all s hs).2.2.1.num, fun s hs => rowsOk_g (h.all s hs).2.2.1 hw, fun s hs => by have := (h.all s hs).2.2.1.len; omega⟩
theorem sumsSmall_g {lo : Nat} {c : Cfg} {w : World} {v : Value} {l : List Summ} (h : SumsG lo c w v l) : SumsSmall l := fun s hs => (h.all s hs).2.2.1.small

/-- The deck's configuration and summaries. -/
structure Few (c : Cfg) (lc : List (Int × Int)) (t : List Int) (lv : Value) (l : List Summ) (w : World) : Prop where
  nums : CfgNums c
  mem : CfgMem c lc t w
  sums : SumsRd w lv l
  good : ∀ s ∈ l, SummG c s
  len : (l.length : Int) = c.Shards
theorem Few.same {c : Cfg} {lc : List (Int × Int)} {t : List Int} {lv : Value} {l : List Summ} {w w' : World} (h : Few c lc t lv l w) (hg : w.grownBy w' none) : Few c lc t lv l w' := ⟨h.nums, h.mem.same hg, h.sums.same hg, h.good, h.len⟩
theorem Few.rcfg {c : Cfg} {lc : List (Int × Int)} {t : List Int} {lv : Value} {l : List Summ} {w : World} (h : Few c lc t lv l w) : RCfg w c t := h.nums.rcfg h.mem
theorem Few.ok {c : Cfg} {lc : List (Int × Int)} {t : List Int} {lv : Value} {l : List Summ} {w : World} (h : Few c lc t lv l w) : SumsOk l :=
  ⟨fun s hs => (h.good s hs).num, fun s hs => rowsOk_g (h.good s hs) h.nums.width.1, fun s hs => by have := (h.good s hs).len; omega⟩
theorem Few.small {c : Cfg} {lc : List (Int × Int)} {t : List Int} {lv : Value} {l : List Summ} {w : World} (h : Few c lc t lv l w) : SumsSmall l := fun s hs => (h.good s hs).small

/-! ### The bounds -/
theorem bP_get {c : Cfg} {t : List Int} {l : List Summ} {k : ByteArray} {i : Nat} (h : i < l.length) : bP c t l k (i : Int) = (min (bndE l[i].es l[i].untr k).1 (sEstF c t l[i] k), min (bndE l[i].es l[i].untr k).2 (sEstF c t l[i] k)) := by
  unfold bP
  rw [Int.toNat_natCast, List.getElem?_eq_getElem h]
/-- Half of the weights that a summary of the deck's may bear. -/
def capF (c : Cfg) : Int := 9223372036854775808 / (2 * c.Shards)
theorem bP_cap {c : Cfg} {t : List Int} {l : List Summ} {k : ByteArray} {i : Nat} (h : i < l.length) (hg : SummG c l[i]) (hs : 1 ≤ c.Shards) : (bP c t l k (i : Int)).1 ≤ (bP c t l k (i : Int)).2 ∧ (bP c t l k (i : Int)).2 ≤ capF c := by
  rw [bP_get h]
  generalize l[i] = s at hg
  have h1 : s.total ≤ capF c := by
    unfold capF
    exact (Int.le_ediv_iff_mul_le (by omega)).2 hg.total
  have h2 : (bndE s.es s.untr k).1 ≤ (bndE s.es s.untr k).2 ∧ (bndE s.es s.untr k).2 ≤ s.total := by
    unfold bndE
    split
    · rename_i e he
      have hm := List.mem_of_find?_eq_some he
      have h3 := hg.sum e hm
      obtain ⟨h4, h5⟩ := hg.num.es e hm
      unfold W64 at h4 h5
      have h6 := hg.num.total
      unfold W64 at h6
      unfold satA
      simp only
      rw [if_pos (by omega)]
      omega
    · have := hg.num.untr
      unfold W64 at this
      exact ⟨this.1, hg.un⟩
  simp only
  omega
theorem capF_le {c : Cfg} (hs : 1 ≤ c.Shards) : 0 ≤ capF c ∧ capF c * c.Shards ≤ 4611686018427387904 := by
  unfold capF
  refine ⟨Int.ediv_nonneg (by omega) (by omega), ?_⟩
  have h := Int.ediv_mul_le 9223372036854775808 (show 2 * c.Shards ≠ 0 by omega)
  have e : 9223372036854775808 / (2 * c.Shards) * (2 * c.Shards) = 2 * (9223372036854775808 / (2 * c.Shards) * c.Shards) := by
    rw [Int.mul_comm 2 c.Shards, ← Int.mul_assoc, Int.mul_comm _ 2]
  omega
theorem lineF_all {c : Cfg} {t : List Int} {l : List Summ} {k : ByteArray} (hs : 1 ≤ c.Shards) (hl : (l.length : Int) = c.Shards) : lineF c t l k = foldB c t l k (setF c t k) := by
  unfold lineF
  rw [List.filter_eq_self.2 fun x hx => ?_]
  have := setN_in hs x hx
  simp; omega
/-- What holds of the sum of chosen weights. -/
structure Mid (c : Cfg) (t : List Int) (l : List Summ) (k : ByteArray) (is : List Int) (f : Int) : Prop where
  lo : (foldB c t l k is).1 ≤ f
  hi : f ≤ (foldB c t l k is).2
  cap : f ≤ is.length * capF c
  pos : 0 ≤ f
theorem Mid.nil (c : Cfg) (t : List Int) (l : List Summ) (k : ByteArray) : Mid c t l k [] 0 := ⟨by simp [foldB], by simp [foldB], by simp, by omega⟩
theorem Mid.snoc {c : Cfg} {t : List Int} {l : List Summ} {k : ByteArray} {is : List Int} {f x : Int} {i : Nat} (h : Mid c t l k is f) (hi : i < l.length) (hg : SummG c l[i]) (hs : 1 ≤ c.Shards) (h8 : is.length + 1 ≤ c.Shards)
    (h1 : (bP c t l k (i : Int)).1 ≤ x) (h2 : x ≤ (bP c t l k (i : Int)).2) (h0 : 0 ≤ x) : Mid c t l k (is ++ [(i : Int)]) (f + x) ∧ f + x ≤ 4611686018427387904 := by
  obtain ⟨_, h3⟩ := bP_cap (t := t) (k := k) hi hg hs
  obtain ⟨h4, h5⟩ := capF_le hs
  obtain ⟨a, b, d, e⟩ := h
  have h6 : f + x ≤ (is.length + 1 : Int) * capF c := by rw [Int.add_mul, Int.one_mul]; omega
  have h7 : (is.length + 1 : Int) * capF c ≤ capF c * c.Shards := by rw [Int.mul_comm]; exact Int.mul_le_mul_of_nonneg_left h8 h4
  refine ⟨⟨?_, ?_, by simpa using h6, by omega⟩, by omega⟩
  · rw [foldB_snoc]; unfold addP satA; simp only; split <;> omega
  · rw [foldB_snoc]; unfold addP satA; simp only; split <;> omega
end Go.Proofs.Ytiagjiaahnkefaa
