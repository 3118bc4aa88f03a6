/- Lines: how they lie; their order; lists put in order by insertion: plain, and the walk of the order. -/
import Derived.Test.YtiagjiaahnkefaaSl
import Derived.Test.YtiagjiaahnkefaaRet
import Derived.Test.YtiagjiaahnkefaaSat
import Derived.Sort.Walk0
import Derived.BigQuiet
namespace Go.Proofs.Ytiagjiaahnkefaa
open Go.RowKit Go.Sort

/-- A line. -/
structure Ln where
  (key : ByteArray) (lo hi : Int)
def lnF (x : Ln) : List Value := [.string x.key, .int .u64 x.lo, .int .u64 x.hi]
theorem lnF_len (x : Ln) : (lnF x).length = 3 := rfl
theorem one_ln : OneF lnF := by intro x u hu; simp [lnF] at hu; rcases hu with rfl | rfl | rfl <;> rfl
theorem elt_ln : Elt 23 71 (.agg #[.string ⟨#[]⟩, .int .u64 0, .int .u64 0]) 3 32 := ⟨Try.underlying23, by kernel_rfl, rfl, by decide⟩

abbrev lnV (x : Ln) : Value := .agg #[.string x.key, .int .u64 x.lo, .int .u64 x.hi]
/-- x comes before y. -/
def befB (x y : Ln) : Bool := decide (y.hi < x.hi) || (decide (x.hi = y.hi) && decide (x.key.data.toList < y.key.data.toList))
theorem blt_of (a b : ByteArray) : Op.bytesLess a.toList b.toList = decide (a.data.toList < b.data.toList) := by
  rw [ByteArray.toList_eq, ByteArray.toList_eq, bytesLess_eq]

set_option maxHeartbeats 400000 in
theorem before_c (x y : Ln) (w : World) : Calls Try.prog 95 #[lnV x, lnV y] w (RetBool (befB x y) w) := by
  have hb := blt_of x.key y.key
  obtain ⟨b, hd⟩ : ∃ b, decide (x.key.data.toList < y.key.data.toList) = b := ⟨_, rfl⟩
  rw [hd] at hb
  by_cases h1 : y.hi < x.hi
  · have HB := Lib.hid (show befB x y = true by simp [befB, h1])
    clear hd
    generalize befB x y = q at *
    go_enter Try.func95, Try.ntmps95
    go_wp2
    go_ret
    exact retBool HB.out (grownBy_new_block (grownBy_new_block (grownBy_refl _ _) _) _)
  · have h1' : decide (y.hi < x.hi) = false := by simpa using h1
    by_cases h2 : x.hi = y.hi
    · have h2' : ((x.hi : Int) == y.hi) = true := by simp [h2]
      have HB := Lib.hid (show befB x y = b by unfold befB; rw [h1', hd, decide_eq_true h2]; rfl)
      clear hd h2
      generalize befB x y = q at *
      go_enter Try.func95, Try.ntmps95
      go_wp2
      go_ret
      exact retBool HB.out (grownBy_new_block (grownBy_new_block (grownBy_refl _ _) _) _)
    · have h2' : ((x.hi : Int) == y.hi) = false := by simp [h2]
      have HB := Lib.hid (show befB x y = false by simp [befB, h1', h2])
      clear hd h2
      generalize befB x y = q at *
      go_enter Try.func95, Try.ntmps95
      go_wp2
      go_ret
      exact retBool HB.out (grownBy_new_block (grownBy_new_block (grownBy_refl _ _) _) _)
end Go.Proofs.Ytiagjiaahnkefaa
