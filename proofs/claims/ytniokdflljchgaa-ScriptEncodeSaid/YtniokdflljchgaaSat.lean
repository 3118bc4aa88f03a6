/- Sums of weights that do not wrap. -/
import Derived.Test.YtniokdflljchgaaRet
import Derived.Laws.Externs
import Derived.Lib.MinMax
import Derived.OpenShut
namespace Go.Proofs.Ytniokdflljchgaa
open Go.RowKit

/-- A number of 64 bits. -/
def W64 (n : Int) : Prop := 0 ≤ n ∧ n ≤ 18446744073709551615
theorem w64_wf {n : Int} (h : (Lit.int .u64 n).wf = true) : W64 n := by have := bounds_u64 h; unfold W64; omega
theorem w64_of {n : Int} (h0 : 0 ≤ n) (h1 : n ≤ 18446744073709551615) : W64 n := ⟨h0, h1⟩
def most64 : Int := 18446744073709551615
def satA (a b : Int) : Int := if a + b ≤ 18446744073709551615 then a + b else 18446744073709551615
def fitA (a b : Int) : Bool := decide (a + b ≤ 18446744073709551615)
def RetWordBool (k : Int) (b : Bool) (w : World) (e : Ending) (w' : World) : Prop := e = .returned (.tuple #[.int .u64 k, .bool b]) ∧ w = w'
theorem retWB {k k' : Int} {b b' : Bool} {w : World} (h : k = k') (hb : b = b') : RetWordBool k b w (.returned (.tuple #[.int .u64 k', .bool b'])) w := ⟨by rw [h, hb], rfl⟩
theorem satA_w {a b : Int} (ha : W64 a) (hb : W64 b) : W64 (satA a b) := by unfold W64 satA at *; split <;> omega
def sumA (a b : Int) : Int := (a + b + 0) % 18446744073709551616
def carA (a b : Int) : Int := (a + b + 0) / 18446744073709551616
theorem sumA_fit {a b : Int} (ha : W64 a) (hb : W64 b) (h : fitA a b = true) : sumA a b = satA a b ∧ (carA a b != 0) = false := by
  unfold W64 fitA sumA satA carA at *; simp only [decide_eq_true_eq] at h
  rw [if_pos h, bne_eq_false_iff_eq]; omega
theorem sumA_not {a b : Int} (_ : W64 a) (_ : W64 b) (h : fitA a b = false) : satA a b = 18446744073709551615 ∧ (carA a b != 0) = true := by
  unfold W64 fitA satA carA at *; simp only [decide_eq_false_iff_not] at h
  rw [if_neg h, bne_iff_ne]; omega

theorem call_add64 (a b : Int) (ha : W64 a) (hb : W64 b) (w : World) : (callFunc 75 #[.int .u64 a, .int .u64 b, .int .u64 0]).run Try.prog w = .ok (.value (.tuple #[.int .u64 (sumA a b), .int .u64 (carA a b)])) w := by
  rw [run_callFunc_extern (e := add64Entry) Try.func75 (by kernel_rfl) (by kernel_rfl) (by kernel_rfl) (by kernel_rfl), run_add64 a b 0 ha.1 hb.1 (by omega) (by omega)]
  rfl

set_option maxHeartbeats 400000 in
theorem satAdd_c (a b : Int) (w : World) (ha : W64 a) (hb : W64 b) : Calls Try.prog 55 #[.int .u64 a, .int .u64 b] w (RetWordBool (satA a b) (fitA a b) w) := by
  have hc := call_add64 a b ha hb
  cases hf : fitA a b
  · obtain ⟨h1, h2⟩ := sumA_not ha hb hf
    have H1 := Lib.hid h1
    clear h1 hf ha hb
    go_enter Try.func55, Try.ntmps55
    go_wp2
    go_ret2
    exact retWB H1.out rfl
  · obtain ⟨h1, h2⟩ := sumA_fit ha hb hf
    have H1 := Lib.hid h1
    clear h1 hf ha hb
    go_enter Try.func55, Try.ntmps55
    go_wp2
    go_ret2
    exact retWB H1.out.symm rfl

theorem le_fit (a b : Int) : decide (18446744073709551615 - b < a) = !fitA a b := by
  unfold fitA; rw [Bool.eq_iff_iff]; simp; omega

set_option maxHeartbeats 400000 in
theorem radd_c (a b : Int) (w : World) (ha : W64 a) (hb : W64 b) : Calls Try.prog 76 #[.int .u64 a, .int .u64 b] w (RetWordBool (satA a b) (fitA a b) w) := by
  have hw : IntKind.u64.wrap (18446744073709551615 - b) = 18446744073709551615 - b := IntWalk.u64_in _ (by unfold W64 at *; omega)
  have hl := le_fit a b
  cases hf : fitA a b
  · obtain ⟨h1, h2⟩ := sumA_not ha hb hf
    have H1 := Lib.hid h1
    rw [hf] at hl
    clear h1 h2 hf ha hb
    go_enter Try.func76, Try.ntmps76
    go_wp2
    go_ret2
    exact retWB H1.out rfl
  · obtain ⟨h1, h2⟩ := sumA_fit ha hb hf
    have h3 : satA a b = a + b := by unfold satA; unfold fitA at hf; rw [if_pos (of_decide_eq_true hf)]
    have hw2 : IntKind.u64.wrap (a + b) = a + b := by rw [← h3]; have := satA_w ha hb; exact IntWalk.u64_in _ (by unfold W64 at this; omega)
    have H3 := Lib.hid h3
    rw [hf] at hl
    clear h1 h2 h3 hf ha hb
    go_enter Try.func76, Try.ntmps76
    go_wp2
    go_ret2
    exact retWB H3.out rfl
theorem rsum_c (a b : Int) (w : World) (ha : W64 a) (hb : W64 b) : Calls Try.prog 59 #[.int .u64 a, .int .u64 b] w (fun e w' => e = .returned (.int .u64 (satA a b)) ∧ w = w') := by
  go_enter Try.func59, Try.ntmps59
  go_wp2_with (go_at_call 76; refine (radd_c a b _ ha hb).mono ?_; rintro e w' ⟨rfl, rfl⟩)
  go_ret
  exact ⟨rfl, rfl⟩
end Go.Proofs.Ytniokdflljchgaa
