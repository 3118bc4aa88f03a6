/- Equal lists of bytes compare as equal. -/
import Derived.Test.YtniokdflljchgaaVar
import Derived.Test.YtniokdflljchgaaRet
import Derived.BigQuiet
namespace Go.Proofs.Ytniokdflljchgaa
open Go.RowKit Go.Sort

set_option maxHeartbeats 400000 in
theorem sameBy_c (v v' : Value) (L : List UInt8) (w : World) (h : RdL byF 1 w v L) (h' : RdL byF 1 w v' L) : Calls Try.prog 15 #[v, v'] w (RetBool true w) := by
  obtain ⟨a, c, rfl⟩ := h.shape
  obtain ⟨a', c', rfl⟩ := h'.shape
  have hm := h.2.1
  have hne : ((L.length : Int) != (L.length : Int)) = false := by simp
  have H := Lib.hid h
  have H' := Lib.hid h'
  clear h h'
  go_enter Try.func15, Try.ntmps15
  go_wp2_with fail
  go_loopw [13] (fun s13 wr => ∃ k : Nat, k ≤ L.length ∧ s13 = .int .i64 k ∧ w.grownBy wr none) (fun s13 _ => L.length - (intOf s13).toNat)
  case atStart => exact ⟨0, Nat.zero_le _, rfl, grownBy_refl _ _⟩
  case round =>
    obtain ⟨k, hk, rfl, hg⟩ := hrel
    by_cases hlt : k < L.length
    · obtain ⟨g, off, cap, hv, hgl, hc⟩ := (RdL.same H.out hg).one by_one hlt
      obtain ⟨g', off', cap', hv', hgl', hc'⟩ := (RdL.same H'.out hg).one by_one hlt
      cases hv
      cases hv'
      generalize L[k] = x at *
      have hx : ((x.toNat : Int) != (x.toNat : Int)) = false := by simp
      have hk0 : (0 : Int) ≤ (k : Int) := by omega
      have hk1 : (k : Int) < (L.length : Int) := by omega
      go_wp2_with fail
      go_quiet (fail)
      go_wp2_with fail
      exact ⟨⟨k + 1, by omega, by go_num, grownBy_drewN hg _⟩, by simp [intOf]; omega⟩
    · go_wp2_with fail
      go_ret
      exact retBool rfl hg

end Go.Proofs.Ytniokdflljchgaa
