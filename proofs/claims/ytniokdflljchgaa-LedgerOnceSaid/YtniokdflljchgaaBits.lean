/- The low bits of a number. -/
import Derived.Test.YtniokdflljchgaaDeck
import Derived.Laws.Bits128
namespace Go.Proofs.Ytniokdflljchgaa
open Go.RowKit

theorem and_low (n : Int) (k : Nat) (hk : k ≤ 62) : bits .and .i64 n (2 ^ k - 1) = n % 2 ^ k := by
  have h2 : (BitVec.ofInt 64 (2 ^ k - 1)).toNat = 2 ^ k - 1 := by
    have hp : (2 : Nat) ^ k ≤ 2 ^ 62 := Nat.pow_le_pow_right (by omega) hk
    have h0 : 0 < (2 : Nat) ^ k := Nat.two_pow_pos k
    rw [BitVec.toNat_ofInt]
    have e : ((2 : Int) ^ k - 1) = ((2 ^ k - 1 : Nat) : Int) := by rw [Int.natCast_sub h0]; simp
    rw [e, show ((2 ^ 64 : Nat) : Int) = 18446744073709551616 by decide]
    omega
  have key : (BitVec.ofInt 64 n &&& BitVec.ofInt 64 (2 ^ k - 1)).toNat = (n % ((2 ^ 64 : Nat) : Int)).toNat % 2 ^ k := by
    rw [BitVec.toNat_and, BitVec.toNat_ofInt, h2, Nat.and_two_pow_sub_one_eq_mod]
  show IntKind.i64.wrap ((BitVec.ofInt 64 n &&& BitVec.ofInt 64 (2 ^ k - 1)).toNat : Nat) = n % 2 ^ k
  rw [key, IntKind.wrap_i64]
  have hp : (2 : Nat) ^ k ≤ 2 ^ 62 := Nat.pow_le_pow_right (by omega) hk
  have h0 : 0 < (2 : Nat) ^ k := Nat.two_pow_pos k
  have hdv : ((2 : Int) ^ k) ∣ ((2 ^ 64 : Nat) : Int) := by
    refine ⟨2 ^ (64 - k), ?_⟩
    rw [← Int.pow_add, show k + (64 - k) = 64 by omega]; rfl
  have hmm : n % ((2 ^ 64 : Nat) : Int) % 2 ^ k = n % 2 ^ k := Int.emod_emod_of_dvd n hdv
  have hn : 0 ≤ n % ((2 ^ 64 : Nat) : Int) := Int.emod_nonneg _ (by decide)
  have e2 : (((n % ((2 ^ 64 : Nat) : Int)).toNat % 2 ^ k : Nat) : Int) = n % 2 ^ k := by
    rw [Int.natCast_emod, Int.toNat_of_nonneg hn]
    rw [← hmm]; simp
  rw [e2]
  have b1 := Int.emod_nonneg n (show (2 : Int) ^ k ≠ 0 by have : (0 : Int) < 2 ^ k := Int.pow_pos (by omega); omega)
  have b2 := Int.emod_lt_of_pos n (show (0 : Int) < 2 ^ k from Int.pow_pos (by omega))
  have b3 : (2 : Int) ^ k ≤ 4611686018427387904 := by
    have : (((2 : Nat) ^ k : Nat) : Int) ≤ ((2 ^ 62 : Nat) : Int) := Int.ofNat_le.2 hp
    simpa using this
  omega

end Go.Proofs.Ytniokdflljchgaa
