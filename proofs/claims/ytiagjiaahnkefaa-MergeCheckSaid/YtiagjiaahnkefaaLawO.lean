/- The walk of the law MergeOrder. -/
import Derived.Test.YtiagjiaahnkefaaAwk
import Derived.Test.YtiagjiaahnkefaaArgs
import Derived.Laws.Bits128
namespace Go.Proofs.Ytiagjiaahnkefaa
open Go.RowKit

theorem and15 (n : Int) : bits .and .i64 n 15 = n % 16 := by
  have h127 : (BitVec.ofInt 64 15).toNat = 2 ^ 4 - 1 := by decide
  have key : (BitVec.ofInt 64 n &&& BitVec.ofInt 64 15).toNat = (n % ((2 ^ 64 : Nat) : Int)).toNat % 2 ^ 4 := by
    rw [BitVec.toNat_and, BitVec.toNat_ofInt, h127, Nat.and_two_pow_sub_one_eq_mod]
  show IntKind.i64.wrap ((BitVec.ofInt 64 n &&& BitVec.ofInt 64 15).toNat : Nat) = n % 16
  rw [key, IntKind.wrap_i64]
  omega
theorem order_neg (P : List Int) {n : Int} (h : n ≤ 0) : order P n.toNat = [] := by
  rw [show n.toNat = 0 by omega]
  exact List.length_eq_zero_iff.1 (order_len P 0)
theorem count_step {O : List Int} {m : Nat} {x : Int} (h : m < O.length) : (O.take (m + 1)).count x = if O[m] = x then (O.take m).count x + 1 else (O.take m).count x := by
  rw [take_succ h, List.count_append, List.count_singleton]
  by_cases e : O[m] = x <;> simp [e]

set_option maxHeartbeats 400000 in
set_option maxRecDepth 100000 in
theorem order_w (sv : Value) (P : List Int) (n : Int) (w : World) (hsv : RdL intF 1 w sv P) :
    Calls Try.prog 6 #[sv, .int .i64 n] w (RetBool true w) := by
  obtain ⟨aP, cP, rfl⟩ := hsv.shape
  have HV := Lib.hid hsv
  have ha := and15 n
  obtain ⟨k, hk⟩ : ∃ k : Nat, n % 16 = k := ⟨(n % 16).toNat, by omega⟩
  rw [hk] at ha
  have hk16 : k ≤ 15 := by omega
  have hlen := order_len P k
  have hcnt := fun i h => order_count P k i h
  have c1 := Lib.hid fun w' (hg : w.grownBy w' none) => order_c _ P k w' (hsv.same hg) (by omega)
  have c2 := Lib.hid fun w' (hg : w.grownBy w' none) => rorder_c _ P k w' (hsv.same hg) (by omega)
  have c3 := Lib.hid fun w' (hg : w.grownBy w' none) => order_c _ P (-1 - k) w' (hsv.same hg) (by omega)
  rw [Int.toNat_natCast] at c1 c2
  rw [order_neg P (by omega)] at c3
  clear hk hsv
  generalize order P k = O at *
  have c4 := Lib.hid fun v v' w' h h' => sameInts_c v v' O O w' h h'
  rw [show decide (O = O) = true by simp] at c4
  have Hcnt := Lib.hid hcnt
  clear hcnt
  subst hlen
  go_enter Try.func6, Try.ntmps6
  go_wp2_with (first
    | (go_at_call_of 24 (Value.int IntKind.i64 (O.length : Int)); refine (c1.out _ (grownBy_refl _ _)).mono ?_; rintro e w1 ⟨v1, rfl, o1, G1⟩; obtain ⟨oa, oc, rfl⟩ := o1.shape; have R1 := o1.rd; clear o1)
    | (go_at_call 26; refine (c2.out _ G1).mono ?_; rintro e w2 ⟨v2, rfl, o2, G2⟩; have R2 := o2.rd; clear o2)
    | (go_at_call 25; refine (c4.out _ _ _ (R1.same G2) R2).mono ?_; rintro e w3 ⟨rfl, G3⟩; have K3 := grownBy_trans G1 (grownBy_trans G2 G3))
    | (go_at_call 24; refine (c3.out _ K3).mono ?_; rintro e w4 ⟨v4, rfl, o4, G4⟩; obtain ⟨oa4, oc4, rfl⟩ := o4.shape; have K4 := grownBy_trans K3 G4))
  have R4 := R1.same (grownBy_trans (grownBy_trans G2 G3) G4)
  clear c1 c2 c3 c4 ha HV R1 R2 o4 G1 G2 G3 G4 K3
  have hm := R4.2.1
  go_loopw [7] (fun s7 wr => ∃ i : Nat, i ≤ O.length ∧ s7 = .int .i64 i ∧ w4 = wr) (fun s7 _ => O.length - (intOf s7).toNat)
  case atStart => exact ⟨0, Nat.zero_le _, rfl, rfl⟩
  case round =>
    obtain ⟨i, hi, rfl, rfl⟩ := hrel
    by_cases hlt : i < O.length
    · have Hc := Lib.hid (Hcnt.out i hlt)
      go_wp2_with fail
      go_loopw [8, 37] (fun s8 s37 wr => ∃ m : Nat, m ≤ O.length ∧ s37 = .int .i64 m ∧ s8 = .int .i64 ((O.take m).count (i : Int)) ∧ w4 = wr) (fun _ s37 _ => O.length - (intOf s37).toNat)
      case atStart => exact ⟨0, Nat.zero_le _, rfl, rfl, rfl⟩
      case round =>
        obtain ⟨m, hm2, rfl, rfl, rfl⟩ := hrel
        by_cases hlm : m < O.length
        · obtain ⟨g, off, cap, hv, hgl, c0⟩ := R4.one int_one hlm
          cases hv
          have hct := Lib.hid (count_step (x := (i : Int)) hlm)
          have hcl : (O.take m).count (i : Int) ≤ 15 := Nat.le_trans (List.count_le_length) (by simp; omega)
          generalize (O.take m).count (i : Int) = q at *
          generalize O[m] = x at *
          by_cases hx : x = (i : Int)
          · have Hct := Lib.hid (hct.out.trans (by rw [if_pos hx]))
            subst hx
            clear hct
            go_wp2_with fail
            exact ⟨⟨m + 1, by omega, by go_num, by rw [Hct.out]; go_num, trivial⟩, by simp [intOf]; omega⟩
          · have Hct := Lib.hid (hct.out.trans (by rw [if_neg hx]))
            clear hct
            go_wp2_with fail
            exact ⟨⟨m + 1, by omega, by go_num, by rw [Hct.out], trivial⟩, by simp [intOf]; omega⟩
        · have hq : (O.take m).count (i : Int) = 1 := by rw [List.take_of_length_le (by omega)]; exact Hc.out
          rw [hq]
          go_wp2_with fail
          exact ⟨⟨i + 1, by omega, by go_num, trivial⟩, by simp [intOf]; omega⟩
    · have hie : i = O.length := by omega
      subst hie
      go_wp2_with (go_at_call 27; refine (awake_c _).mono ?_; rintro e w6 ⟨rfl, G6⟩)
      go_ret
      exact retBool rfl (grownBy_trans K4 G6)
theorem IsRow.rdL {w : World} {a : Option Addr} {len cap : Nat} {zs : List Int} (h : IsRow .i64 w a len cap zs) : RdL intF 1 w (.slice a len cap) (zs.take len) := by
  have e : (zs.take len).length = len := by
    rcases h with ⟨_, rfl, _, rfl⟩ | ⟨x, _, h1, _, h3, _⟩
    · rfl
    · rw [List.length_take]; omega
  have h2 := h.rd
  unfold RdL
  rw [e, show cellsOf intF (zs.take len) = _ from cells_int _]
  exact h2
end Go.Proofs.Ytiagjiaahnkefaa
