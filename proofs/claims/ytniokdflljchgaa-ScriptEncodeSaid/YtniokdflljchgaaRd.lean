/- Numbers read from bytes: the program and the reference. -/
import Derived.Test.YtniokdflljchgaaRdP
import Derived.Test.YtniokdflljchgaaRet
import Derived.Laws.BitsAllLaws
namespace Go.Proofs.Ytniokdflljchgaa
open Go.RowKit Go.Sort

theorem by_low (b : UInt8) : bits .andNot .u8 (b.toNat : Int) 128 = ((b.toNat % 128 : Nat) : Int) := by
  have key : ∀ m : Fin 256, bits .andNot .u8 (((m.val : Nat) : Int)) 128 = ((m.val % 128 : Nat) : Int) := by decide +kernel
  exact key ⟨b.toNat, b.toNat_lt⟩

theorem or_step (n b i : Nat) (hn : n < 128 ^ i) (hi : i ≤ 9) (h9 : i = 9 → b % 128 ≤ 1) :
    bits .or .u64 (n : Int) (IntKind.u64.wrap ((b : Int) % 128 * 2 ^ (7 * i))) = ((n + b % 128 * 128 ^ i : Nat) : Int) := by
  have e : (2 : Nat) ^ (7 * i) = 128 ^ i := by rw [Nat.pow_mul]
  have hb : b % 128 < 128 := Nat.mod_lt _ (by omega)
  have hs : n + b % 128 * 128 ^ i < 18446744073709551616 := by
    by_cases h : i = 9
    · have := h9 h
      subst h
      have e : (128 : Nat) ^ 9 = 9223372036854775808 := by decide
      rw [e] at hn ⊢; omega
    · have hp : 128 ^ i ≤ 128 ^ 8 := Nat.pow_le_pow_right (by omega) (by omega)
      have e : (128 : Nat) ^ 8 = 72057594037927936 := by decide
      have hq : b % 128 * 128 ^ i ≤ 127 * 128 ^ 8 := Nat.mul_le_mul (by omega) hp
      rw [e] at hp hq
      omega
  have e2 : ((b : Int) % 128 * 2 ^ (7 * i)) = ((b % 128 * 128 ^ i : Nat) : Int) := by
    rw [← e]; simp
  rw [e2, IntWalk.u64_in _ (by omega), u64_or_nat _ _ (by omega) (by omega), Nat.or_comm]
  congr 1
  have := Nat.shiftLeft_add_eq_or_of_lt (show n < 2 ^ (7 * i) by rw [e]; exact hn) (b % 128)
  rw [Nat.shiftLeft_eq, e] at this
  rw [← this]; omega

set_option maxHeartbeats 1000000 in
set_option maxRecDepth 100000 in
theorem read_c (v : Value) (l : List UInt8) (w : World) (h : RdL byF 1 w v l) : Calls Try.prog 72 #[v] w (RetVal (.tuple #[.int .u64 (readF l).1, .int .i64 (readF l).2.1, .int .i64 (readF l).2.2]) w) := by
  obtain ⟨a, c, rfl⟩ := h.shape
  have hm := h.2.1
  have H := Lib.hid h
  have hM := bigs_le 10 l
  have HT := Lib.hid (readF_ten (l := l))
  have HSh := Lib.hid (readF_short (l := l))
  have HBd := Lib.hid (readF_bad (l := l))
  have HOk := Lib.hid (readF_ok (l := l))
  have HL := Lib.hid fun i (h1 : i < bigs 10 l) (h2 : i < l.length) => bigs_lt h1 h2
  have HA := Lib.hid fun (h1 : bigs 10 l < 10) (h2 : bigs 10 l < l.length) => bigs_at h1 h2
  clear h
  generalize readF l = F at *
  generalize bigs 10 l = M at *
  go_enter Try.func72, Try.ntmps72
  go_wp2
  go_loopw [2, 5] (fun s2 s5 wk => ∃ i : Nat, i ≤ M ∧ s5 = .int .i64 i ∧ s2 = .int .u64 (valU (l.take i)) ∧ w.grownBy wk none) (fun _ s5 _ => 10 - (intOf s5).toNat)
  case atStart => exact ⟨0, Nat.zero_le _, rfl, rfl, grownBy_refl _ _⟩
  case round =>
    obtain ⟨i, hi, rfl, rfl, hg⟩ := hrel
    by_cases hil : i < l.length
    · by_cases hi10 : i < 10
      · obtain ⟨g, off, cap, hv, hgl, ci⟩ := (RdL.same H.out hg).one by_one hil
        cases hv
        have hbL := by_low l[i]
        have hbt := (l[i]).toNat_lt
        have hVs : valU (l.take (i + 1)) = valU (l.take i) + l[i].toNat % 128 * 128 ^ i := by
          rw [List.take_succ_eq_append_getElem hil, valU_snoc, List.length_take, Nat.min_eq_left (by omega)]
        have hVl : valU (l.take i) < 128 ^ i := by
          have := valU_lt (l.take i)
          rwa [List.length_take, Nat.min_eq_left (by omega)] at this
        have HX1 := Lib.hid (show 128 ≤ l[i].toNat → i + 1 ≤ M from fun hb => by
          rcases Nat.lt_or_ge i M with h | h
          · omega
          · have e : i = M := by omega
            subst e
            have := HA.out hi10 hil
            omega)
        have HX2 := Lib.hid (show l[i].toNat < 128 ∧ ((i = 9 ∧ 1 < l[i].toNat) ∨ (0 < i ∧ l[i].toNat = 0)) → F = (0, 0, 3) from fun ⟨hb, hc⟩ => by
          rcases Nat.lt_or_ge i M with h | h
          · have := HL.out i h hil; omega
          · have e : i = M := by omega
            subst e
            exact HBd.out (by omega) hil hc)
        have HX3 := Lib.hid (show l[i].toNat < 128 ∧ (i = 9 → l[i].toNat ≤ 1) ∧ (0 < i → l[i].toNat ≠ 0) → F = (valU (l.take (i + 1)), i + 1, 0) from fun ⟨hb, hc, hd⟩ => by
          rcases Nat.lt_or_ge i M with h | h
          · have := HL.out i h hil; omega
          · have e : i = M := by omega
            subst e
            exact HOk.out (by omega) hil (by omega))
        have HX4 := Lib.hid (show i = 9 → 128 ≤ l[i].toNat → F = (0, 0, 3) from fun h9 hb => HT.out (by have := HX1.out hb; omega))
        have HV := Lib.hid hVs
        clear HL HA HT HSh HBd HOk
        generalize l[i] = b at *
        generalize valU (l.take i) = V1 at *
        have hb0 : (0 : Int) ≤ (b.toNat : Int) := by omega
        have hi0 : (0 : Int) ≤ (i : Int) := by omega
        have hil2 : (i : Int) < (l.length : Int) := by omega
        have hi102 : (i : Int) < 10 := by omega
        have hw1 : IntKind.u64.wrap ((b.toNat % 128 : Nat) : Int) = ((b.toNat % 128 : Nat) : Int) := IntWalk.u64_in _ (by omega)
        have hmul : IntKind.i64.wrap (7 * (i : Int)) = 7 * (i : Int) := IntWalk.i64_in _ (by omega)
        clear hVs
        by_cases h9 : i = 9 ∧ 1 < b.toNat % 128
        · have h9a : (9 : Int) ≤ (i : Int) := by omega
          have h9c : (1 : Int) < (b.toNat : Int) % 128 := by omega
          have HF := Lib.hid (show F = (0, 0, 3) by
            by_cases hbig : 128 ≤ b.toNat
            · exact HX4.out h9.1 hbig
            · exact HX2.out ⟨by omega, .inl ⟨h9.1, by omega⟩⟩)
          clear hVl h9
          go_wp2_with fail
          go_ret3
          exact retVal (by rw [HF.out]; rfl) hg
        · have hor := or_step V1 b.toNat i hVl (by omega) (by omega)
          clear hVl
          by_cases h9b : i = 9
          · have h9d : i = 9 → b.toNat % 128 ≤ 1 := by omega
            subst h9b
            have h9c : ¬ (1 : Int) < (b.toNat : Int) % 128 := by omega
            have hor9 : bits .or .u64 (V1 : Int) ((b.toNat : Int) % 128 * 9223372036854775808) = ((V1 + b.toNat % 128 * 128 ^ 9 : Nat) : Int) := by
              rw [← hor]
              congr 1
              rw [IntWalk.u64_in _ (by simp; omega)]
              rfl
            clear hor h9
            by_cases hbig : 128 ≤ b.toNat
            · have hbig2 : (128 : Int) ≤ (b.toNat : Int) := by omega
              have hiM := HX1.out hbig
              clear h9d
              go_wp2_with fail
              exact ⟨⟨9 + 1, hiM, by go_num, by rw [HV.out]; simp, hg⟩, by simp [intOf] <;> omega⟩
            · have hbig2 : (b.toNat : Int) < 128 := by omega
              by_cases hz : b.toNat ≤ 0
              · have hz2 : (b.toNat : Int) ≤ 0 := by omega
                by_cases hi1 : 0 < 9
                · have hi2 : (0 : Int) < ((9 : Nat) : Int) := by omega
                  have HF := Lib.hid (HX2.out ⟨by omega, .inr ⟨hi1, by omega⟩⟩)
                  clear h9d
                  go_wp2_with fail
                  go_ret3
                  exact retVal (by rw [HF.out]; rfl) hg
                · first
                    | (exfalso; omega)
                    | (have hi2 : ¬ (0 : Int) < ((9 : Nat) : Int) := by omega
                       have HF := Lib.hid (HX3.out ⟨by omega, by omega, by omega⟩)
                       clear h9d
                       go_wp2_with fail
                       go_ret3
                       exact retVal (by rw [HF.out, HV.out, show b.toNat = 0 by omega] <;> simp) hg)
              · have hz2 : ¬ ((b.toNat : Int) ≤ 0) := by omega
                have HF := Lib.hid (HX3.out ⟨by omega, by omega, by omega⟩)
                clear h9d
                go_wp2_with fail
                go_ret3
                exact retVal (by rw [HF.out, HV.out] <;> simp) hg
          · have h9a : ¬ (i : Int) = 9 := by omega
            have h9d : i = 9 → b.toNat % 128 ≤ 1 := by omega
            clear h9
            by_cases hbig : 128 ≤ b.toNat
            · have hbig2 : (128 : Int) ≤ (b.toNat : Int) := by omega
              have hiM := HX1.out hbig
              clear h9d
              go_wp2_with fail
              exact ⟨⟨i + 1, hiM, by go_num, by rw [HV.out]; simp, hg⟩, by simp [intOf] <;> omega⟩
            · have hbig2 : (b.toNat : Int) < 128 := by omega
              by_cases hz : b.toNat ≤ 0
              · have hz2 : (b.toNat : Int) ≤ 0 := by omega
                by_cases hi1 : 0 < i
                · have hi2 : (0 : Int) < ((i : Nat) : Int) := by omega
                  have HF := Lib.hid (HX2.out ⟨by omega, .inr ⟨hi1, by omega⟩⟩)
                  clear h9d
                  go_wp2_with fail
                  go_ret3
                  exact retVal (by rw [HF.out]; rfl) hg
                · first
                    | (exfalso; omega)
                    | (have hi2 : ¬ (0 : Int) < ((i : Nat) : Int) := by omega
                       have HF := Lib.hid (HX3.out ⟨by omega, by omega, by omega⟩)
                       clear h9d
                       go_wp2_with fail
                       go_ret3
                       exact retVal (by rw [HF.out, HV.out, show b.toNat = 0 by omega] <;> simp) hg)
              · have hz2 : ¬ ((b.toNat : Int) ≤ 0) := by omega
                have HF := Lib.hid (HX3.out ⟨by omega, by omega, by omega⟩)
                clear h9d
                go_wp2_with fail
                go_ret3
                exact retVal (by rw [HF.out, HV.out] <;> simp) hg
      · obtain rfl : i = 10 := by omega
        have HF := Lib.hid (HT.out (by omega))
        have h1 : ¬ ((l.length : Int) < 10) := by omega
        have h2 : (10 : Int) < (l.length : Int) := by omega
        go_wp2_with fail
        go_ret3
        exact retVal (by rw [HF.out]; rfl) hg
    · have hil2 : ¬ ((i : Int) < (l.length : Int)) := by omega
      by_cases hs : l.length < 10
      · have h1 : (l.length : Int) < 10 := by omega
        have HF := Lib.hid (HSh.out (by omega) (by omega))
        go_wp2_with fail
        go_ret3
        exact retVal (by rw [HF.out]; rfl) hg
      · have h1 : ¬ ((l.length : Int) < 10) := by omega
        have HF := Lib.hid (HT.out (by omega))
        go_wp2_with fail
        go_ret3
        exact retVal (by rw [HF.out]; rfl) hg
end Go.Proofs.Ytniokdflljchgaa
