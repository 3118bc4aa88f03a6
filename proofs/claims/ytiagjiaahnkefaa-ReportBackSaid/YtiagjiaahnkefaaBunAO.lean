/- Several texts in one file; each begins with a comment that says what is proved in it. -/
import Derived.Test.YtiagjiaahnkefaaBunAM
import Derived.Test.YtiagjiaahnkefaaBunAA
import Derived.Laws.BitsAllLaws
import Derived.Test.YtiagjiaahnkefaaBunAC
import Derived.Test.YtiagjiaahnkefaaBunAB
import Derived.Laws.BytesArg
import Derived.Test.YtiagjiaahnkefaaBunAN

/- Numbers read from bytes: plain. -/
namespace Go.Proofs.Ytiagjiaahnkefaa
open Go.RowKit

/-- How many bytes ahead say that more follow; at most f. -/
def bigs : Nat → List UInt8 → Nat
  | 0, _ => 0
  | _, [] => 0
  | f + 1, b :: l => if 128 ≤ b.toNat then bigs f l + 1 else 0
theorem bigs_le : ∀ (f : Nat) (l : List UInt8), bigs f l ≤ f ∧ bigs f l ≤ l.length
  | 0, _ => by simp [bigs]
  | f + 1, [] => by simp [bigs]
  | f + 1, b :: l => by
    have := bigs_le f l
    simp only [bigs]
    split
    · simp; omega
    · simp
theorem bigs_lt : ∀ {f : Nat} {l : List UInt8} {i : Nat} (_ : i < bigs f l) (h : i < l.length), 128 ≤ l[i].toNat
  | 0, _, _, h, _ => by simp [bigs] at h
  | f + 1, [], _, h, _ => by simp [bigs] at h
  | f + 1, b :: l, 0, h, _ => by
    simp only [bigs] at h
    split at h
    · simpa
    · omega
  | f + 1, b :: l, i + 1, h, hl => by
    simp only [bigs] at h
    split at h
    · have := bigs_lt (f := f) (l := l) (i := i) (by omega) (by simpa using hl)
      simpa using this
    · omega
theorem bigs_at : ∀ {f : Nat} {l : List UInt8} (_ : bigs f l < f) (h : bigs f l < l.length), l[bigs f l].toNat < 128
  | 0, _, h, _ => by omega
  | f + 1, [], _, h => by simp at h
  | f + 1, b :: l, h, hl => by
    by_cases hb : 128 ≤ b.toNat
    · have e : bigs (f + 1) (b :: l) = bigs f l + 1 := by simp [bigs, hb]
      have := bigs_at (f := f) (l := l) (by omega) (by rw [e] at hl; simpa using hl)
      simpa [e] using this
    · have e : bigs (f + 1) (b :: l) = 0 := by simp [bigs, hb]
      simp only [e, List.getElem_cons_zero]; omega
/-- The number in groups of seven bits. -/
def valU : List UInt8 → Nat
  | [] => 0
  | b :: l => b.toNat % 128 + 128 * valU l
theorem valU_snoc (l : List UInt8) (b : UInt8) : valU (l ++ [b]) = valU l + b.toNat % 128 * 128 ^ l.length := by
  induction l with
  | nil => simp [valU]
  | cons a l ih =>
    simp only [List.cons_append, valU, ih, List.length_cons, Nat.pow_succ]
    rw [Nat.mul_add, Nat.add_assoc]
    congr 2
    rw [Nat.mul_comm (128 ^ l.length) 128, ← Nat.mul_assoc, ← Nat.mul_assoc, Nat.mul_comm 128]
theorem valU_lt (l : List UInt8) : valU l < 128 ^ l.length := by
  induction l with
  | nil => simp [valU]
  | cons b l ih =>
    simp only [valU, List.length_cons, Nat.pow_succ]
    have : b.toNat % 128 < 128 := Nat.mod_lt _ (by omega)
    omega
/-- The number at the beginning, how many bytes it has, the error. -/
def readF (l : List UInt8) : Nat × Nat × Int :=
  if bigs 10 l = 10 then (0, 0, 3)
  else match l[bigs 10 l]? with
    | none => (0, 0, 2)
    | some b => if (bigs 10 l = 9 ∧ 1 < b.toNat) ∨ (0 < bigs 10 l ∧ b.toNat = 0) then (0, 0, 3) else (valU (l.take (bigs 10 l + 1)), bigs 10 l + 1, 0)
theorem readF_ten {l : List UInt8} (h : bigs 10 l = 10) : readF l = (0, 0, 3) := by unfold readF; rw [if_pos h]
theorem readF_short {l : List UInt8} (h : bigs 10 l ≠ 10) (h2 : l.length = bigs 10 l) : readF l = (0, 0, 2) := by
  unfold readF; rw [if_neg h, List.getElem?_eq_none (by omega)]
theorem readF_bad {l : List UInt8} (h : bigs 10 l ≠ 10) (h2 : bigs 10 l < l.length) (h3 : (bigs 10 l = 9 ∧ 1 < l[bigs 10 l].toNat) ∨ (0 < bigs 10 l ∧ l[bigs 10 l].toNat = 0)) : readF l = (0, 0, 3) := by
  unfold readF; rw [if_neg h, List.getElem?_eq_getElem h2]; simp only; rw [if_pos h3]
theorem readF_ok {l : List UInt8} (h : bigs 10 l ≠ 10) (h2 : bigs 10 l < l.length) (h3 : ¬ ((bigs 10 l = 9 ∧ 1 < l[bigs 10 l].toNat) ∨ (0 < bigs 10 l ∧ l[bigs 10 l].toNat = 0))) : readF l = (valU (l.take (bigs 10 l + 1)), bigs 10 l + 1, 0) := by
  unfold readF; rw [if_neg h, List.getElem?_eq_getElem h2]; simp only; rw [if_neg h3]
theorem readF_used (l : List UInt8) : (readF l).2.1 ≤ l.length := by
  unfold readF
  split
  · simp
  · split
    · simp
    · rename_i b hb
      have := (List.getElem?_eq_some_iff.1 hb).1
      split <;> simp; omega
theorem readF_w (l : List UInt8) : (readF l).1 < 18446744073709551616 := by
  by_cases h : bigs 10 l = 10
  · rw [readF_ten h]; simp
  by_cases h2 : bigs 10 l < l.length
  · by_cases h3 : (bigs 10 l = 9 ∧ 1 < l[bigs 10 l].toNat) ∨ (0 < bigs 10 l ∧ l[bigs 10 l].toNat = 0)
    · rw [readF_bad h h2 h3]; simp
    · rw [readF_ok h h2 h3]
      show valU (l.take (bigs 10 l + 1)) < _
      rw [List.take_succ_eq_append_getElem h2, valU_snoc]
      have hb := bigs_le 10 l
      have hb9 : bigs 10 l = 9 → l[bigs 10 l].toNat ≤ 1 := fun h9 => Nat.le_of_not_lt fun hc => h3 (.inl ⟨h9, hc⟩)
      clear h3
      have hv := valU_lt (l.take (bigs 10 l))
      have hl : (l.take (bigs 10 l)).length = bigs 10 l := by rw [List.length_take]; omega
      rw [hl] at hv ⊢
      generalize l[bigs 10 l] = b at *
      generalize valU (l.take (bigs 10 l)) = V at *
      have hbl : b.toNat % 128 < 128 := Nat.mod_lt _ (by omega)
      generalize bigs 10 l = m at *
      by_cases h9 : m = 9
      · have hb1 := hb9 h9
        subst h9
        have e : (128 : Nat) ^ 9 = 9223372036854775808 := by decide
        rw [Nat.mod_eq_of_lt (show b.toNat < 128 by omega)]
        rw [e] at hv ⊢
        omega
      · have hp : 128 ^ m ≤ 128 ^ 8 := Nat.pow_le_pow_right (by omega) (by omega)
        have e : (128 : Nat) ^ 8 = 72057594037927936 := by decide
        have hq : b.toNat % 128 * 128 ^ m ≤ 127 * 128 ^ 8 := Nat.mul_le_mul (by omega) hp
        rw [e] at hp hq
        omega
  · rw [readF_short h (by have := bigs_le 10 l; omega)]; simp
end Go.Proofs.Ytiagjiaahnkefaa

/- Numbers read from bytes: the program and the reference. -/
namespace Go.Proofs.Ytiagjiaahnkefaa
open Go.RowKit Go.Sort

theorem by_low (b : UInt8) : bits .andNot .u8 (b.toNat : Int) 128 = ((b.toNat % 128 : Nat) : Int) := by
  have key : ∀ m : Fin 256, bits .andNot .u8 (((m.val : Nat) : Int)) 128 = ((m.val % 128 : Nat) : Int) := by decide +kernel
  exact key ⟨b.toNat, b.toNat_lt⟩

theorem or_step (n b i : Nat) (hn : n < 128 ^ i) (hi : i ≤ 9) (h9 : i = 9 → b % 128 ≤ 1) :
    bits .or .u64 (n : Int) (IntKind.u64.wrap ((b : Int) % 128 * 2 ^ (7 * i))) = ((n + b % 128 * 128 ^ i : Nat) : Int) := by
  have e : (2 : Nat) ^ (7 * i) = 128 ^ i := by rw [Nat.pow_mul]
  have hb : b % 128 < 128 := Nat.mod_lt _ (by omega)
  have hs : n + b % 128 * 128 ^ i < 18446744073709551616 := by
    by_cases h : i = 9
    · have := h9 h
      subst h
      have e : (128 : Nat) ^ 9 = 9223372036854775808 := by decide
      rw [e] at hn ⊢; omega
    · have hp : 128 ^ i ≤ 128 ^ 8 := Nat.pow_le_pow_right (by omega) (by omega)
      have e : (128 : Nat) ^ 8 = 72057594037927936 := by decide
      have hq : b % 128 * 128 ^ i ≤ 127 * 128 ^ 8 := Nat.mul_le_mul (by omega) hp
      rw [e] at hp hq
      omega
  have e2 : ((b : Int) % 128 * 2 ^ (7 * i)) = ((b % 128 * 128 ^ i : Nat) : Int) := by
    rw [← e]; simp
  rw [e2, IntWalk.u64_in _ (by omega), u64_or_nat _ _ (by omega) (by omega), Nat.or_comm]
  congr 1
  have := Nat.shiftLeft_add_eq_or_of_lt (show n < 2 ^ (7 * i) by rw [e]; exact hn) (b % 128)
  rw [Nat.shiftLeft_eq, e] at this
  rw [← this]; omega

set_option maxHeartbeats 1000000 in
set_option maxRecDepth 100000 in
theorem read_c (v : Value) (l : List UInt8) (w : World) (h : RdL byF 1 w v l) : Calls Try.prog 98 #[v] w (RetVal (.tuple #[.int .u64 (readF l).1, .int .i64 (readF l).2.1, .int .i64 (readF l).2.2]) w) := by
  obtain ⟨a, c, rfl⟩ := h.shape
  have hm := h.2.1
  have H := Lib.hid h
  have hM := bigs_le 10 l
  have HT := Lib.hid (readF_ten (l := l))
  have HSh := Lib.hid (readF_short (l := l))
  have HBd := Lib.hid (readF_bad (l := l))
  have HOk := Lib.hid (readF_ok (l := l))
  have HL := Lib.hid fun i (h1 : i < bigs 10 l) (h2 : i < l.length) => bigs_lt h1 h2
  have HA := Lib.hid fun (h1 : bigs 10 l < 10) (h2 : bigs 10 l < l.length) => bigs_at h1 h2
  clear h
  generalize readF l = F at *
  generalize bigs 10 l = M at *
  go_enter Try.func98, Try.ntmps98
  go_wp2
  go_loopw [2, 5] (fun s2 s5 wk => ∃ i : Nat, i ≤ M ∧ s5 = .int .i64 i ∧ s2 = .int .u64 (valU (l.take i)) ∧ w.grownBy wk none) (fun _ s5 _ => 10 - (intOf s5).toNat)
  case atStart => exact ⟨0, Nat.zero_le _, rfl, rfl, grownBy_refl _ _⟩
  case round =>
    obtain ⟨i, hi, rfl, rfl, hg⟩ := hrel
    by_cases hil : i < l.length
    · by_cases hi10 : i < 10
      · obtain ⟨g, off, cap, hv, hgl, ci⟩ := (RdL.same H.out hg).one by_one hil
        cases hv
        have hbL := by_low l[i]
        have hbt := (l[i]).toNat_lt
        have hVs : valU (l.take (i + 1)) = valU (l.take i) + l[i].toNat % 128 * 128 ^ i := by
          rw [List.take_succ_eq_append_getElem hil, valU_snoc, List.length_take, Nat.min_eq_left (by omega)]
        have hVl : valU (l.take i) < 128 ^ i := by
          have := valU_lt (l.take i)
          rwa [List.length_take, Nat.min_eq_left (by omega)] at this
        have HX1 := Lib.hid (show 128 ≤ l[i].toNat → i + 1 ≤ M from fun hb => by
          rcases Nat.lt_or_ge i M with h | h
          · omega
          · have e : i = M := by omega
            subst e
            have := HA.out hi10 hil
            omega)
        have HX2 := Lib.hid (show l[i].toNat < 128 ∧ ((i = 9 ∧ 1 < l[i].toNat) ∨ (0 < i ∧ l[i].toNat = 0)) → F = (0, 0, 3) from fun ⟨hb, hc⟩ => by
          rcases Nat.lt_or_ge i M with h | h
          · have := HL.out i h hil; omega
          · have e : i = M := by omega
            subst e
            exact HBd.out (by omega) hil hc)
        have HX3 := Lib.hid (show l[i].toNat < 128 ∧ (i = 9 → l[i].toNat ≤ 1) ∧ (0 < i → l[i].toNat ≠ 0) → F = (valU (l.take (i + 1)), i + 1, 0) from fun ⟨hb, hc, hd⟩ => by
          rcases Nat.lt_or_ge i M with h | h
          · have := HL.out i h hil; omega
          · have e : i = M := by omega
            subst e
            exact HOk.out (by omega) hil (by omega))
        have HX4 := Lib.hid (show i = 9 → 128 ≤ l[i].toNat → F = (0, 0, 3) from fun h9 hb => HT.out (by have := HX1.out hb; omega))
        have HV := Lib.hid hVs
        clear HL HA HT HSh HBd HOk
        generalize l[i] = b at *
        generalize valU (l.take i) = V1 at *
        have hb0 : (0 : Int) ≤ (b.toNat : Int) := by omega
        have hi0 : (0 : Int) ≤ (i : Int) := by omega
        have hil2 : (i : Int) < (l.length : Int) := by omega
        have hi102 : (i : Int) < 10 := by omega
        have hw1 : IntKind.u64.wrap ((b.toNat % 128 : Nat) : Int) = ((b.toNat % 128 : Nat) : Int) := IntWalk.u64_in _ (by omega)
        have hmul : IntKind.i64.wrap (7 * (i : Int)) = 7 * (i : Int) := IntWalk.i64_in _ (by omega)
        clear hVs
        by_cases h9 : i = 9 ∧ 1 < b.toNat % 128
        · have h9a : (9 : Int) ≤ (i : Int) := by omega
          have h9c : (1 : Int) < (b.toNat : Int) % 128 := by omega
          have HF := Lib.hid (show F = (0, 0, 3) by
            by_cases hbig : 128 ≤ b.toNat
            · exact HX4.out h9.1 hbig
            · exact HX2.out ⟨by omega, .inl ⟨h9.1, by omega⟩⟩)
          clear hVl h9
          go_wp2_with fail
          go_ret3
          exact retVal (by rw [HF.out]; rfl) hg
        · have hor := or_step V1 b.toNat i hVl (by omega) (by omega)
          clear hVl
          by_cases h9b : i = 9
          · have h9d : i = 9 → b.toNat % 128 ≤ 1 := by omega
            subst h9b
            have h9c : ¬ (1 : Int) < (b.toNat : Int) % 128 := by omega
            have hor9 : bits .or .u64 (V1 : Int) ((b.toNat : Int) % 128 * 9223372036854775808) = ((V1 + b.toNat % 128 * 128 ^ 9 : Nat) : Int) := by
              rw [← hor]
              congr 1
              rw [IntWalk.u64_in _ (by simp; omega)]
              rfl
            clear hor h9
            by_cases hbig : 128 ≤ b.toNat
            · have hbig2 : (128 : Int) ≤ (b.toNat : Int) := by omega
              have hiM := HX1.out hbig
              clear h9d
              go_wp2_with fail
              exact ⟨⟨9 + 1, hiM, by go_num, by rw [HV.out]; simp, hg⟩, by simp [intOf] <;> omega⟩
            · have hbig2 : (b.toNat : Int) < 128 := by omega
              by_cases hz : b.toNat ≤ 0
              · have hz2 : (b.toNat : Int) ≤ 0 := by omega
                by_cases hi1 : 0 < 9
                · have hi2 : (0 : Int) < ((9 : Nat) : Int) := by omega
                  have HF := Lib.hid (HX2.out ⟨by omega, .inr ⟨hi1, by omega⟩⟩)
                  clear h9d
                  go_wp2_with fail
                  go_ret3
                  exact retVal (by rw [HF.out]; rfl) hg
                · first
                    | (exfalso; omega)
                    | (have hi2 : ¬ (0 : Int) < ((9 : Nat) : Int) := by omega
                       have HF := Lib.hid (HX3.out ⟨by omega, by omega, by omega⟩)
                       clear h9d
                       go_wp2_with fail
                       go_ret3
                       exact retVal (by rw [HF.out, HV.out, show b.toNat = 0 by omega] <;> simp) hg)
              · have hz2 : ¬ ((b.toNat : Int) ≤ 0) := by omega
                have HF := Lib.hid (HX3.out ⟨by omega, by omega, by omega⟩)
                clear h9d
                go_wp2_with fail
                go_ret3
                exact retVal (by rw [HF.out, HV.out] <;> simp) hg
          · have h9a : ¬ (i : Int) = 9 := by omega
            have h9d : i = 9 → b.toNat % 128 ≤ 1 := by omega
            clear h9
            by_cases hbig : 128 ≤ b.toNat
            · have hbig2 : (128 : Int) ≤ (b.toNat : Int) := by omega
              have hiM := HX1.out hbig
              clear h9d
              go_wp2_with fail
              exact ⟨⟨i + 1, hiM, by go_num, by rw [HV.out]; simp, hg⟩, by simp [intOf] <;> omega⟩
            · have hbig2 : (b.toNat : Int) < 128 := by omega
              by_cases hz : b.toNat ≤ 0
              · have hz2 : (b.toNat : Int) ≤ 0 := by omega
                by_cases hi1 : 0 < i
                · have hi2 : (0 : Int) < ((i : Nat) : Int) := by omega
                  have HF := Lib.hid (HX2.out ⟨by omega, .inr ⟨hi1, by omega⟩⟩)
                  clear h9d
                  go_wp2_with fail
                  go_ret3
                  exact retVal (by rw [HF.out]; rfl) hg
                · first
                    | (exfalso; omega)
                    | (have hi2 : ¬ (0 : Int) < ((i : Nat) : Int) := by omega
                       have HF := Lib.hid (HX3.out ⟨by omega, by omega, by omega⟩)
                       clear h9d
                       go_wp2_with fail
                       go_ret3
                       exact retVal (by rw [HF.out, HV.out, show b.toNat = 0 by omega] <;> simp) hg)
              · have hz2 : ¬ ((b.toNat : Int) ≤ 0) := by omega
                have HF := Lib.hid (HX3.out ⟨by omega, by omega, by omega⟩)
                clear h9d
                go_wp2_with fail
                go_ret3
                exact retVal (by rw [HF.out, HV.out] <;> simp) hg
      · obtain rfl : i = 10 := by omega
        have HF := Lib.hid (HT.out (by omega))
        have h1 : ¬ ((l.length : Int) < 10) := by omega
        have h2 : (10 : Int) < (l.length : Int) := by omega
        go_wp2_with fail
        go_ret3
        exact retVal (by rw [HF.out]; rfl) hg
    · have hil2 : ¬ ((i : Int) < (l.length : Int)) := by omega
      by_cases hs : l.length < 10
      · have h1 : (l.length : Int) < 10 := by omega
        have HF := Lib.hid (HSh.out (by omega) (by omega))
        go_wp2_with fail
        go_ret3
        exact retVal (by rw [HF.out]; rfl) hg
      · have h1 : ¬ ((l.length : Int) < 10) := by omega
        have HF := Lib.hid (HT.out (by omega))
        go_wp2_with fail
        go_ret3
        exact retVal (by rw [HF.out]; rfl) hg
end Go.Proofs.Ytiagjiaahnkefaa

/- Numbers read from bytes: the reference. -/
namespace Go.Proofs.Ytiagjiaahnkefaa
open Go.RowKit Go.Sort

theorem valU_drop (l : List UInt8) (k : Nat) : valU (l.drop k) ≤ valU l := by
  induction l generalizing k with
  | nil => simp
  | cons b l ih =>
    cases k with
    | zero => simp
    | succ k =>
      have := ih k
      simp only [List.drop_succ_cons, valU]; omega

set_option maxHeartbeats 1000000 in
set_option maxRecDepth 100000 in
theorem rread_c (v : Value) (l : List UInt8) (w : World) (h : RdL byF 1 w v l) : Calls Try.prog 99 #[v] w (RetVal (.tuple #[.int .u64 (readF l).1, .int .i64 (readF l).2.1, .int .i64 (readF l).2.2]) w) := by
  obtain ⟨a, c, rfl⟩ := h.shape
  have hm := h.2.1
  have H := Lib.hid h
  have hM := bigs_le 10 l
  have HT := Lib.hid (readF_ten (l := l))
  have HSh := Lib.hid (readF_short (l := l))
  have HBd := Lib.hid (readF_bad (l := l))
  have HOk := Lib.hid (readF_ok (l := l))
  have HW := Lib.hid (readF_w l)
  have HL := Lib.hid fun i (h1 : i < bigs 10 l) (h2 : i < l.length) => bigs_lt h1 h2
  have HA := Lib.hid fun (h1 : bigs 10 l < 10) (h2 : bigs 10 l < l.length) => bigs_at h1 h2
  clear h
  generalize readF l = F at *
  generalize bigs 10 l = M at *
  go_enter Try.func99, Try.ntmps99
  go_wp2
  go_loopw [5] (fun s5 wk => ∃ i : Nat, i ≤ M ∧ s5 = .int .i64 i ∧ w.grownBy wk none) (fun s5 _ => 10 - (intOf s5).toNat)
  case atStart => exact ⟨0, Nat.zero_le _, rfl, grownBy_refl _ _⟩
  case round =>
    obtain ⟨i, hi, rfl, hg⟩ := hrel
    by_cases hiM : i < M
    · have hil : i < l.length := by omega
      obtain ⟨g, off, cap, hv, hgl, ci⟩ := (RdL.same H.out hg).one by_one hil
      cases hv
      have hb := HL.out i hiM hil
      have hb2 : (128 : Int) ≤ (l[i].toNat : Int) := by omega
      generalize l[i] = b at *
      have hi0 : (0 : Int) ≤ (i : Int) := by omega
      have hil2 : (i : Int) < (l.length : Int) := by omega
      have hi102 : (i : Int) < 10 := by omega
      go_wp2_with fail
      exact ⟨⟨i + 1, by omega, by go_num, hg⟩, by simp [intOf]; omega⟩
    · obtain rfl : i = M := by omega
      by_cases h10 : i = 10
      · have HF := Lib.hid (HT.out h10)
        subst h10
        by_cases hl : 10 < l.length
        · have hl2 : (10 : Int) < (l.length : Int) := by omega
          go_wp2_with fail
          go_ret3
          exact retVal (by rw [HF.out]; rfl) hg
        · have hl2 : ¬ (10 : Int) < (l.length : Int) := by omega
          go_wp2_with fail
          go_ret3
          exact retVal (by rw [HF.out]; rfl) hg
      · by_cases hil : i < l.length
        · obtain ⟨g, off, cap, hv, hgl, ci⟩ := (RdL.same H.out hg).one by_one hil
          cases hv
          have hb := HA.out (by omega) hil
          have hb2 : (l[i].toNat : Int) < 128 := by omega
          have hb0 : (0 : Int) ≤ (l[i].toNat : Int) := by omega
          by_cases hbad : (i = 9 ∧ 1 < l[i].toNat) ∨ (0 < i ∧ l[i].toNat = 0)
          · have HF := Lib.hid (HBd.out (by omega) hil hbad)
            rcases hbad with ⟨h9, h1⟩ | ⟨h0, h1⟩
            · subst h9
              have h1' : (1 : Int) < (l[9].toNat : Int) := by omega
              have hl9 : (9 : Int) < (l.length : Int) := by omega
              clear h10 hb h1 HW HOk HBd HA HL HSh HT
              generalize l[9] = b at *
              go_wp2_with fail
              go_ret3
              exact retVal (by rw [HF.out]; rfl) hg
            · have h1' : (l[i].toNat : Int) ≤ 0 := by omega
              have hbz : ((l[i].toNat : Int) == 0) = true := by rw [beq_iff_eq]; omega
              have hi0 : (0 : Int) < (i : Int) := by omega
              have hil2 : (i : Int) < (l.length : Int) := by omega
              have hi102 : (i : Int) < 10 := by omega
              clear h10 hb h1 HW HOk HBd HA HL HSh HT
              by_cases h9 : i = 9
              · subst h9
                generalize l[9] = b at *
                go_wp2_with fail
                go_ret3
                exact retVal (by rw [HF.out]; rfl) hg
              · have h9' : ¬ ((i : Int) = 9) := by omega
                generalize l[i] = b at *
                go_wp2_with fail
                go_ret3
                exact retVal (by rw [HF.out]; rfl) hg
          · have hil2 : (i : Int) < (l.length : Int) := by omega
            have hi102 : (i : Int) < 10 := by omega
            by_cases h9 : i = 9
            · subst h9
              have h1' : ¬ (1 : Int) < (l[9].toNat : Int) := by omega
              have h1'' : ((l[9].toNat : Int) == 0) = false := by rw [beq_eq_false_iff_ne]; omega
              have HF := Lib.hid (HOk.out (by omega) hil (by omega))
              have hTw := HW.out
              rw [HF.out] at hTw
              have HTw := Lib.hid (show valU (l.take (9 + 1)) < 18446744073709551616 from hTw)
              clear hTw
              go_wp2_with fail
              go_loopw [2, 6] (fun s2 s6 wk => ∃ j : Nat, j ≤ 9 + 1 ∧ s6 = .int .i64 ((9 : Nat) - (j : Int)) ∧ s2 = .int .u64 (valU ((l.take (9 + 1)).drop (9 + 1 - j))) ∧ w.grownBy wk none) (fun _ s6 _ => ((intOf s6) + 1).toNat)
              case atStart => exact ⟨0, Nat.zero_le _, by go_num, by rw [List.drop_of_length_le (by rw [List.length_take]; omega)]; rfl, hg⟩
              case round =>
                obtain ⟨j, hj, rfl, rfl, hgj⟩ := hrel
                by_cases hjM : j ≤ 9
                · have hk : 9 - j < l.length := by omega
                  obtain ⟨g2, off2, cap2, hv2, hgl2, cj⟩ := (RdL.same H.out hgj).one by_one hk
                  cases hv2
                  have hst : (l.take (9 + 1)).drop (9 + 1 - (j + 1)) = l[9 - j] :: (l.take (9 + 1)).drop (9 + 1 - j) := by
                    rw [show 9 + 1 - (j + 1) = 9 - j by omega, List.drop_eq_getElem_cons (by rw [List.length_take]; omega)]
                    congr 1
                    · simp
                    · congr 1; omega
                  have hle := valU_drop (l.take (9 + 1)) (9 + 1 - (j + 1))
                  rw [hst] at hle
                  have HST := Lib.hid hst
                  have hTw := HTw.out
                  have hbt := (l[9 - j]).toNat_lt
                  simp only [valU] at hle
                  have hw1 : IntKind.u64.wrap (((l[9 - j]).toNat : Int) % 128) = ((l[9 - j]).toNat : Int) % 128 := IntWalk.u64_in _ (by omega)
                  have hw2 : IntKind.u64.wrap ((valU ((l.take (9 + 1)).drop (9 + 1 - j)) : Int) * 128) = (valU ((l.take (9 + 1)).drop (9 + 1 - j)) : Int) * 128 := IntWalk.u64_in _ (by omega)
                  have hw3 : IntKind.u64.wrap ((valU ((l.take (9 + 1)).drop (9 + 1 - j)) : Int) * 128 + ((l[9 - j]).toNat : Int) % 128) = (valU ((l.take (9 + 1)).drop (9 + 1 - j)) : Int) * 128 + ((l[9 - j]).toNat : Int) % 128 := IntWalk.u64_in _ (by omega)
                  have hij : ((9 : Nat) : Int) - (j : Int) = ((9 - j : Nat) : Int) := by omega
                  rw [hij]
                  have HIJ := Lib.hid hij
                  clear hst hle hTw hij
                  obtain ⟨V1, hV1⟩ : ∃ V1, valU ((l.take (9 + 1)).drop (9 + 1 - j)) = V1 := ⟨_, rfl⟩
                  rw [hV1] at hw2 hw3 ⊢
                  have HV1 := Lib.hid hV1
                  clear hV1
                  generalize l[9 - j] = b2 at *
                  (try rw [Nat.zero_sub, Nat.add_zero] at cj)
                  have hk0 : (0 : Int) ≤ ((9 - j : Nat) : Int) := by omega
                  have hk1 : ((9 - j : Nat) : Int) < (l.length : Int) := by omega
                  go_wp2_with fail
                  exact ⟨⟨j + 1, by omega, congrArg _ (by omega), congrArg _ (by rw [HST.out]; simp only [valU]; rw [HV1.out]; omega), hgj⟩, by simp [intOf] <;> omega⟩
                · obtain rfl : j = 9 + 1 := by omega
                  have hz : ((9 : Nat) : Int) - ((9 + 1 : Nat) : Int) = -1 := by omega
                  rw [hz]
                  clear hz
                  go_wp2_with fail
                  go_ret3
                  exact retVal (by rw [HF.out]; simp) hgj
            · have h9' : ¬ ((i : Int) = 9) := by omega
              by_cases h0 : i = 0
              · subst h0
                rw [Nat.add_zero] at ci
                have HF := Lib.hid (HOk.out (by omega) hil (by omega))
                have hTw := HW.out
                rw [HF.out] at hTw
                have HTw := Lib.hid (show valU (l.take (0 + 1)) < 18446744073709551616 from hTw)
                clear hTw
                go_wp2_with fail
                go_loopw [2, 6] (fun s2 s6 wk => ∃ j : Nat, j ≤ 0 + 1 ∧ s6 = .int .i64 ((0 : Nat) - (j : Int)) ∧ s2 = .int .u64 (valU ((l.take (0 + 1)).drop (0 + 1 - j))) ∧ w.grownBy wk none) (fun _ s6 _ => ((intOf s6) + 1).toNat)
                case atStart => exact ⟨0, Nat.zero_le _, by go_num, by rw [List.drop_of_length_le (by rw [List.length_take]; omega)]; rfl, hg⟩
                case round =>
                  obtain ⟨j, hj, rfl, rfl, hgj⟩ := hrel
                  by_cases hjM : j ≤ 0
                  · have hk : 0 - j < l.length := by omega
                    obtain ⟨g2, off2, cap2, hv2, hgl2, cj⟩ := (RdL.same H.out hgj).one by_one hk
                    cases hv2
                    have hst : (l.take (0 + 1)).drop (0 + 1 - (j + 1)) = l[0 - j] :: (l.take (0 + 1)).drop (0 + 1 - j) := by
                      rw [show 0 + 1 - (j + 1) = 0 - j by omega, List.drop_eq_getElem_cons (by rw [List.length_take]; omega)]
                      congr 1
                      · simp
                      · congr 1; omega
                    have hle := valU_drop (l.take (0 + 1)) (0 + 1 - (j + 1))
                    rw [hst] at hle
                    have HST := Lib.hid hst
                    have hTw := HTw.out
                    have hbt := (l[0 - j]).toNat_lt
                    simp only [valU] at hle
                    have hw1 : IntKind.u64.wrap (((l[0 - j]).toNat : Int) % 128) = ((l[0 - j]).toNat : Int) % 128 := IntWalk.u64_in _ (by omega)
                    have hw2 : IntKind.u64.wrap ((valU ((l.take (0 + 1)).drop (0 + 1 - j)) : Int) * 128) = (valU ((l.take (0 + 1)).drop (0 + 1 - j)) : Int) * 128 := IntWalk.u64_in _ (by omega)
                    have hw3 : IntKind.u64.wrap ((valU ((l.take (0 + 1)).drop (0 + 1 - j)) : Int) * 128 + ((l[0 - j]).toNat : Int) % 128) = (valU ((l.take (0 + 1)).drop (0 + 1 - j)) : Int) * 128 + ((l[0 - j]).toNat : Int) % 128 := IntWalk.u64_in _ (by omega)
                    have hij : ((0 : Nat) : Int) - (j : Int) = ((0 - j : Nat) : Int) := by omega
                    rw [hij]
                    have HIJ := Lib.hid hij
                    clear hst hle hTw hij
                    obtain ⟨V1, hV1⟩ : ∃ V1, valU ((l.take (0 + 1)).drop (0 + 1 - j)) = V1 := ⟨_, rfl⟩
                    rw [hV1] at hw2 hw3 ⊢
                    have HV1 := Lib.hid hV1
                    clear hV1
                    generalize l[0 - j] = b2 at *
                    (try rw [Nat.zero_sub, Nat.add_zero] at cj)
                    have hk0 : (0 : Int) ≤ ((0 - j : Nat) : Int) := by omega
                    have hk1 : ((0 - j : Nat) : Int) < (l.length : Int) := by omega
                    go_wp2_with fail
                    exact ⟨⟨j + 1, by omega, congrArg _ (by omega), congrArg _ (by rw [HST.out]; simp only [valU]; rw [HV1.out]; omega), hgj⟩, by simp [intOf] <;> omega⟩
                  · obtain rfl : j = 0 + 1 := by omega
                    have hz : ((0 : Nat) : Int) - ((0 + 1 : Nat) : Int) = -1 := by omega
                    rw [hz]
                    clear hz
                    go_wp2_with fail
                    go_ret3
                    exact retVal (by rw [HF.out]; simp) hgj
              · have h0' : (0 : Int) < (i : Int) := by omega
                have h1'' : ((l[i].toNat : Int) == 0) = false := by rw [beq_eq_false_iff_ne]; omega
                have HF := Lib.hid (HOk.out (by omega) hil (by omega))
                have hTw := HW.out
                rw [HF.out] at hTw
                have HTw := Lib.hid (show valU (l.take (i + 1)) < 18446744073709551616 from hTw)
                clear hTw
                go_wp2_with fail
                go_loopw [2, 6] (fun s2 s6 wk => ∃ j : Nat, j ≤ i + 1 ∧ s6 = .int .i64 ((i : Nat) - (j : Int)) ∧ s2 = .int .u64 (valU ((l.take (i + 1)).drop (i + 1 - j))) ∧ w.grownBy wk none) (fun _ s6 _ => ((intOf s6) + 1).toNat)
                case atStart => exact ⟨0, Nat.zero_le _, by go_num, by rw [List.drop_of_length_le (by rw [List.length_take]; omega)]; rfl, hg⟩
                case round =>
                  obtain ⟨j, hj, rfl, rfl, hgj⟩ := hrel
                  by_cases hjM : j ≤ i
                  · have hk : i - j < l.length := by omega
                    obtain ⟨g2, off2, cap2, hv2, hgl2, cj⟩ := (RdL.same H.out hgj).one by_one hk
                    cases hv2
                    have hst : (l.take (i + 1)).drop (i + 1 - (j + 1)) = l[i - j] :: (l.take (i + 1)).drop (i + 1 - j) := by
                      rw [show i + 1 - (j + 1) = i - j by omega, List.drop_eq_getElem_cons (by rw [List.length_take]; omega)]
                      congr 1
                      · simp
                      · congr 1; omega
                    have hle := valU_drop (l.take (i + 1)) (i + 1 - (j + 1))
                    rw [hst] at hle
                    have HST := Lib.hid hst
                    have hTw := HTw.out
                    have hbt := (l[i - j]).toNat_lt
                    simp only [valU] at hle
                    have hw1 : IntKind.u64.wrap (((l[i - j]).toNat : Int) % 128) = ((l[i - j]).toNat : Int) % 128 := IntWalk.u64_in _ (by omega)
                    have hw2 : IntKind.u64.wrap ((valU ((l.take (i + 1)).drop (i + 1 - j)) : Int) * 128) = (valU ((l.take (i + 1)).drop (i + 1 - j)) : Int) * 128 := IntWalk.u64_in _ (by omega)
                    have hw3 : IntKind.u64.wrap ((valU ((l.take (i + 1)).drop (i + 1 - j)) : Int) * 128 + ((l[i - j]).toNat : Int) % 128) = (valU ((l.take (i + 1)).drop (i + 1 - j)) : Int) * 128 + ((l[i - j]).toNat : Int) % 128 := IntWalk.u64_in _ (by omega)
                    have hij : ((i : Nat) : Int) - (j : Int) = ((i - j : Nat) : Int) := by omega
                    rw [hij]
                    have HIJ := Lib.hid hij
                    clear hst hle hTw hij
                    obtain ⟨V1, hV1⟩ : ∃ V1, valU ((l.take (i + 1)).drop (i + 1 - j)) = V1 := ⟨_, rfl⟩
                    rw [hV1] at hw2 hw3 ⊢
                    have HV1 := Lib.hid hV1
                    clear hV1
                    generalize l[i - j] = b2 at *
                    (try rw [Nat.zero_sub, Nat.add_zero] at cj)
                    have hk0 : (0 : Int) ≤ ((i - j : Nat) : Int) := by omega
                    have hk1 : ((i - j : Nat) : Int) < (l.length : Int) := by omega
                    go_wp2_with fail
                    exact ⟨⟨j + 1, by omega, congrArg _ (by omega), congrArg _ (by rw [HST.out]; simp only [valU]; rw [HV1.out]; omega), hgj⟩, by simp [intOf] <;> omega⟩
                  · obtain rfl : j = i + 1 := by omega
                    have hz : ((i : Nat) : Int) - ((i + 1 : Nat) : Int) = -1 := by omega
                    rw [hz]
                    clear hz
                    go_wp2_with fail
                    go_ret3
                    exact retVal (by rw [HF.out]; simp) hgj
        · have HF := Lib.hid (HSh.out (by omega) (by omega))
          obtain rfl : i = l.length := by omega
          have h10' : ¬ ((l.length : Int) = 10) := by omega
          go_wp2_with fail
          go_ret3
          exact retVal (by rw [HF.out]; rfl) hg
end Go.Proofs.Ytiagjiaahnkefaa

/- Numbers that were written are read as they were; what is read was written so: plain. -/
namespace Go.Proofs.Ytiagjiaahnkefaa
open Go.RowKit

theorem bigs_split : ∀ (f : Nat) (p : List UInt8) (b : UInt8) (r : List UInt8), p.length < f → (∀ x ∈ p, 128 ≤ x.toNat) → b.toNat < 128 → bigs f (p ++ b :: r) = p.length
  | 0, _, _, _, h, _, _ => by omega
  | f + 1, [], b, r, _, _, hb => by simp [bigs]; omega
  | f + 1, x :: p, b, r, h, hp, hb => by
    have ih := bigs_split f p b r (by simpa using h) (fun y hy => hp y (by simp [hy])) hb
    have hx := hp x (by simp)
    simp [bigs, hx, ih]
theorem readF_split {p : List UInt8} {b : UInt8} (r : List UInt8) (h1 : ∀ x ∈ p, 128 ≤ x.toNat) (h2 : b.toNat < 128) (h3 : p.length ≤ 9) (h4 : p.length = 9 → b.toNat ≤ 1) (h5 : 0 < p.length → b.toNat ≠ 0) :
    readF (p ++ b :: r) = (valU (p ++ [b]), p.length + 1, 0) := by
  have hb := bigs_split 10 p b r (by omega) h1 h2
  have hl : bigs 10 (p ++ b :: r) < (p ++ b :: r).length := by rw [hb]; simp
  have hg : (p ++ b :: r)[bigs 10 (p ++ b :: r)] = b := by simp [hb]
  rw [readF_ok (by omega) hl (by rw [hg, hb]; omega), hb]
  have : (p ++ b :: r).take (p.length + 1) = p ++ [b] := by
    rw [List.take_append]; simp [List.take_of_length_le]
  rw [this]
theorem readF_parts {l : List UInt8} (h : (readF l).2.2 = 0) : ∃ p b r, l = p ++ b :: r ∧ (∀ x ∈ p, 128 ≤ x.toNat) ∧ b.toNat < 128 ∧ (0 < p.length → b.toNat ≠ 0) ∧ readF l = (valU (p ++ [b]), p.length + 1, 0) := by
  have hle := bigs_le 10 l
  by_cases h1 : bigs 10 l = 10
  · rw [readF_ten h1] at h; cases h
  by_cases h2 : bigs 10 l < l.length
  · by_cases h3 : (bigs 10 l = 9 ∧ 1 < l[bigs 10 l].toNat) ∨ (0 < bigs 10 l ∧ l[bigs 10 l].toNat = 0)
    · rw [readF_bad h1 h2 h3] at h; cases h
    · have hl : (l.take (bigs 10 l)).length = bigs 10 l := by rw [List.length_take]; omega
      refine ⟨l.take (bigs 10 l), l[bigs 10 l], l.drop (bigs 10 l + 1), ?_, ?_, bigs_at (by omega) h2, ?_, ?_⟩
      · rw [List.getElem_cons_drop, List.take_append_drop]
      · intro x hx
        obtain ⟨i, hi, rfl⟩ := List.mem_iff_getElem.1 hx
        rw [List.getElem_take]
        rw [hl] at hi
        exact bigs_lt hi _
      · rw [hl]; intro h0 h4; exact h3 (.inr ⟨h0, h4⟩)
      · rw [readF_ok h1 h2 h3, hl, List.take_succ_eq_append_getElem h2]
  · rw [readF_short h1 (by omega)] at h; cases h
theorem vb_pos (n : Nat) : 1 ≤ (vb n).length := by
  by_cases h : n < 128
  · rw [vb_small h]; simp
  · rw [vb_big h]; simp
theorem vb_parts (n : Nat) : ∃ p b, vb n = p ++ [b] ∧ (∀ x ∈ p, 128 ≤ x.toNat) ∧ b.toNat < 128 ∧ (0 < n → b.toNat ≠ 0) ∧ (0 < p.length → 0 < n) ∧ valU (p ++ [b]) = n := by
  induction n using Nat.strongRecOn with
  | _ n ih =>
    by_cases h : n < 128
    · have hn : (UInt8.ofNat n).toNat = n := by rw [UInt8.toNat_ofNat']; omega
      refine ⟨[], UInt8.ofNat n, by rw [vb_small h]; rfl, by simp, by omega, by omega, by simp, ?_⟩
      simp only [List.nil_append, valU]; omega
    · obtain ⟨p, b, e, h1, h2, h3, h4, h5⟩ := ih (n / 128) (by omega)
      have hn : (UInt8.ofNat (n % 128 + 128)).toNat = n % 128 + 128 := by rw [UInt8.toNat_ofNat']; omega
      refine ⟨UInt8.ofNat (n % 128 + 128) :: p, b, by rw [vb_big h, e]; rfl, ?_, h2, fun _ => h3 (by omega), fun _ => by omega, ?_⟩
      · intro x hx
        rcases List.mem_cons.1 hx with rfl | hx
        · omega
        · exact h1 x hx
      · simp only [List.cons_append, valU, h5, hn]; omega
theorem vb_valU : ∀ (p : List UInt8) (b : UInt8), (∀ x ∈ p, 128 ≤ x.toNat) → b.toNat < 128 → (0 < p.length → b.toNat ≠ 0) → vb (valU (p ++ [b])) = p ++ [b]
  | [], b, _, h2, _ => by
    have e : valU ([] ++ [b]) = b.toNat := by simp only [List.nil_append, valU]; omega
    rw [e, vb_small h2]
    simp
  | x :: p, b, h1, h2, h3 => by
    have hb := h3 (by simp)
    have ih := vb_valU p b (fun y hy => h1 y (by simp [hy])) h2 fun _ => hb
    have hx := h1 x (by simp)
    have hxl := x.toNat_lt
    have hpos : 0 < valU (p ++ [b]) := by
      rw [valU_snoc]
      have : 0 < b.toNat % 128 * 128 ^ p.length := Nat.mul_pos (by omega) (Nat.pow_pos (by omega))
      omega
    simp only [List.cons_append, valU]
    have e1 : (x.toNat % 128 + 128 * valU (p ++ [b])) / 128 = valU (p ++ [b]) := by omega
    have e2 : (x.toNat % 128 + 128 * valU (p ++ [b])) % 128 + 128 = x.toNat := by omega
    rw [vb_big (by omega), e1, e2, ih]
    simp
theorem readF_vb {n : Nat} (h : n < 18446744073709551616) (r : List UInt8) : readF (vb n ++ r) = (n, (vb n).length, 0) := by
  obtain ⟨p, b, e, h1, h2, h3, h4, h5⟩ := vb_parts n
  have ht := vb_ten h
  rw [e] at ht ⊢
  rw [List.length_append, List.length_singleton] at ht ⊢
  rw [List.append_assoc, List.singleton_append, readF_split r h1 h2 (by omega) ?_ fun hp => h3 (h4 hp), h5]
  intro h9
  rw [← h5, valU_snoc, h9] at h
  have e : (128 : Nat) ^ 9 = 9223372036854775808 := by decide
  rw [e] at h
  omega
theorem readF_back {l : List UInt8} (h : (readF l).2.2 = 0) : l = vb (readF l).1 ++ l.drop (readF l).2.1 := by
  obtain ⟨p, b, r, e, h1, h2, h3, h4⟩ := readF_parts h
  rw [h4]
  simp only
  rw [vb_valU p b h1 h2 h3, e, show p ++ b :: r = (p ++ [b]) ++ r by simp, List.drop_left' (by simp)]

/-- A number that is at most most: what it is, what is left, the first error. -/
def numF (most : Nat) (over : Int) (l : List UInt8) (e : Int) : Nat × List UInt8 × Int :=
  if e ≠ 0 then (0, l, e)
  else if (readF l).2.2 ≠ 0 then (0, l, (readF l).2.2)
  else if most < (readF l).1 then (0, l.drop (readF l).2.1, over)
  else ((readF l).1, l.drop (readF l).2.1, 0)
/-- A number of any size. -/
abbrev weiF (l : List UInt8) (e : Int) : Nat × List UInt8 × Int := numF 18446744073709551615 1 l e
theorem readF_err (l : List UInt8) (h : (readF l).2.2 ≠ 0) : (readF l).1 = 0 ∧ (readF l).2.1 = 0 ∧ ((readF l).2.2 = 2 ∨ (readF l).2.2 = 3) := by
  by_cases h1 : bigs 10 l = 10
  · rw [readF_ten h1]; simp
  by_cases h2 : bigs 10 l < l.length
  · by_cases h3 : (bigs 10 l = 9 ∧ 1 < l[bigs 10 l].toNat) ∨ (0 < bigs 10 l ∧ l[bigs 10 l].toNat = 0)
    · rw [readF_bad h1 h2 h3]; simp
    · rw [readF_ok h1 h2 h3] at h; simp at h
  · rw [readF_short h1 (by have := bigs_le 10 l; omega)]; simp
theorem numF_e {most : Nat} {over : Int} {l : List UInt8} {e : Int} (h : e ≠ 0) : numF most over l e = (0, l, e) := if_pos h
theorem numF_w {most : Nat} {over : Int} {l : List UInt8} {e : Int} : (numF most over l e).1 < 18446744073709551616 ∧ (numF most over l e).1 ≤ most := by
  have := readF_w l
  unfold numF
  split
  · simp
  · split
    · simp
    · split
      · simp
      · simp; omega
theorem numF_vb {most n : Nat} {over : Int} (h : n ≤ most) (hn : n < 18446744073709551616) (r : List UInt8) : numF most over (vb n ++ r) 0 = (n, r, 0) := by
  unfold numF
  rw [readF_vb hn]
  simp only [List.drop_left]
  rw [if_neg (by simp), if_neg (by simp), if_neg (by omega)]
theorem numF_back {most : Nat} {over : Int} (ho : over ≠ 0) {l : List UInt8} {e : Int} (h : (numF most over l e).2.2 = 0) : e = 0 ∧ l = vb (numF most over l e).1 ++ (numF most over l e).2.1 := by
  unfold numF at h ⊢
  by_cases h1 : e ≠ 0
  · rw [if_pos h1] at h; exact absurd h h1
  rw [if_neg h1] at h ⊢
  refine ⟨by omega, ?_⟩
  by_cases h2 : (readF l).2.2 ≠ 0
  · rw [if_pos h2] at h; exact absurd h h2
  rw [if_neg h2] at h ⊢
  by_cases h3 : most < (readF l).1
  · rw [if_pos h3] at h; exact absurd h ho
  rw [if_neg h3]
  exact readF_back (by omega)
theorem numF_len {most : Nat} {over : Int} {l : List UInt8} {e : Int} : (numF most over l e).2.1.length ≤ l.length := by
  unfold numF
  split
  · exact Nat.le_refl _
  · split
    · exact Nat.le_refl _
    · split <;> simp
end Go.Proofs.Ytiagjiaahnkefaa

/- Readers of bytes: the program's and the reference's; numbers. -/
namespace Go.Proofs.Ytiagjiaahnkefaa
open Go.RowKit Go.Sort

/-- A reader at g, with what is left and the first error; the bytes lie below B. -/
structure Rdr (B : Nat) (w : World) (g : Nat) (l : List UInt8) (e : Int) : Prop where
  ex : ∃ a c, Blk w g #[.slice a l.length c, .int .i64 e] ∧ RdL byF 1 w (.slice a l.length c) l ∧ l.length ≤ c ∧ ∀ ad, a = some ad → 0 < l.length → ad.block < B
  hg : B ≤ g
theorem rd_kept {α : Type} {f : α → List Value} {s : Nat} {w w' : World} {a : Option Addr} {n c : Nat} {l : List α} {r : Option Nat} {B : Nat} (h : RdL f s w (.slice a n c) l) (hg : w.grownBy w' r) (ha : ∀ ad, a = some ad → 0 < l.length → ad.block < B) (hr : ∀ k, r = some k → B ≤ k) : RdL f s w' (.slice a n c) l := by
  cases r with
  | none => exact h.same hg
  | some k => exact Rd.kept0 h hg fun h0 q e a' n' c' hv => by cases e; cases hv; have := ha _ rfl h0; have := hr k rfl; omega
theorem Rdr.kept {B : Nat} {w w' : World} {g : Nat} {l : List UInt8} {e : Int} {r : Option Nat} (h : Rdr B w g l e) (hg : w.grownBy w' r) (hr : r ≠ some g) (hB : ∀ k, r = some k → B ≤ k) : Rdr B w' g l e := by
  obtain ⟨a, c, h1, h2, h3, h4⟩ := h.ex
  exact ⟨⟨a, c, h1.kept hg hr, rd_kept h2 hg h4 hB, h3, h4⟩, h.hg⟩
theorem Rdr.same {B : Nat} {w w' : World} {g : Nat} {l : List UInt8} {e : Int} (h : Rdr B w g l e) (hg : w.grownBy w' none) : Rdr B w' g l e := h.kept hg (by simp) (by simp)
theorem add_block (ad : Addr) (k : Nat) : (ad.add k).block = ad.block := by unfold Addr.add; split <;> rfl
theorem Rdr.setE {B : Nat} {w : World} {g : Nat} {l : List UInt8} {e : Int} (h : Rdr B w g l e) (f : Int) : Rdr B (w.setCell ⟨g, 1, none⟩ (.int .i64 f)) g l f ∧ w.grownBy (w.setCell ⟨g, 1, none⟩ (.int .i64 f)) (some g) := by
  obtain ⟨a, c, h1, h2, h3, h4⟩ := h.ex
  have hg : w.grownBy (w.setCell ⟨g, 1, none⟩ (.int .i64 f)) (some g) := grownBy_set (grownBy_refl w (some g)) 1 (.int .i64 f)
  exact ⟨⟨⟨a, c, h1.set_ 1 _ rfl, rd_kept h2 hg h4 (fun k e => by cases e; exact h.hg), h3, h4⟩, h.hg⟩, hg⟩
theorem Rdr.setB {B : Nat} {w : World} {g : Nat} {l : List UInt8} {e : Int} {a : Option Addr} {c : Nat} (h1 : Blk w g #[.slice a l.length c, .int .i64 e]) (h2 : RdL byF 1 w (.slice a l.length c) l) (h3 : l.length ≤ c) (h4 : ∀ ad, a = some ad → 0 < l.length → ad.block < B) (hB : B ≤ g) {k : Nat} (hk : k ≤ l.length) :
    Rdr B (w.setCell ⟨g, 0, none⟩ (.slice (if c = k then a else a.map (·.add k)) (l.length - k) (c - k))) g (l.drop k) e ∧ w.grownBy (w.setCell ⟨g, 0, none⟩ (.slice (if c = k then a else a.map (·.add k)) (l.length - k) (c - k))) (some g) := by
  have h5 := RdL.drop byF_len h2 hk h3 (c - k)
  rw [Nat.mul_one] at h5
  have hg : w.grownBy (w.setCell ⟨g, 0, none⟩ (.slice (if c = k then a else a.map (·.add k)) (l.length - k) (c - k))) (some g) := grownBy_set (grownBy_refl w (some g)) 0 _
  have h6 : ∀ ad, (if c = k then a else a.map (·.add k)) = some ad → 0 < (l.drop k).length → ad.block < B := by
    intro ad e h0
    have h0' : 0 < l.length := by rw [List.length_drop] at h0; omega
    split at e
    · exact h4 ad e h0'
    · obtain ⟨x, hx, rfl⟩ := Option.map_eq_some_iff.1 e
      rw [add_block]; exact h4 x hx h0'
  generalize (if c = k then a else a.map (·.add k)) = a' at *
  have hl : (l.drop k).length = l.length - k := List.length_drop
  refine ⟨⟨⟨a', c - k, ?_, ?_, by omega, h6⟩, hB⟩, hg⟩
  · rw [hl]; exact h1.set_ 0 _ rfl
  · rw [hl]; exact rd_kept h5 hg h6 fun k e => by cases e; exact hB
/-- Bytes as a text. -/
theorem conv_by {l : List UInt8} {a : Option Addr} {n c : Nat} {w : World} (h : RdL byF 1 w (.slice a n c) l) : (convert 40 9 (.slice a n c)).run Try.prog w = .ok (.string ⟨l.toArray⟩) w := by
  obtain ⟨a', c', hv⟩ := Rd.shape h
  cases hv
  rcases h.2.2 with ⟨h0, _⟩ | ⟨g, off, cap, hv, _, hc⟩
  · obtain rfl : l = [] := List.eq_nil_of_length_eq_zero h0
    cases a with
    | none => exact run_convert_bytes_nil w 40 5 Try.underlying40 Try.underlying5 0 c _ Try.underlying9
    | some ad =>
      rw [run_convert_bytes_string w 40 9 5 _ _ c Try.underlying40 Try.underlying5 Try.underlying9]
      rw [show ([] : List UInt8).length = 0 from rfl, run_bytesToString w ad 0 c []]
      · rfl
      · exact run_loadCells_list w ad [] (fun j v hv => by simp at hv)
  · cases hv
    have hcl : ∀ i, i < l.length → w.cell? ⟨g, off + i, none⟩ = some (.int .u8 ((l.map fun b => (b.toNat : Int)).getD i 0)) := by
      intro i hi
      have e : ∀ (l : List UInt8) (i : Nat), i < l.length → (cellsOf byF l)[i]? = some (.int .u8 ((l.map fun b => (b.toNat : Int)).getD i 0)) := by
        intro l
        induction l with
        | nil => intro i hi; simp at hi
        | cons b l ih =>
          intro i hi
          cases i with
          | zero => simp [cellsOf, byF]
          | succ i =>
            have := ih i (by simpa using hi)
            simpa [cellsOf, byF] using this
      exact hc i _ (e l i hi)
    rw [run_convert_bytes_arg w 40 5 Try.underlying40 Try.underlying5 g off l.length c (l.map fun b => (b.toNat : Int)) (by simp) hcl _ Try.underlying9]
    congr 2
    unfold strOfNums
    congr 2
    rw [List.map_map]
    conv => rhs; rw [← List.map_id l]
    apply List.map_congr_left
    intro b _
    simp
def NumP (B g : Nat) (w : World) (F : Nat × List UInt8 × Int) (en : Ending) (w' : World) : Prop :=
  en = .returned (.int .u64 F.1) ∧ Rdr B w' g F.2.1 F.2.2 ∧ w.grownBy w' (some g)

set_option maxHeartbeats 1000000 in
set_option maxRecDepth 100000 in
theorem num_c (B g most : Nat) (over : Int) (l : List UInt8) (e : Int) (w : World) (h : Rdr B w g l e) (hm : most < 18446744073709551616) (ho : 0 < over) :
    Calls Try.prog 58 #[.pointer (some ⟨g, 0, none⟩), .int .u64 most, .int .i64 over] w (NumP B g w (numF most over l e)) := by
  obtain ⟨a, c, hb, hr, hlc, hab⟩ := h.ex
  have hgB := h.hg
  have hbl := hb.cell
  by_cases he : e ≠ 0
  · have hF := Lib.hid (show numF most over l e = (0, l, e) from if_pos he)
    have he2 : (e != 0) = true := by simp [he]
    have H := Lib.hid h
    clear h hr he hb
    go_enter Try.func58, Try.ntmps58
    go_wp2
    go_ret
    exact ⟨by rw [hF.out]; rfl, by rw [hF.out]; exact H.out, grownBy_refl _ _⟩
  · obtain rfl : e = 0 := by omega
    have C := Lib.hid fun w' (k : World.grownBy w w' none) => read_c _ l w' (hr.same k)
    have hu := readF_used l
    have hw := readF_w l
    have HE := Lib.hid (readF_err l)
    have HN := Lib.hid (show numF most over l 0 = if (readF l).2.2 ≠ 0 then (0, l, (readF l).2.2) else if most < (readF l).1 then (0, l.drop (readF l).2.1, over) else ((readF l).1, l.drop (readF l).2.1, 0) from if_neg he)
    have hfr := hb.free
    have HR := Lib.hid hr
    have HB := Lib.hid hb
    have HA := Lib.hid hab
    clear h hr he hb hab
    obtain ⟨n, u, f, hF⟩ : ∃ n u f, readF l = (n, u, f) := ⟨_, _, _, rfl⟩
    rw [hF] at C hu hw HE HN
    clear hF
    dsimp only at hu hw
    have hu0 : (0 : Int) ≤ (u : Int) := by omega
    have hu1 : (u : Int) ≤ (c : Int) := by omega
    have hu2 : (u : Int) ≤ (l.length : Int) := by omega
    have hl2 : (l.length : Int) ≤ (c : Int) := by omega
    go_enter Try.func58, Try.ntmps58
    go_upto_region 4 with (go_at_call 98; refine (C.out _ (grownBy_refl _ _)).mono ?_; rintro en w1 ⟨rfl, g1⟩)
    clear hbl hfr
    have HB1 := Lib.hid (HB.out.same g1)
    have K6 : World.grownBy w1 w1.drew none := (by (repeat (first | exact grownBy_refl _ _ | assumption | refine grownBy_new_block ?_ _ | refine grownBy_drew ?_ | refine grownBy_drewN ?_ _ | refine grownBy_setNew ?_ (by first | (simp; done) | omega | (simp; omega)) _)))
    (refine Rg.wp_region_rgZ 9 #[false, true, false, true, true, true, false, true, true] (fun w w' => World.grownBy w w' none) (fun _ _ _ _ _ => False) (by kernel_rfl) (by kernel_rfl) (fun w => grownBy_refl w none) (fun _ _ _ h k => grownBy_trans h k) (fun _ _ _ _ _ h => h) ?_; simp only [List.take, List.drop])
    generalize w1.drew = w2 at *
    (refine Rg.tree_quiet 6 rfl (by first | exact Or.inl rfl | exact Or.inr rfl) ?_; simp only [List.take, List.drop, List.length_cons, List.length_nil, List.replicate, Nat.reduceAdd]; (try simp only [List.cons_append]); (try simp only [List.nil_append]); (repeat (go_big_quiet_step (fail))); refine wpQuiet_nil ?_)
    (refine Rg.tree_op rfl rfl ?_; intro x6 mx6 dx6)
    clear dx6
    have ax := (HB1.out.same (grownBy_trans K6 mx6)).cell
    go_wp2_with fail
    refine ⟨grownBy_refl _ _, ?_⟩
    clear ax
    (refine Rg.tree_quiet 2 rfl (by first | exact Or.inl rfl | exact Or.inr rfl) ?_; simp only [List.take, List.drop, List.length_cons, List.length_nil, List.replicate, Nat.reduceAdd]; (try simp only [List.cons_append]); (try simp only [List.nil_append]); (repeat (go_big_quiet_step (fail))); refine wpQuiet_nil ?_)
    (refine Rg.tree_nil ?_; intro z mz dz cz)
    have KZ := grownBy_trans g1 (grownBy_trans K6 mz)
    have HBz := HB.out.same KZ
    have HRz := HR.out.same KZ
    have X1 := HBz.set_ (cs' := #[.slice a l.length c, .int .i64 f]) 1 (.int .i64 f) rfl
    have g2 : z.grownBy (z.setCell ⟨g, 1, none⟩ (.int .i64 f)) (some g) := grownBy_set (grownBy_refl z (some g)) 1 (.int .i64 f)
    have X2 := rd_kept HRz g2 HA.out (fun k e => by cases e; exact hgB)
    obtain ⟨R2, g3⟩ := Rdr.setB X1 X2 hlc HA.out hgB hu
    have hfr := HBz.free
    have hbz := HBz.cell
    have KW := Lib.hid (grownBy_trans (grownBy_some KZ (some g)) (grownBy_trans g2 g3))
    have R3 := Lib.hid (R2.setE over)
    have R4 := Lib.hid R2
    clear dz cz mx6 mz K6 g1 HB1 X1 X2 R2 g2 g3 HBz HRz KZ HB HR HA
    generalize (if c = u then a else a.map (·.add u)) = od at *
    by_cases hf : f = 0
    · subst hf
      by_cases hn : most < n
      · have hn2 : (most : Int) < (n : Int) := by omega
        have HF := Lib.hid (HN.out.trans ((if_neg (by simp)).trans (if_pos hn)))
        have ho2 : (over != 0) = true := by simp; omega
        clear HN HE hn C
        go_wp2_with fail
        go_ret
        exact ⟨by rw [HF.out]; rfl, by rw [HF.out]; exact R3.out.1, grownBy_trans KW.out R3.out.2⟩
      · have hn2 : (n : Int) ≤ (most : Int) := by omega
        have HF := Lib.hid (HN.out.trans ((if_neg (by simp)).trans (if_neg hn)))
        clear HN HE hn C R3
        go_wp2_with fail
        go_ret
        exact ⟨by rw [HF.out]; rfl, by rw [HF.out]; exact R4.out, KW.out⟩
    · have hf1 : (f != 0) = true := by simp [hf]
      have hf2 : (f == 0) = false := by simp [hf]
      have HF := Lib.hid (HN.out.trans (if_pos hf))
      obtain ⟨e1, e2, e3⟩ := HE.out hf
      have E2 := Lib.hid e2
      clear HN HE hf C R3 e1 e2 e3
      go_wp2_with fail
      go_ret
      exact ⟨by rw [HF.out]; rfl, by rw [HF.out]; have := R4.out; rw [E2.out] at this; rw [E2.out]; simpa using this, KW.out⟩
theorem weight_c (B g : Nat) (l : List UInt8) (e : Int) (w : World) (h : Rdr B w g l e) :
    Calls Try.prog 59 #[.pointer (some ⟨g, 0, none⟩)] w (NumP B g w (weiF l e)) := by
  have C := Lib.hid (num_c B g 18446744073709551615 1 l e w h (by omega) (by omega))
  clear h
  go_enter Try.func59, Try.ntmps59
  go_wp2_with (go_at_call 58; refine C.out.mono ?_; rintro en w1 ⟨rfl, R, g1⟩)
  go_ret
  exact ⟨rfl, R, g1⟩
/-- A reader in a block that has just been made. -/
theorem Rdr.new {w : World} {g : Nat} {l : List UInt8} {a : Option Addr} {c : Nat} {w' : World} (hr : RdL byF 1 w (.slice a l.length c) l) (hc : l.length ≤ c) (hb : Blk w' g #[.slice a l.length c, .int .i64 0]) (hg : w.grownBy w' none) (hB : w.heap.size ≤ g) : Rdr w.heap.size w' g l 0 :=
  ⟨⟨a, c, hb, hr.same hg, hc, fun ad e h0 => by subst e; exact Rd.blockLt hr h0 _ _ _ rfl⟩, hB⟩
end Go.Proofs.Ytiagjiaahnkefaa

/- Reports read from bytes: plain. -/
namespace Go.Proofs.Ytiagjiaahnkefaa
open Go.RowKit

/-- A text with its length. -/
def keyD (l : List UInt8) (e : Int) : List UInt8 × List UInt8 × Int :=
  if (numF 255 4 l e).2.2 ≠ 0 then ([], (numF 255 4 l e).2.1, (numF 255 4 l e).2.2)
  else if (numF 255 4 l e).2.1.length < (numF 255 4 l e).1 then ([], (numF 255 4 l e).2.1, 2)
  else ((numF 255 4 l e).2.1.take (numF 255 4 l e).1, (numF 255 4 l e).2.1.drop (numF 255 4 l e).1, 0)
/-- A line: from what is left behind its key. -/
def lineR (k : List UInt8) (a b : Nat × List UInt8 × Int) : Ln × List UInt8 × Int :=
  (⟨⟨k.toArray⟩, a.1, satA a.1 b.1⟩, b.2.1, if b.2.2 = 0 ∧ (18446744073709551615 : Int) < a.1 + b.1 then 1 else b.2.2)
def lineD (l : List UInt8) (e : Int) : Ln × List UInt8 × Int :=
  lineR (keyD l e).1 (weiF (keyD l e).2.1 (keyD l e).2.2) (weiF (weiF (keyD l e).2.1 (keyD l e).2.2).2.1 (weiF (keyD l e).2.1 (keyD l e).2.2).2.2)
def linesD : Nat → List UInt8 → Int → List Ln × List UInt8 × Int
  | 0, l, e => ([], l, e)
  | n + 1, l, e => ((linesD n l e).1 ++ [(lineD (linesD n l e).2.1 (linesD n l e).2.2).1], (lineD (linesD n l e).2.1 (linesD n l e).2.2).2)
def wordsD : Nat → List UInt8 → Int → List Int × List UInt8 × Int
  | 0, l, e => ([], l, e)
  | n + 1, l, e => ((wordsD n l e).1 ++ [((weiF (wordsD n l e).2.1 (wordsD n l e).2.2).1 : Int)], (weiF (wordsD n l e).2.1 (wordsD n l e).2.2).2)
/-- The report that is read, what is left, the first error. -/
def decD (l : List UInt8) : Rep × List UInt8 × Int :=
  let a1 := numF 1099511627776 1 l 0
  let a2 := weiF a1.2.1 a1.2.2
  let a3 := weiF a2.2.1 a2.2.2
  let a4 := numF 1099511627776 1 a3.2.1 a3.2.2
  let a5 := weiF a4.2.1 a4.2.2
  let a6 := wordsD 6 a5.2.1 a5.2.2
  let a7 := numF 64 7 a6.2.1 a6.2.2
  let a8 := linesD a7.1 a7.2.1 a7.2.2
  (⟨a1.1, a2.1, .slice none 0 0, a3.1, a4.1, a5.1, .slice none 0 0, a8.1, 0 :: a6.1⟩, a8.2)
def decE (l : List UInt8) : Int := if (decD l).2.2 ≠ 0 then (decD l).2.2 else if (decD l).2.1 ≠ [] then 3 else repErr (decD l).1
def repZ : Rep := ⟨0, 0, .slice none 0 0, 0, 0, 0, .slice none 0 0, [], []⟩
def decR (l : List UInt8) : Rep := if decE l = 0 then (decD l).1 else repZ

theorem wei_w (l : List UInt8) (e : Int) : W64 ((weiF l e).1 : Int) := by
  have := (numF_w (most := 18446744073709551615) (over := 1) (l := l) (e := e)).1
  unfold W64 weiF; omega
theorem satA_eq {a b : Int} (h : a + b ≤ 18446744073709551615) : satA a b = a + b := if_pos h
theorem keyD_e {l : List UInt8} {e : Int} (h : e ≠ 0) : keyD l e = ([], l, e) := by unfold keyD; rw [numF_e h]; exact if_pos h
theorem lineD_e {l : List UInt8} {e : Int} (h : e ≠ 0) : lineD l e = (⟨⟨#[]⟩, 0, 0⟩, l, e) := by
  unfold lineD lineR weiF
  rw [keyD_e h]
  simp only
  rw [numF_e h]
  simp only
  rw [numF_e h]
  simp [h, satA]
theorem keyD_back {l : List UInt8} {e : Int} (h : (keyD l e).2.2 = 0) : e = 0 ∧ l = vb (keyD l e).1.length ++ (keyD l e).1 ++ (keyD l e).2.1 ∧ (keyD l e).1.length ≤ 255 := by
  have hw := numF_w (most := 255) (over := 4) (l := l) (e := e)
  have hb := numF_back (most := 255) (over := 4) (l := l) (e := e) (by decide)
  unfold keyD at h ⊢
  generalize numF 255 4 l e = N at *
  by_cases h1 : N.2.2 ≠ 0
  · rw [if_pos h1] at h; exact absurd h h1
  rw [if_neg h1] at h ⊢
  obtain ⟨h2, h3⟩ := hb (by omega)
  refine ⟨h2, ?_⟩
  by_cases h4 : N.2.1.length < N.1
  · rw [if_pos h4] at h; cases h
  rw [if_neg h4]
  have e1 : (N.2.1.take N.1).length = N.1 := by rw [List.length_take]; omega
  simp only
  rw [e1, List.append_assoc, List.take_append_drop]
  exact ⟨h3, hw.2⟩
theorem keyD_vb (k : List UInt8) (hk : k.length ≤ 255) (r : List UInt8) : keyD (vb k.length ++ k ++ r) 0 = (k, r, 0) := by
  unfold keyD
  rw [List.append_assoc, numF_vb hk (by omega)]
  simp only
  rw [if_neg (by simp), if_neg (by simp), List.take_left, List.drop_left]
theorem lnB_eq (x : Ln) (k : List UInt8) (a d : Nat) (hk : x.key.data.toList = k) (ha : x.lo = a) (hd : x.hi = a + d) : lnB x = vb k.length ++ k ++ (vb a ++ vb d) := by
  unfold lnB
  have : x.key.size = k.length := by rw [← hk]; exact Array.length_toList.symm
  rw [this, hk, ha, hd, show ((a : Int) + d - a).toNat = d by omega]
  simp [vbs]
theorem lineD_back {l : List UInt8} {e : Int} (h : (lineD l e).2.2 = 0) : e = 0 ∧ l = lnB (lineD l e).1 ++ (lineD l e).2.1 := by
  have hb1 := keyD_back (l := l) (e := e)
  have hb2 := numF_back (most := 18446744073709551615) (over := 1) (l := (keyD l e).2.1) (e := (keyD l e).2.2) (by decide)
  unfold lineD weiF at h ⊢
  generalize keyD l e = K at *
  have hb3 := numF_back (most := 18446744073709551615) (over := 1) (l := (numF 18446744073709551615 1 K.2.1 K.2.2).2.1) (e := (numF 18446744073709551615 1 K.2.1 K.2.2).2.2) (by decide)
  generalize numF 18446744073709551615 1 K.2.1 K.2.2 = A at *
  generalize numF 18446744073709551615 1 A.2.1 A.2.2 = D at *
  unfold lineR at h ⊢
  simp only at h ⊢
  by_cases h1 : D.2.2 = 0 ∧ (18446744073709551615 : Int) < A.1 + D.1
  · rw [if_pos h1] at h; cases h
  rw [if_neg h1] at h
  obtain ⟨h2, h3⟩ := hb3 h
  obtain ⟨h4, h5⟩ := hb2 h2
  obtain ⟨h6, h7, h8⟩ := hb1 h4
  refine ⟨h6, ?_⟩
  rw [lnB_eq _ K.1 A.1 D.1 (by simp) rfl (satA_eq (by omega)), h7]
  simp only [List.append_assoc]
  rw [← h3, ← h5]
theorem lineD_ln (x : Ln) (hk : x.key.size ≤ 255) (hl : x.lo ≤ x.hi) (hw : LnW x) (r : List UInt8) : lineD (lnB x ++ r) 0 = (x, r, 0) := by
  obtain ⟨⟨ka⟩, lo, hi⟩ := x
  have h1 := hw.lo
  have h2 := hw.hi
  unfold W64 at h1 h2
  simp only at h1 h2 hl
  change ka.size ≤ 255 at hk
  rw [lnB_eq _ ka.toList lo.toNat (hi - lo).toNat rfl (by simp only; omega) (by simp only; omega)]
  unfold lineD weiF
  rw [List.append_assoc, keyD_vb _ (by simpa using hk)]
  simp only
  rw [List.append_assoc, numF_vb (by omega) (by omega)]
  simp only
  rw [numF_vb (by omega) (by omega)]
  unfold lineR
  simp only
  rw [if_neg (by omega), satA_eq (by omega)]
  simp only [Array.toArray_toList, Prod.mk.injEq, Ln.mk.injEq, and_true, true_and]
  omega
theorem lines_back : ∀ {n : Nat} {l : List UInt8} {e : Int}, (linesD n l e).2.2 = 0 → e = 0 ∧ l = linesB (linesD n l e).1 ++ (linesD n l e).2.1 ∧ (linesD n l e).1.length = n
  | 0, l, e, h => by simpa [linesD, linesB] using h
  | n + 1, l, e, h => by
    simp only [linesD] at h ⊢
    obtain ⟨h1, h2⟩ := lineD_back h
    obtain ⟨h3, h4, h5⟩ := lines_back h1
    refine ⟨h3, ?_, by simp [h5]⟩
    rw [linesB_snoc, List.append_assoc, ← h2, ← h4]
theorem lines_len (n : Nat) (l : List UInt8) (e : Int) : (linesD n l e).1.length = n := by
  induction n with
  | zero => rfl
  | succ n ih => simp [linesD, ih]
theorem words_len (n : Nat) (l : List UInt8) (e : Int) : (wordsD n l e).1.length = n := by
  induction n with
  | zero => rfl
  | succ n ih => simp [wordsD, ih]
theorem words_w (n : Nat) (l : List UInt8) (e : Int) : ∀ x ∈ (wordsD n l e).1, W64 x := by
  induction n with
  | zero => simp [wordsD]
  | succ n ih =>
    intro x hx
    simp only [wordsD, List.mem_append, List.mem_singleton] at hx
    rcases hx with hx | rfl
    · exact ih x hx
    · have := (numF_w (most := 18446744073709551615) (over := 1) (l := (wordsD n l e).2.1) (e := (wordsD n l e).2.2)).1
      unfold W64 weiF; omega
theorem lineD_w (l : List UInt8) (e : Int) : LnW (lineD l e).1 ∧ (lineD l e).1.key.size ≤ 255 := by
  have h3 : (keyD l e).1.length ≤ 255 := by
    have hw := numF_w (most := 255) (over := 4) (l := l) (e := e)
    unfold keyD
    split
    · simp
    · split
      · simp
      · simp only [List.length_take]; omega
  have h4 : (lineD l e).1.key.size ≤ 255 := by
    show ((keyD l e).1.toArray).size ≤ 255
    simpa using h3
  refine ⟨⟨?_, ?_, by omega⟩, h4⟩
  · exact wei_w _ _
  · exact satA_w (wei_w _ _) (wei_w _ _)
theorem lines_w (n : Nat) (l : List UInt8) (e : Int) : ∀ x ∈ (linesD n l e).1, LnW x := by
  induction n with
  | zero => simp [linesD]
  | succ n ih =>
    intro x hx
    simp only [linesD, List.mem_append, List.mem_singleton] at hx
    rcases hx with hx | rfl
    · exact ih x hx
    · exact (lineD_w _ _).1
theorem words_back : ∀ {n : Nat} {l : List UInt8} {e : Int}, (wordsD n l e).2.2 = 0 → e = 0 ∧ l = vbs ((wordsD n l e).1.map Int.toNat) ++ (wordsD n l e).2.1
  | 0, l, e, h => by simpa [wordsD, vbs] using h
  | n + 1, l, e, h => by
    simp only [wordsD] at h ⊢
    obtain ⟨h1, h2⟩ := numF_back (by decide) h
    obtain ⟨h3, h4⟩ := words_back h1
    refine ⟨h3, ?_⟩
    rw [List.map_append, List.map_singleton, vbs_snoc, Int.toNat_natCast, List.append_assoc, ← h2, ← h4]
theorem words_vb (ns : List Int) (hn : ∀ n ∈ ns, W64 n) (r : List UInt8) : ∀ k, k ≤ ns.length → wordsD k (vbs (ns.map Int.toNat) ++ r) 0 = (ns.take k, vbs ((ns.drop k).map Int.toNat) ++ r, 0)
  | 0, _ => by simp [wordsD]
  | k + 1, h => by
    have hk := hn ns[k] (List.getElem_mem _)
    unfold W64 at hk
    simp only [wordsD, words_vb ns hn r k (by omega)]
    rw [List.drop_eq_getElem_cons (i := k) (by omega), List.map_cons, show vbs (ns[k].toNat :: (ns.drop (k + 1)).map Int.toNat) = vb ns[k].toNat ++ vbs ((ns.drop (k + 1)).map Int.toNat) by simp [vbs], List.append_assoc]
    unfold weiF
    rw [numF_vb (by omega) (by omega)]
    simp only
    rw [Int.toNat_of_nonneg hk.1, List.take_succ_eq_append_getElem (by omega)]
theorem lines_ln (ls : List Ln) (hl : ∀ x ∈ ls, x.key.size ≤ 255 ∧ x.lo ≤ x.hi ∧ LnW x) (r : List UInt8) : ∀ k, k ≤ ls.length → linesD k (linesB ls ++ r) 0 = (ls.take k, linesB (ls.drop k) ++ r, 0)
  | 0, _ => by simp [linesD]
  | k + 1, h => by
    obtain ⟨h1, h2, h3⟩ := hl ls[k] (List.getElem_mem _)
    simp only [linesD, lines_ln ls hl r k (by omega)]
    rw [List.drop_eq_getElem_cons (i := k) (by omega), show linesB (ls[k] :: ls.drop (k + 1)) = lnB ls[k] ++ linesB (ls.drop (k + 1)) by unfold linesB; rw [List.flatMap_cons], List.append_assoc, lineD_ln _ h1 h2 h3]
    simp only
    rw [List.take_succ_eq_append_getElem (by omega)]
/-- Bytes that can be decoded are the encoding of what they are decoded to. -/
theorem dec_back {l : List UInt8} (h : decE l = 0) : encF (decD l).1 = l ∧ repErr (decD l).1 = 0 := by
  unfold decE at h
  by_cases h1 : (decD l).2.2 ≠ 0
  · rw [if_pos h1] at h; exact absurd h h1
  rw [if_neg h1] at h
  by_cases h2 : (decD l).2.1 ≠ []
  · rw [if_pos h2] at h; cases h
  rw [if_neg h2] at h
  refine ⟨?_, h⟩
  have h3 : (decD l).2.2 = 0 := by omega
  have h4 : (decD l).2.1 = [] := Decidable.byContradiction h2
  clear h h1 h2
  unfold decD at h3 h4 ⊢
  dsimp only at h3 h4 ⊢
  have b1 := numF_back (most := 1099511627776) (over := 1) (l := l) (e := 0) (by decide)
  generalize numF 1099511627776 1 l 0 = a1 at *
  have b2 := numF_back (most := 18446744073709551615) (over := 1) (l := a1.2.1) (e := a1.2.2) (by decide)
  unfold weiF at *
  generalize numF 18446744073709551615 1 a1.2.1 a1.2.2 = a2 at *
  have b3 := numF_back (most := 18446744073709551615) (over := 1) (l := a2.2.1) (e := a2.2.2) (by decide)
  generalize numF 18446744073709551615 1 a2.2.1 a2.2.2 = a3 at *
  have b4 := numF_back (most := 1099511627776) (over := 1) (l := a3.2.1) (e := a3.2.2) (by decide)
  generalize numF 1099511627776 1 a3.2.1 a3.2.2 = a4 at *
  have b5 := numF_back (most := 18446744073709551615) (over := 1) (l := a4.2.1) (e := a4.2.2) (by decide)
  generalize numF 18446744073709551615 1 a4.2.1 a4.2.2 = a5 at *
  have b6 := words_back (n := 6) (l := a5.2.1) (e := a5.2.2)
  generalize wordsD 6 a5.2.1 a5.2.2 = a6 at *
  have b7 := numF_back (most := 64) (over := 7) (l := a6.2.1) (e := a6.2.2) (by decide)
  generalize numF 64 7 a6.2.1 a6.2.2 = a7 at *
  have b8 := lines_back (n := a7.1) (l := a7.2.1) (e := a7.2.2)
  generalize linesD a7.1 a7.2.1 a7.2.2 = a8 at *
  obtain ⟨e7, l7, k7⟩ := b8 h3
  obtain ⟨e6, l6⟩ := b7 e7
  obtain ⟨e5, l5⟩ := b6 e6
  obtain ⟨e4, l4⟩ := b5 e5
  obtain ⟨e3, l3⟩ := b4 e4
  obtain ⟨e2, l2⟩ := b3 e3
  obtain ⟨e1, l1⟩ := b2 e2
  obtain ⟨-, l0⟩ := b1 e1
  rw [h4, List.append_nil] at l7
  unfold encF headB
  simp only [Int.toNat_natCast, List.drop_succ_cons, List.drop_zero, k7, vbs, List.flatMap_cons, List.flatMap_nil, List.append_nil, List.append_assoc]
  simp only [vbs] at l5
  rw [l0, l1, l2, l3, l4, l5, l6, l7]
/-- A report that was encoded is decoded as it was. -/
theorem dec_enc {r : Rep} (hW : RepW r) (h : repErr r = 0) : decD (encF r) = (⟨r.win, r.tot, .slice none 0 0, r.over, r.trk, r.rest, .slice none 0 0, r.lines, r.rej⟩, [], 0) := by
  have hO := rep_ok h
  obtain ⟨p1, p2⟩ := hO.win
  obtain ⟨p3, p4⟩ := hO.trk
  have t1 := hW.tot
  have t2 := hW.over
  have t3 := hW.rest
  unfold W64 at t1 t2 t3
  have hf := hO.few
  have hr : r.rej = 0 :: r.rej.drop 1 := by
    have h0 := hO.rej0
    cases hx : r.rej with
    | nil => rw [hx] at h0; cases h0
    | cons a t => rw [hx] at h0; simp at h0; simp [h0]
  have hrl : (r.rej.drop 1).length = 6 := by rw [List.length_drop, hO.rej]
  have hw := words_vb (r.rej.drop 1) (fun n hn => hW.rej n (List.mem_of_mem_drop hn)) (vb r.lines.length ++ linesB r.lines) 6 (by omega)
  rw [List.take_of_length_le (l := r.rej.drop 1) (by omega), List.drop_of_length_le (l := r.rej.drop 1) (by omega)] at hw
  have hl := lines_ln r.lines (fun x hx => by
    obtain ⟨i, hi, rfl⟩ := List.mem_iff_getElem.1 hx
    have := hO.ln hi
    exact ⟨this.2.1, this.2.2.1, hW.lines _ hx⟩) [] r.lines.length (Nat.le_refl _)
  rw [List.take_of_length_le (Nat.le_refl _), List.drop_of_length_le (Nat.le_refl _)] at hl
  simp only [List.append_nil] at hl
  have he : encF r = vb r.win.toNat ++ (vb r.tot.toNat ++ (vb r.over.toNat ++ (vb r.trk.toNat ++ (vb r.rest.toNat ++ (vbs ((r.rej.drop 1).map Int.toNat) ++ (vb r.lines.length ++ linesB r.lines)))))) := by
    unfold encF headB
    simp [vbs]
  rw [he]
  unfold decD weiF
  rw [numF_vb (n := r.win.toNat) (by omega) (by omega)]
  dsimp only
  rw [numF_vb (n := r.tot.toNat) (by omega) (by omega)]
  dsimp only
  rw [numF_vb (n := r.over.toNat) (by omega) (by omega)]
  dsimp only
  rw [numF_vb (n := r.trk.toNat) (by omega) (by omega)]
  dsimp only
  rw [numF_vb (n := r.rest.toNat) (by omega) (by omega)]
  dsimp only
  rw [hw]
  simp only [List.map_nil, vbs, List.flatMap_nil, List.nil_append]
  rw [numF_vb (n := r.lines.length) (by omega) (by omega)]
  dsimp only
  rw [hl, ← hr, Int.toNat_of_nonneg p1, Int.toNat_of_nonneg t1.1, Int.toNat_of_nonneg t2.1, Int.toNat_of_nonneg t3.1, Int.toNat_of_nonneg (show 0 ≤ r.trk by omega)]
  simp [linesB]
theorem decE_enc {r : Rep} (hW : RepW r) (h : repErr r = 0) : decE (encF r) = 0 := by
  unfold decE
  rw [dec_enc hW h]
  simp only
  rw [if_neg (by simp), if_neg (by simp)]
  exact h
theorem upto_w {most : Nat} {over : Int} (l : List UInt8) (e : Int) (h : most < 9223372036854775808) : I64 ((numF most over l e).1 : Int) := by
  have := (numF_w (most := most) (over := over) (l := l) (e := e)).2
  unfold I64; omega
theorem decD_w (l : List UInt8) : RepW (decD l).1 := by
  unfold decD
  dsimp only
  refine ⟨upto_w _ _ (by omega), wei_w _ _, wei_w _ _, upto_w _ _ (by omega), wei_w _ _, lines_w _ _ _, ?_⟩
  intro n hn
  simp only [List.mem_cons] at hn
  rcases hn with rfl | hn
  · unfold W64; omega
  · exact words_w _ _ _ n hn
end Go.Proofs.Ytiagjiaahnkefaa
