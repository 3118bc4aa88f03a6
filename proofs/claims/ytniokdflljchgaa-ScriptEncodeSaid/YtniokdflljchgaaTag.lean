/- Tags: the reference's test of one. -/
import Derived.Test.YtniokdflljchgaaTagP
import Derived.Test.YtniokdflljchgaaRet
import Derived.Test.YtniokdflljchgaaBlk
namespace Go.Proofs.Ytniokdflljchgaa
open Go.RowKit Go.Sort

def letN (n : Nat) : Bool := (decide (97 ≤ n) && decide (n ≤ 122)) || (decide (48 ≤ n) && decide (n ≤ 57)) || decide (n = 95) || decide (n = 46) || decide (n = 45)
theorem letB_N (b : UInt8) : letB b = letN b.toNat := rfl
theorem nameByteN_c (n : Nat) (w : World) : Calls Try.prog 120 #[.int .u8 n] w fun e w' => e = .returned (.bool (letN n)) ∧ w = w' := by
  rcases (show (97 ≤ n ∧ n ≤ 122) ∨ (48 ≤ n ∧ n ≤ 57) ∨ n = 95 ∨ n = 46 ∨ n = 45 ∨ n < 45 ∨ n = 47 ∨ (58 ≤ n ∧ n ≤ 94) ∨ n = 96 ∨ 123 ≤ n by omega) with h | h | h | h | h | h | h | h | h | h
  · obtain ⟨h1, h2⟩ := h
    have i1 : (97 : Int) ≤ (n : Int) := by omega
    have i2 : (n : Int) ≤ 122 := by omega
    have HB := Lib.hid (show letN n = true by simp [letN]; omega)
    go_enter Try.func120, Try.ntmps120
    go_wp2_with fail
    go_ret
    exact ⟨by rw [HB.out]; rfl, rfl⟩
  · obtain ⟨h1, h2⟩ := h
    have i1 : (48 : Int) ≤ (n : Int) := by omega
    have i2 : (n : Int) ≤ 57 := by omega
    have HB := Lib.hid (show letN n = true by simp [letN]; omega)
    go_enter Try.func120, Try.ntmps120
    go_wp2_with fail
    go_ret
    exact ⟨by rw [HB.out]; rfl, rfl⟩
  · subst h
    have HB := Lib.hid (show letN 95 = true from rfl)
    rw [show (((95 : Nat) : Nat) : Int) = (95 : Int) from rfl]
    go_enter Try.func120, Try.ntmps120
    go_wp2_with fail
    go_ret
    exact ⟨by rw [HB.out]; rfl, rfl⟩
  · subst h
    have HB := Lib.hid (show letN 46 = true from rfl)
    rw [show (((46 : Nat) : Nat) : Int) = (46 : Int) from rfl]
    go_enter Try.func120, Try.ntmps120
    go_wp2_with fail
    go_ret
    exact ⟨by rw [HB.out]; rfl, rfl⟩
  · subst h
    have HB := Lib.hid (show letN 45 = true from rfl)
    rw [show (((45 : Nat) : Nat) : Int) = (45 : Int) from rfl]
    go_enter Try.func120, Try.ntmps120
    go_wp2_with fail
    go_ret
    exact ⟨by rw [HB.out]; rfl, rfl⟩
  · have i1 : (n : Int) < 45 := by omega
    have HB := Lib.hid (show letN n = false by simp [letN]; omega)
    have f1 : ((n : Int) == 95) = false := beq_eq_false_iff_ne.2 (by omega)
    have f2 : ((n : Int) == 46) = false := beq_eq_false_iff_ne.2 (by omega)
    have f3 : ((n : Int) == 45) = false := beq_eq_false_iff_ne.2 (by omega)
    go_enter Try.func120, Try.ntmps120
    go_wp2_with fail
    go_ret
    exact ⟨by rw [HB.out]; rfl, rfl⟩
  · subst h
    have HB := Lib.hid (show letN 47 = false from rfl)
    rw [show (((47 : Nat) : Nat) : Int) = (47 : Int) from rfl]
    go_enter Try.func120, Try.ntmps120
    go_wp2_with fail
    go_ret
    exact ⟨by rw [HB.out]; rfl, rfl⟩
  · obtain ⟨h1, h2⟩ := h
    have i1 : (58 : Int) ≤ (n : Int) := by omega
    have i2 : (n : Int) ≤ 94 := by omega
    have i3 : decide ((n : Int) ≤ 57) = false := decide_eq_false (by omega)
    have HB := Lib.hid (show letN n = false by simp [letN]; omega)
    have f1 : ((n : Int) == 95) = false := beq_eq_false_iff_ne.2 (by omega)
    have f2 : ((n : Int) == 46) = false := beq_eq_false_iff_ne.2 (by omega)
    have f3 : ((n : Int) == 45) = false := beq_eq_false_iff_ne.2 (by omega)
    go_enter Try.func120, Try.ntmps120
    go_wp2_with fail
    go_ret
    exact ⟨by rw [HB.out]; rfl, rfl⟩
  · subst h
    have HB := Lib.hid (show letN 96 = false from rfl)
    rw [show (((96 : Nat) : Nat) : Int) = (96 : Int) from rfl]
    go_enter Try.func120, Try.ntmps120
    go_wp2_with fail
    go_ret
    exact ⟨by rw [HB.out]; rfl, rfl⟩
  · have i1 : (123 : Int) ≤ (n : Int) := by omega
    have i3 : decide ((n : Int) ≤ 57) = false := decide_eq_false (by omega)
    have i4 : decide ((n : Int) ≤ 122) = false := decide_eq_false (by omega)
    have HB := Lib.hid (show letN n = false by simp [letN]; omega)
    have f1 : ((n : Int) == 95) = false := beq_eq_false_iff_ne.2 (by omega)
    have f2 : ((n : Int) == 46) = false := beq_eq_false_iff_ne.2 (by omega)
    have f3 : ((n : Int) == 45) = false := beq_eq_false_iff_ne.2 (by omega)
    go_enter Try.func120, Try.ntmps120
    go_wp2_with fail
    go_ret
    exact ⟨by rw [HB.out]; rfl, rfl⟩
theorem tagC_name (b : UInt8) (w : World) : Calls Try.prog 120 #[.int .u8 b.toNat] w fun e w' => e = .returned (.bool (letB b)) ∧ w = w' := nameByteN_c b.toNat w
theorem all_lets {q : List UInt8} (h : ∀ i (hi : i < q.length), letB q[i] = true) : q.all letB = true := by
  rw [List.all_eq_true]
  intro x hx
  obtain ⟨i, hi, rfl⟩ := List.getElem_of_mem hx
  exact h i hi
theorem all_let_not {q : List UInt8} {i : Nat} (hi : i < q.length) (h : letB q[i] = false) : q.all letB = false := by
  rw [List.all_eq_false]
  exact ⟨_, List.getElem_mem hi, by simp [h]⟩

set_option maxHeartbeats 1000000 in
set_option maxRecDepth 100000 in
theorem rtag_c (t : TagR) (w : World) (hW : TagW t) : Calls Try.prog 109 #[tagV t] w (RetInt (tagE t) w) := by
  obtain ⟨hn, hv⟩ := hW
  have HN := Lib.hid (nm_len t)
  have HX := Lib.hid (show tagE t = if (nmB t).all letB = false then 3 else if t.name.size = 0 then 3 else if 32 < t.name.size ∨ 64 < t.value.size then 4 else 0 from rfl)
  have HQ := Lib.hid (show nmB t = t.name.data.toList from rfl)
  generalize tagE t = E at *
  generalize nmB t = q at *
  obtain ⟨y, v⟩ := t
  dsimp only at *
  have B1 := Blk.new w #[.string y, .string v] 143
  have G1 := grownBy_new_block (grownBy_refl w none) (.cells #[.string y, .string v] 143)
  go_enter Try.func109, Try.ntmps109
  go_upto_region 1 with fail
  generalize w.alloc (.cells #[.string y, .string v] 143) = w1 at *
  generalize w.heap.size = b at *
  have b1 := B1.cell
  go_wp2_with fail
  go_loopw [3] (fun s3 wk => ∃ i : Nat, i ≤ q.length ∧ s3 = .int .i64 i ∧ (∀ j (hj : j < q.length), j < i → letB q[j] = true) ∧ w1 = wk) (fun s3 _ => q.length - (intOf s3).toNat)
  case atStart => exact ⟨0, Nat.zero_le _, rfl, by intro j hj h; omega, rfl⟩
  case round =>
    obtain ⟨i, hi, rfl, hall, rfl⟩ := hrel
    have Hall := Lib.hid hall
    have hql := HN.out
    clear hall
    by_cases hlt : i < q.length
    · have hi1 : (i : Int) < (y.size : Int) := by omega
      have hi2 : i < y.size := by omega
      have hx : q[i] = y[i]'hi2 := by
        have : q[i]? = some (y[i]'hi2) := by
          rw [HQ.out]
          show y.data.toList[i]? = _
          rw [Array.getElem?_toList, Array.getElem?_eq_getElem (by exact hi2)]; rfl
        rw [List.getElem?_eq_getElem hlt] at this
        exact Option.some.inj this
      have HF := Lib.hid (show letB q[i] = false → E = 3 from fun h => by rw [HX.out, if_pos (all_let_not hlt h)])
      have HS := Lib.hid (show letB q[i] = true → ∀ j (hj : j < q.length), j < i + 1 → letB q[j] = true from fun h j hj hji => by
        rcases Nat.lt_or_ge j i with h1 | h1
        · exact Hall.out j hj h1
        · obtain rfl : j = i := by omega
          exact h)
      rw [hx] at HF HS
      have C := Lib.hid fun w' => tagC_name (y[i]'hi2) w'
      have hi0 : (0 : Int) ≤ (i : Int) := by omega
      clear hx Hall
      cases hb : letB (y[i]'hi2)
      · rw [hb] at C
        have HF2 := Lib.hid (HF.out hb)
        clear hb
        go_wp2_with (go_at_call 120; refine (C.out _).mono ?_; rintro e w' ⟨rfl, rfl⟩)
        go_ret
        exact retInt HF2.out G1
      · rw [hb] at C
        have HS2 := Lib.hid (HS.out hb)
        clear hb
        go_wp2_with (go_at_call 120; refine (C.out _).mono ?_; rintro e w' ⟨rfl, rfl⟩)
        exact ⟨⟨i + 1, by omega, by go_num, HS2.out, by trivial⟩, by simp [intOf]; omega⟩
    · have hi1 : ¬ (i : Int) < (y.size : Int) := by omega
      have HA := Lib.hid (show ¬ q.all letB = false by rw [all_lets fun j hj => Hall.out j hj (by omega)]; simp)
      by_cases h0 : y.size = 0
      · have HF := Lib.hid (show E = 3 by rw [HX.out, if_neg HA.out, if_pos h0])
        obtain rfl : y = ⟨#[]⟩ := by
          obtain ⟨⟨l⟩⟩ := y
          have : l = [] := by simpa [ByteArray.size] using h0
          rw [this]
        clear h0
        go_wp2_with fail
        go_ret
        exact retInt HF.out G1
      · have hne : y.toList.isEmpty = false := by
          rw [ByteArray.toList_eq]
          obtain ⟨⟨l⟩⟩ := y
          cases l with
          | nil => exact absurd rfl h0
          | cons a l => rfl
        have HF := Lib.hid (show E = if 32 < y.size ∨ 64 < v.size then 4 else 0 by rw [HX.out, if_neg HA.out, if_neg h0])
        clear h0 HX
        by_cases h1 : 32 < y.size
        · have j1 : (32 : Int) < (y.size : Int) := by omega
          have HF2 := Lib.hid (HF.out.trans (if_pos (.inl h1)))
          clear HF h1
          go_wp2_with fail
          go_ret
          exact retInt HF2.out G1
        · have j1 : (y.size : Int) ≤ 32 := by omega
          by_cases h2 : 64 < v.size
          · have j2 : (64 : Int) < (v.size : Int) := by omega
            have HF2 := Lib.hid (HF.out.trans (if_pos (.inr h2)))
            clear HF h1 h2
            go_wp2_with fail
            go_ret
            exact retInt HF2.out G1
          · have j2 : (v.size : Int) ≤ 64 := by omega
            have HF2 := Lib.hid (HF.out.trans (if_neg (fun h => h.elim h1 h2)))
            clear HF h1 h2
            go_wp2_with fail
            go_ret
            exact retInt HF2.out G1
end Go.Proofs.Ytniokdflljchgaa
