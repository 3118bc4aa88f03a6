/- The operations of a script: the program's tests. -/
import Derived.Test.YtniokdflljchgaaOpS
import Derived.Test.YtniokdflljchgaaRet
namespace Go.Proofs.Ytniokdflljchgaa
open Go.RowKit Go.Sort

theorem by_empty {y : ByteArray} (h : y.size = 0) : y = ⟨#[]⟩ := by
  obtain ⟨⟨l⟩⟩ := y
  have : l = [] := by simpa [ByteArray.size] using h
  rw [this]
theorem ne_empty {y : ByteArray} (h : ¬ y.size = 0) : y.toList.isEmpty = false := by
  rw [ByteArray.toList_eq]
  obtain ⟨⟨l⟩⟩ := y
  cases l with
  | nil => exact absurd rfl h
  | cons a l => rfl

set_option maxHeartbeats 2000000 in
set_option maxRecDepth 100000 in
theorem rest_c (k t s : Int) (y : ByteArray) (da pa : Option Addr) (dc pc : Nat) (d : List UInt8) (q : List Int) (w : World) :
    Calls Try.prog 69 #[opV k (.slice da d.length dc) t s y (.slice pa q.length pc)] w (RetBool (restB ⟨k, .slice da d.length dc, t, s, y, .slice pa q.length pc, d, q⟩) w) := by
  obtain ⟨R, hR⟩ : ∃ R, restB ⟨k, .slice da d.length dc, t, s, y, .slice pa q.length pc, d, q⟩ = R := ⟨_, rfl⟩
  have H := Lib.hid (p := restB ⟨k, .slice da d.length dc, t, s, y, .slice pa q.length pc, d, q⟩ = true → R = true) fun h => hR.symm.trans h
  have H2 := Lib.hid (p := restB ⟨k, .slice da d.length dc, t, s, y, .slice pa q.length pc, d, q⟩ = false → R = false) fun h => hR.symm.trans h
  rw [hR]
  clear hR
  by_cases k1 : k = 1
  · subst k1
    by_cases ht : t = 0
    · subst ht
      by_cases hs : s = 0
      · subst hs
        by_cases hy : y.size = 0
        · obtain rfl := by_empty hy
          by_cases hp : q.length = 0
          · obtain rfl : q = [] := List.eq_nil_of_length_eq_zero hp
            have HB := Lib.hid (H.out (by rfl))
            go_enter Try.func69, Try.ntmps69
            go_wp2_with fail
            go_ret
            exact retBool (HB.out.trans (by rfl : true = true)) (by (repeat (first | exact grownBy_refl _ _ | assumption | refine grownBy_new_block ?_ _ | refine grownBy_drew ?_ | refine grownBy_drewN ?_ _ | refine grownBy_setNew ?_ (by first | (simp; done) | omega | (simp; omega)) _)))
          · have HB := Lib.hid (H2.out (by simp [restB, hp]))
            have hx : (((q.length : Nat) : Int) == 0) = false := by rw [beq_eq_false_iff_ne]; omega
            clear hp
            go_enter Try.func69, Try.ntmps69
            go_wp2_with fail
            go_ret
            exact retBool (HB.out.trans (by rfl : false = false)) (by (repeat (first | exact grownBy_refl _ _ | assumption | refine grownBy_new_block ?_ _ | refine grownBy_drew ?_ | refine grownBy_drewN ?_ _ | refine grownBy_setNew ?_ (by first | (simp; done) | omega | (simp; omega)) _)))
        · have HB := Lib.hid (H2.out (by simp [restB, hy]))
          have hx : y.toList.isEmpty = false := ne_empty hy
          clear hy
          go_enter Try.func69, Try.ntmps69
          go_wp2_with fail
          go_ret
          exact retBool (HB.out.trans (by rfl : false = false)) (by (repeat (first | exact grownBy_refl _ _ | assumption | refine grownBy_new_block ?_ _ | refine grownBy_drew ?_ | refine grownBy_drewN ?_ _ | refine grownBy_setNew ?_ (by first | (simp; done) | omega | (simp; omega)) _)))
      · have HB := Lib.hid (H2.out (by simp [restB, hs]))
        have hx : ((s : Int) == 0) = false := by simpa using hs
        clear hs
        go_enter Try.func69, Try.ntmps69
        go_wp2_with fail
        go_ret
        exact retBool (HB.out.trans (by rfl : false = false)) (by (repeat (first | exact grownBy_refl _ _ | assumption | refine grownBy_new_block ?_ _ | refine grownBy_drew ?_ | refine grownBy_drewN ?_ _ | refine grownBy_setNew ?_ (by first | (simp; done) | omega | (simp; omega)) _)))
    · have HB := Lib.hid (H2.out (by simp [restB, ht]))
      have hx : ((t : Int) == 0) = false := by simpa using ht
      clear ht
      go_enter Try.func69, Try.ntmps69
      go_wp2_with fail
      go_ret
      exact retBool (HB.out.trans (by rfl : false = false)) (by (repeat (first | exact grownBy_refl _ _ | assumption | refine grownBy_new_block ?_ _ | refine grownBy_drew ?_ | refine grownBy_drewN ?_ _ | refine grownBy_setNew ?_ (by first | (simp; done) | omega | (simp; omega)) _)))
  by_cases k2 : k = 2
  · subst k2
    by_cases hd : d.length = 0
    · obtain rfl : d = [] := List.eq_nil_of_length_eq_zero hd
      by_cases hs : s = 0
      · subst hs
        by_cases hy : y.size = 0
        · obtain rfl := by_empty hy
          have HB := Lib.hid (H.out (by rfl))
          go_enter Try.func69, Try.ntmps69
          go_wp2_with fail
          go_ret
          exact retBool (HB.out.trans (by rfl : true = true)) (by (repeat (first | exact grownBy_refl _ _ | assumption | refine grownBy_new_block ?_ _ | refine grownBy_drew ?_ | refine grownBy_drewN ?_ _ | refine grownBy_setNew ?_ (by first | (simp; done) | omega | (simp; omega)) _)))
        · have HB := Lib.hid (H2.out (by simp [restB, hy]))
          have hx : y.toList.isEmpty = false := ne_empty hy
          clear hy
          go_enter Try.func69, Try.ntmps69
          go_wp2_with fail
          go_ret
          exact retBool (HB.out.trans (by rfl : false = false)) (by (repeat (first | exact grownBy_refl _ _ | assumption | refine grownBy_new_block ?_ _ | refine grownBy_drew ?_ | refine grownBy_drewN ?_ _ | refine grownBy_setNew ?_ (by first | (simp; done) | omega | (simp; omega)) _)))
      · have HB := Lib.hid (H2.out (by simp [restB, hs]))
        have hx : ((s : Int) == 0) = false := by simpa using hs
        clear hs
        go_enter Try.func69, Try.ntmps69
        go_wp2_with fail
        go_ret
        exact retBool (HB.out.trans (by rfl : false = false)) (by (repeat (first | exact grownBy_refl _ _ | assumption | refine grownBy_new_block ?_ _ | refine grownBy_drew ?_ | refine grownBy_drewN ?_ _ | refine grownBy_setNew ?_ (by first | (simp; done) | omega | (simp; omega)) _)))
    · have HB := Lib.hid (H2.out (by simp [restB, hd]))
      have hx : (((d.length : Nat) : Int) == 0) = false := by rw [beq_eq_false_iff_ne]; omega
      clear hd
      go_enter Try.func69, Try.ntmps69
      go_wp2_with fail
      go_ret
      exact retBool (HB.out.trans (by rfl : false = false)) (by (repeat (first | exact grownBy_refl _ _ | assumption | refine grownBy_new_block ?_ _ | refine grownBy_drew ?_ | refine grownBy_drewN ?_ _ | refine grownBy_setNew ?_ (by first | (simp; done) | omega | (simp; omega)) _)))
  by_cases k3 : k = 3
  · subst k3
    by_cases hd : d.length = 0
    · obtain rfl : d = [] := List.eq_nil_of_length_eq_zero hd
      by_cases ht : t = 0
      · subst ht
        by_cases hy : y.size = 0
        · obtain rfl := by_empty hy
          by_cases hp : q.length = 0
          · obtain rfl : q = [] := List.eq_nil_of_length_eq_zero hp
            have HB := Lib.hid (H.out (by rfl))
            go_enter Try.func69, Try.ntmps69
            go_wp2_with fail
            go_ret
            exact retBool (HB.out.trans (by rfl : true = true)) (by (repeat (first | exact grownBy_refl _ _ | assumption | refine grownBy_new_block ?_ _ | refine grownBy_drew ?_ | refine grownBy_drewN ?_ _ | refine grownBy_setNew ?_ (by first | (simp; done) | omega | (simp; omega)) _)))
          · have HB := Lib.hid (H2.out (by simp [restB, hp]))
            have hx : (((q.length : Nat) : Int) == 0) = false := by rw [beq_eq_false_iff_ne]; omega
            clear hp
            go_enter Try.func69, Try.ntmps69
            go_wp2_with fail
            go_ret
            exact retBool (HB.out.trans (by rfl : false = false)) (by (repeat (first | exact grownBy_refl _ _ | assumption | refine grownBy_new_block ?_ _ | refine grownBy_drew ?_ | refine grownBy_drewN ?_ _ | refine grownBy_setNew ?_ (by first | (simp; done) | omega | (simp; omega)) _)))
        · have HB := Lib.hid (H2.out (by simp [restB, hy]))
          have hx : y.toList.isEmpty = false := ne_empty hy
          clear hy
          go_enter Try.func69, Try.ntmps69
          go_wp2_with fail
          go_ret
          exact retBool (HB.out.trans (by rfl : false = false)) (by (repeat (first | exact grownBy_refl _ _ | assumption | refine grownBy_new_block ?_ _ | refine grownBy_drew ?_ | refine grownBy_drewN ?_ _ | refine grownBy_setNew ?_ (by first | (simp; done) | omega | (simp; omega)) _)))
      · have HB := Lib.hid (H2.out (by simp [restB, ht]))
        have hx : ((t : Int) == 0) = false := by simpa using ht
        clear ht
        go_enter Try.func69, Try.ntmps69
        go_wp2_with fail
        go_ret
        exact retBool (HB.out.trans (by rfl : false = false)) (by (repeat (first | exact grownBy_refl _ _ | assumption | refine grownBy_new_block ?_ _ | refine grownBy_drew ?_ | refine grownBy_drewN ?_ _ | refine grownBy_setNew ?_ (by first | (simp; done) | omega | (simp; omega)) _)))
    · have HB := Lib.hid (H2.out (by simp [restB, hd]))
      have hx : (((d.length : Nat) : Int) == 0) = false := by rw [beq_eq_false_iff_ne]; omega
      clear hd
      go_enter Try.func69, Try.ntmps69
      go_wp2_with fail
      go_ret
      exact retBool (HB.out.trans (by rfl : false = false)) (by (repeat (first | exact grownBy_refl _ _ | assumption | refine grownBy_new_block ?_ _ | refine grownBy_drew ?_ | refine grownBy_drewN ?_ _ | refine grownBy_setNew ?_ (by first | (simp; done) | omega | (simp; omega)) _)))
  by_cases k4 : k = 4
  · subst k4
    by_cases hd : d.length = 0
    · obtain rfl : d = [] := List.eq_nil_of_length_eq_zero hd
      by_cases ht : t = 0
      · subst ht
        by_cases hs : s = 0
        · subst hs
          by_cases hy : y.size = 0
          · obtain rfl := by_empty hy
            by_cases hp : q.length = 0
            · obtain rfl : q = [] := List.eq_nil_of_length_eq_zero hp
              have HB := Lib.hid (H.out (by rfl))
              go_enter Try.func69, Try.ntmps69
              go_wp2_with fail
              go_ret
              exact retBool (HB.out.trans (by rfl : true = true)) (by (repeat (first | exact grownBy_refl _ _ | assumption | refine grownBy_new_block ?_ _ | refine grownBy_drew ?_ | refine grownBy_drewN ?_ _ | refine grownBy_setNew ?_ (by first | (simp; done) | omega | (simp; omega)) _)))
            · have HB := Lib.hid (H2.out (by simp [restB, hp]))
              have hx : (((q.length : Nat) : Int) == 0) = false := by rw [beq_eq_false_iff_ne]; omega
              clear hp
              go_enter Try.func69, Try.ntmps69
              go_wp2_with fail
              go_ret
              exact retBool (HB.out.trans (by rfl : false = false)) (by (repeat (first | exact grownBy_refl _ _ | assumption | refine grownBy_new_block ?_ _ | refine grownBy_drew ?_ | refine grownBy_drewN ?_ _ | refine grownBy_setNew ?_ (by first | (simp; done) | omega | (simp; omega)) _)))
          · have HB := Lib.hid (H2.out (by simp [restB, hy]))
            have hx : y.toList.isEmpty = false := ne_empty hy
            clear hy
            go_enter Try.func69, Try.ntmps69
            go_wp2_with fail
            go_ret
            exact retBool (HB.out.trans (by rfl : false = false)) (by (repeat (first | exact grownBy_refl _ _ | assumption | refine grownBy_new_block ?_ _ | refine grownBy_drew ?_ | refine grownBy_drewN ?_ _ | refine grownBy_setNew ?_ (by first | (simp; done) | omega | (simp; omega)) _)))
        · have HB := Lib.hid (H2.out (by simp [restB, hs]))
          have hx : ((s : Int) == 0) = false := by simpa using hs
          clear hs
          go_enter Try.func69, Try.ntmps69
          go_wp2_with fail
          go_ret
          exact retBool (HB.out.trans (by rfl : false = false)) (by (repeat (first | exact grownBy_refl _ _ | assumption | refine grownBy_new_block ?_ _ | refine grownBy_drew ?_ | refine grownBy_drewN ?_ _ | refine grownBy_setNew ?_ (by first | (simp; done) | omega | (simp; omega)) _)))
      · have HB := Lib.hid (H2.out (by simp [restB, ht]))
        have hx : ((t : Int) == 0) = false := by simpa using ht
        clear ht
        go_enter Try.func69, Try.ntmps69
        go_wp2_with fail
        go_ret
        exact retBool (HB.out.trans (by rfl : false = false)) (by (repeat (first | exact grownBy_refl _ _ | assumption | refine grownBy_new_block ?_ _ | refine grownBy_drew ?_ | refine grownBy_drewN ?_ _ | refine grownBy_setNew ?_ (by first | (simp; done) | omega | (simp; omega)) _)))
    · have HB := Lib.hid (H2.out (by simp [restB, hd]))
      have hx : (((d.length : Nat) : Int) == 0) = false := by rw [beq_eq_false_iff_ne]; omega
      clear hd
      go_enter Try.func69, Try.ntmps69
      go_wp2_with fail
      go_ret
      exact retBool (HB.out.trans (by rfl : false = false)) (by (repeat (first | exact grownBy_refl _ _ | assumption | refine grownBy_new_block ?_ _ | refine grownBy_drew ?_ | refine grownBy_drewN ?_ _ | refine grownBy_setNew ?_ (by first | (simp; done) | omega | (simp; omega)) _)))
  by_cases k5 : k = 5
  · subst k5
    by_cases hd : d.length = 0
    · obtain rfl : d = [] := List.eq_nil_of_length_eq_zero hd
      by_cases hs : s = 0
      · subst hs
        by_cases hp : q.length = 0
        · obtain rfl : q = [] := List.eq_nil_of_length_eq_zero hp
          have HB := Lib.hid (H.out (by rfl))
          go_enter Try.func69, Try.ntmps69
          go_wp2_with fail
          go_ret
          exact retBool (HB.out.trans (by rfl : true = true)) (by (repeat (first | exact grownBy_refl _ _ | assumption | refine grownBy_new_block ?_ _ | refine grownBy_drew ?_ | refine grownBy_drewN ?_ _ | refine grownBy_setNew ?_ (by first | (simp; done) | omega | (simp; omega)) _)))
        · have HB := Lib.hid (H2.out (by simp [restB, hp]))
          have hx : (((q.length : Nat) : Int) == 0) = false := by rw [beq_eq_false_iff_ne]; omega
          clear hp
          go_enter Try.func69, Try.ntmps69
          go_wp2_with fail
          go_ret
          exact retBool (HB.out.trans (by rfl : false = false)) (by (repeat (first | exact grownBy_refl _ _ | assumption | refine grownBy_new_block ?_ _ | refine grownBy_drew ?_ | refine grownBy_drewN ?_ _ | refine grownBy_setNew ?_ (by first | (simp; done) | omega | (simp; omega)) _)))
      · have HB := Lib.hid (H2.out (by simp [restB, hs]))
        have hx : ((s : Int) == 0) = false := by simpa using hs
        clear hs
        go_enter Try.func69, Try.ntmps69
        go_wp2_with fail
        go_ret
        exact retBool (HB.out.trans (by rfl : false = false)) (by (repeat (first | exact grownBy_refl _ _ | assumption | refine grownBy_new_block ?_ _ | refine grownBy_drew ?_ | refine grownBy_drewN ?_ _ | refine grownBy_setNew ?_ (by first | (simp; done) | omega | (simp; omega)) _)))
    · have HB := Lib.hid (H2.out (by simp [restB, hd]))
      have hx : (((d.length : Nat) : Int) == 0) = false := by rw [beq_eq_false_iff_ne]; omega
      clear hd
      go_enter Try.func69, Try.ntmps69
      go_wp2_with fail
      go_ret
      exact retBool (HB.out.trans (by rfl : false = false)) (by (repeat (first | exact grownBy_refl _ _ | assumption | refine grownBy_new_block ?_ _ | refine grownBy_drew ?_ | refine grownBy_drewN ?_ _ | refine grownBy_setNew ?_ (by first | (simp; done) | omega | (simp; omega)) _)))
  have HB := Lib.hid (H2.out (by simp [restB, k1, k2, k3, k4, k5]))
  have m1 : ((k : Int) == 1) = false := by simpa using k1
  have m2 : ((k : Int) == 2) = false := by simpa using k2
  have m3 : ((k : Int) == 3) = false := by simpa using k3
  have m4 : ((k : Int) == 4) = false := by simpa using k4
  have m5 : ((k : Int) == 5) = false := by simpa using k5
  clear k1 k2 k3 k4 k5
  go_enter Try.func69, Try.ntmps69
  go_wp2_with fail
  go_ret
  exact retBool (HB.out.trans (by rfl : false = false)) (by (repeat (first | exact grownBy_refl _ _ | assumption | refine grownBy_new_block ?_ _ | refine grownBy_drew ?_ | refine grownBy_drewN ?_ _ | refine grownBy_setNew ?_ (by first | (simp; done) | omega | (simp; omega)) _)))

theorem inRange_c (n : Int) (w : World) : Calls Try.prog 70 #[.int .i64 n] w fun e w' => e = .returned (.bool (inR n)) ∧ w = w' := by
  by_cases h0 : 0 ≤ n
  · by_cases h1 : n ≤ 1099511627776
    · have HB := Lib.hid (inR_iff.2 ⟨h0, h1⟩)
      go_enter Try.func70, Try.ntmps70
      go_wp2_with fail
      go_ret
      exact ⟨by rw [HB.out]; rfl, rfl⟩
    · have HB := Lib.hid (show inR n = false by simp [inR, h1])
      have h2 : ¬ n ≤ 1099511627776 := h1
      go_enter Try.func70, Try.ntmps70
      go_wp2_with fail
      go_ret
      exact ⟨by rw [HB.out]; rfl, rfl⟩
  · have HB := Lib.hid (show inR n = false by simp [inR, h0])
    have h2 : ¬ 0 ≤ n := h0
    go_enter Try.func70, Try.ntmps70
    go_wp2_with fail
    go_ret
    exact ⟨by rw [HB.out]; rfl, rfl⟩
end Go.Proofs.Ytniokdflljchgaa
