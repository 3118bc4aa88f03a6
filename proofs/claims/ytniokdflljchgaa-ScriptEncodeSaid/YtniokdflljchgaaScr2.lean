/- The operations of a script: the program's first error; its writer. -/
import Derived.Test.YtniokdflljchgaaScr
namespace Go.Proofs.Ytniokdflljchgaa
open Go.RowKit Go.Sort

theorem all_at {q : List Int} (h : ∀ i (hi : i < q.length), inR q[i] = true) : q.all inR = true := by
  rw [List.all_eq_true]
  intro x hx
  obtain ⟨i, hi, rfl⟩ := List.getElem_of_mem hx
  exact h i hi
theorem all_not {q : List Int} {i : Nat} (hi : i < q.length) (h : inR q[i] = false) : q.all inR = false := by
  rw [List.all_eq_false]
  exact ⟨_, List.getElem_mem hi, by simp [h]⟩
set_option maxHeartbeats 2000000 in
set_option maxRecDepth 100000 in
theorem check_c (o : OpR) (w : World) (hR : OpRd w o) (hW : o.key.size ≤ 9223372036854775807) : Calls Try.prog 44 #[opV o.kind o.vd o.time o.shard o.key o.vp] w (RetInt (opE o) w) := by
  obtain ⟨da, dc, e1⟩ := hR.data.shape
  obtain ⟨pa, pc, e2⟩ := hR.picks.shape
  have hdl := hR.data.2.1
  have hpl := hR.picks.2.1
  have HP := Lib.hid hR.picks
  clear hR
  obtain ⟨k, vd, t, s, y, vp, d, q⟩ := o
  dsimp only at *
  subst e1 e2
  obtain ⟨E, hE⟩ : ∃ E, opE ⟨k, .slice da d.length dc, t, s, y, .slice pa q.length pc, d, q⟩ = E := ⟨_, rfl⟩
  have HE := Lib.hid (show (if restB ⟨k, .slice da d.length dc, t, s, y, .slice pa q.length pc, d, q⟩ = false then (3 : Int) else if (decide (4096 < d.length) || decide (255 < y.size) || decide (8 < q.length)) = true then 4 else if (inR t && inR s && q.all inR) = false then 1 else 0) = E from hE)
  rw [hE]
  clear hE
  have C := Lib.hid fun w' => rest_c k t s y da pa dc pc d q w'
  generalize restB ⟨k, .slice da d.length dc, t, s, y, .slice pa q.length pc, d, q⟩ = R at *
  have B1 := Blk.new w (opA k (.slice da d.length dc) t s y (.slice pa q.length pc)) 30
  have G1 := grownBy_new_block (grownBy_refl w none) (.cells (opA k (.slice da d.length dc) t s y (.slice pa q.length pc)) 30)
  go_enter Try.func44, Try.ntmps44
  go_upto_region 1 with fail
  generalize w.alloc (.cells (opA k (.slice da d.length dc) t s y (.slice pa q.length pc)) 30) = w1 at *
  generalize w.heap.size = b at *
  cases R
  · have HF := Lib.hid (show E = 3 by rw [← HE.out]; rfl)
    go_wp2_with (first
      | (refine load_op rfl _ rfl _ rfl B1 ?_)
      | (go_at_call 69; refine (C.out _).mono ?_; rintro e w2 ⟨rfl, g2⟩))
    go_ret
    exact retInt HF.out (grownBy_trans G1 g2)
  go_upto_region 3 with (first
    | (refine load_op rfl _ rfl _ rfl B1 ?_)
    | (go_at_call 69; refine (C.out _).mono ?_; rintro e w2 ⟨rfl, g2⟩))
  have HB2 := Lib.hid (B1.same g2)
  have K2 := grownBy_trans G1 g2
  clear B1 G1 g2 C
  have b2 := HB2.out.cell
  by_cases h1 : 4096 < d.length
  · have hi1 : (4096 : Int) < (d.length : Int) := by omega
    have HF := Lib.hid (show E = 4 by rw [← HE.out]; simp [h1])
    clear h1
    go_wp2_with fail
    go_ret
    exact retInt HF.out K2
  have hi1 : ¬ (4096 : Int) < (d.length : Int) := by omega
  by_cases h2 : 255 < y.size
  · have hi2 : (255 : Int) < (y.size : Int) := by omega
    have HF := Lib.hid (show E = 4 by rw [← HE.out]; simp [h2])
    clear h1 h2
    go_wp2_with fail
    go_ret
    exact retInt HF.out K2
  have hi2 : ¬ (255 : Int) < (y.size : Int) := by omega
  by_cases h3 : 8 < q.length
  · have hi3 : (8 : Int) < (q.length : Int) := by omega
    have HF := Lib.hid (show E = 4 by rw [← HE.out]; simp [h3])
    clear h1 h2 h3
    go_wp2_with fail
    go_ret
    exact retInt HF.out K2
  have hi3 : ¬ (8 : Int) < (q.length : Int) := by omega
  have HE2 := Lib.hid (show (if (inR t && inR s && q.all inR) = false then (1 : Int) else 0) = E by rw [← HE.out]; simp [h1, h2, h3])
  clear h1 h2 h3 HE
  have C1 := Lib.hid fun w' => inRange_c t w'
  have C2 := Lib.hid fun w' => inRange_c s w'
  have C3 := Lib.hid inRange_c
  generalize inR t = bt at *
  generalize inR s = bs at *
  cases bt
  · have HF := Lib.hid (show E = 1 by rw [← HE2.out]; rfl)
    go_wp2_with (go_at_call 70; refine (C1.out _).mono ?_; rintro e w3 ⟨rfl, rfl⟩)
    go_ret
    exact retInt HF.out K2
  cases bs
  · have HF := Lib.hid (show E = 1 by rw [← HE2.out]; rfl)
    go_wp2_with (first
      | (go_at_call 70; first | ((with_reducible refine (C1.out _).mono ?_); rintro e w3 ⟨rfl, rfl⟩) | ((with_reducible refine (C2.out _).mono ?_); rintro e w4 ⟨rfl, rfl⟩)))
    go_ret
    exact retInt HF.out K2
  go_wp2_with (go_at_call 70; first | ((with_reducible refine (C1.out _).mono ?_); rintro e w3 ⟨rfl, rfl⟩) | ((with_reducible refine (C2.out _).mono ?_); rintro e w4 ⟨rfl, rfl⟩))
  clear C1 C2 b2
  go_loopw [37, 4] (fun s37 _ wk => ∃ k : Nat, k ≤ q.length ∧ s37 = .int .i64 k ∧ (∀ i (hi : i < q.length), i < k → inR q[i] = true) ∧ w2.grownBy wk none) (fun s37 _ _ => q.length - (intOf s37).toNat)
  case atStart => exact ⟨0, Nat.zero_le _, rfl, by intro i hi h; omega, grownBy_refl _ _⟩
  case round =>
    obtain ⟨i, hi, rfl, hall, hg⟩ := hrel
    have Hall := Lib.hid hall
    clear hall
    by_cases hlt : i < q.length
    · obtain ⟨g, off, cap, hv, hgl, hc⟩ := RdL.one (fun _ => rfl) (HP.out.same (grownBy_trans K2 hg)) hlt
      cases hv
      have HN := Lib.hid (show inR q[i] = true → ∀ j (hj : j < q.length), j < i + 1 → inR q[j] = true from fun h j hj hji => by
        rcases Nat.lt_or_ge j i with h1 | h1
        · exact Hall.out j hj h1
        · obtain rfl : j = i := by omega
          exact h)
      have HF := Lib.hid (show inR q[i] = false → E = 1 from fun h => by rw [← HE2.out, all_not hlt h]; rfl)
      generalize q[i] = x at *
      have C4 := Lib.hid fun w' => C3.out x w'
      generalize inR x = bx at *
      clear Hall
      cases bx
      · have HF2 := Lib.hid (HF.out rfl)
        go_wp2_with (go_at_call 70; refine (C4.out _).mono ?_; rintro e w5 ⟨rfl, rfl⟩)
        go_ret
        exact retInt HF2.out (grownBy_trans K2 hg)
      · have HN2 := Lib.hid (HN.out rfl)
        go_wp2_with (go_at_call 70; refine (C4.out _).mono ?_; rintro e w5 ⟨rfl, rfl⟩)
        exact ⟨⟨i + 1, by omega, by go_num, HN2.out, hg⟩, by simp [intOf]; omega⟩
    · have HF := Lib.hid (show E = 0 by rw [← HE2.out, all_at fun j hj => Hall.out j hj (by omega)]; rfl)
      go_wp2_with fail
      go_ret
      exact retInt HF.out (grownBy_trans K2 hg)
end Go.Proofs.Ytniokdflljchgaa
