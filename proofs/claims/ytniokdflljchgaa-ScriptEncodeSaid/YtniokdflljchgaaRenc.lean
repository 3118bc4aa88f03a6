/- Numbers as bytes: the reference. -/
import Derived.Test.YtniokdflljchgaaVar
namespace Go.Proofs.Ytniokdflljchgaa
open Go.RowKit Go.Sort

set_option maxHeartbeats 1000000 in
set_option maxRecDepth 100000 in
theorem rappend_c (v : Value) (l : List UInt8) (n : Nat) (w : World) (h : RdL byF 1 w v l) (hn : n < 18446744073709551616) (hl : l.length ≤ 1000000000000) : Calls Try.prog 46 #[v, .int .u64 n] w (RetOwn byF 1 5 (l ++ vb n) w) := by
  obtain ⟨a, c, rfl⟩ := h.shape
  have H := Lib.hid h
  have hn64 : (n : Int) ≤ 18446744073709551615 := by omega
  have hb1 : l.length * 1 ≤ 140737488355328 := by omega
  have hb2 : l.length ≤ 9223372036854775807 := by omega
  have hten := vb_ten hn
  clear h hn
  go_enter Try.func46, Try.ntmps46
  go_upto_region 1 with fail
  have N := own_lit0 (e := 5) byF 1 (Nat.le_refl w.heap.size)
  have R := H.out.same (World.grownBy_alloc w (.cells #[] 5) none)
  go_wp2_with (at_builtin; refine app_lit elt_by one_by N R rfl hb1 hb2 (by simp) (by rfl) _ _ (by rfl) (by rfl) (by rfl) ?_; intro v4 w4 o4 g4 l4)
  have G4 : w.grownBy w4 none := grownBy_trans (World.grownBy_alloc w _ none) g4
  clear N R g4 l4
  go_loopw [1, 5] (fun s1 s5 wk => ∃ (m : Nat) (L : List UInt8), s1 = .int .u64 m ∧ (m : Int) ≤ 18446744073709551615 ∧ Own byF 1 5 w.heap.size wk s5 L ∧ L ++ vb m = l ++ vb n ∧ w.grownBy wk none) (fun s1 _ _ => (intOf s1).toNat)
  case atStart => exact ⟨n, l, rfl, hn64, o4, rfl, G4⟩
  case round =>
    obtain ⟨m, L, rfl, hm, hO, hLv, hg⟩ := hrel
    have hLl : L.length ≤ l.length + 10 := by
      have h1 := congrArg List.length hLv
      rw [List.length_append, List.length_append] at h1
      omega
    have HL := Lib.hid hLv
    have hb3 : (L.length + 1) * 1 ≤ 140737488355328 := by omega
    have hb4 : L.length + 1 ≤ 9223372036854775807 := by omega
    have hsz := hg.size
    clear hLv
    by_cases hbig : m < 128
    · have Hv := Lib.hid (vb_small hbig)
      have hm1 : (m : Int) < 128 := by omega
      have hw : IntKind.u8.wrap (m : Int) = ((UInt8.ofNat m).toNat : Int) := by rw [by_wrap, by_of (by omega)]; omega
      have Hcs := Lib.hid (show (#[Value.int .u8 ((UInt8.ofNat m).toNat : Int)] : Array Value).toList = byF (UInt8.ofNat m) from rfl)
      go_wp2_with (at_builtin; refine app_one elt_by one_by byF_len hO (UInt8.ofNat m) hb3 hb4 hsz Hcs.out rfl (.tmp 20) (.tmp 23) rfl rfl rfl ?_; intro v5 w5 o5 g5 l5)
      go_ret
      exact ⟨_, rfl, by rw [← HL.out, Hv.out]; exact o5, grown_own hg hO (Nat.le_refl _) g5⟩
    · have Hv := Lib.hid (vb_big hbig)
      have hm1 : (128 : Int) ≤ (m : Int) := by omega
      have hm2 : ¬ ((m : Int) < 128) := by omega
      obtain ⟨b0, hb0⟩ : ∃ b0, UInt8.ofNat (m % 128 + 128) = b0 := ⟨_, rfl⟩
      have hw2 : (b0.toNat : Int) = (m : Int) % 128 + 128 := by rw [← hb0, by_of (by omega)]; omega
      have Hcs := Lib.hid (show (#[Value.int .u8 ((m : Int) % 128 + 128)] : Array Value).toList = byF b0 by rw [← hw2]; rfl)
      rw [hb0] at Hv
      clear hb0 hw2
      go_wp2_with (at_builtin; refine app_one elt_by one_by byF_len hO b0 hb3 hb4 hsz Hcs.out rfl (.tmp 11) (.tmp 16) rfl rfl rfl ?_; intro v5 w5 o5 g5 l5)
      exact ⟨⟨m / 128, L ++ [b0], rfl, by omega, o5, by rw [List.append_assoc, List.singleton_append, ← Hv.out, HL.out], grown_own hg hO (Nat.le_refl _) g5⟩, by simp [intOf]; omega⟩
end Go.Proofs.Ytniokdflljchgaa
