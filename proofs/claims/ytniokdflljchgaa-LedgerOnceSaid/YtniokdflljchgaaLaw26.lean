/- The laws of chapter 26: the example; LedgerLimit. -/
import Derived.Test.YtniokdflljchgaaLed3
import Derived.Test.YtniokdflljchgaaKeep
import Derived.Test.YtniokdflljchgaaSame
namespace Go.Proofs.Ytniokdflljchgaa
open Go.RowKit Go.Maps Go.Sort

theorem two_base {w0 w w' : World} {b bm : Nat} (h : w0.grownBy w none) (k : GrownS (Two b bm) w w') (hb : w0.heap.size ≤ b) (hm : w0.heap.size ≤ bm) : w0.grownBy w' none :=
  k.base h fun i hi => by rcases hi with rfl | rfl <;> assumption

set_option maxHeartbeats 800000 in
theorem awake26_c (w : World) : Calls Try.prog 24 #[] w (RetBool true w) := by
  go_enter Try.func24, Try.ntmps24
  go_upto_region 2 with (go_at_call 19; refine (ledNew_c _).mono ?_; rintro e w1 ⟨b, bm, rfl, h1, hb, hbm, hb1, hbm1, g1⟩)
  have H1 := Lib.hid h1
  clear h1
  go_upto_region 5 with (first
    | (go_at_call 23; refine (ledAccept_c b bm 2 [(3, 9223372036854775808)] 1 _ 4 1 _ H3.out (by unfold I64; omega) (by unfold W64; omega) (by omega) (by omega)).mono ?_; rintro e w4 ⟨rfl, h4, k4⟩; rw [show fitsB (ldAt [(3, 9223372036854775808)] 4) 1 = true from rfl, show accL [(3, 9223372036854775808)] 4 1 = [(3, 9223372036854775808), (4, 1)] from rfl, show accN [(3, 9223372036854775808)] 4 1 1 = 2 from rfl] at *; have H4 := Lib.hid h4; have G4 := two_base G3 k4 hb hbm; clear h4 k4)
    | (go_at_call 23; refine (ledAccept_c b bm 1 [(3, 9223372036854775808)] 1 _ 3 1 _ H2.out (by unfold I64; omega) (by unfold W64; omega) (by omega) (by omega)).mono ?_; rintro e w3 ⟨rfl, h3, k3⟩; rw [show fitsB (ldAt [(3, 9223372036854775808)] 3) 1 = false from rfl, show accL [(3, 9223372036854775808)] 3 1 = [(3, 9223372036854775808)] from rfl, show accN [(3, 9223372036854775808)] 3 1 1 = 1 from rfl] at *; have H3 := Lib.hid h3; have G3 := two_base G2 k3 hb hbm; clear h3 k3)
    | (go_at_call 23; refine (ledAccept_c b bm 0 [] 0 _ 3 9223372036854775808 _ H1.out (by unfold I64; omega) (by unfold W64; omega) (by omega) (by omega)).mono ?_; rintro e w2 ⟨rfl, h2, k2⟩; rw [show fitsB (ldAt [] 3) 9223372036854775808 = true from rfl, show accL [] 3 9223372036854775808 = [(3, 9223372036854775808)] from rfl, show accN [] 3 9223372036854775808 0 = 1 from rfl] at *; have H2 := Lib.hid h2; have G2 := two_base g1 k2 hb hbm; clear h2 k2))
  clear H1 H2 H3
  go_wp2_with (first
    | (go_at_call 35; refine (ledWindows_c b bm 3 _ _ _ _ H4.out (by omega)).mono ?_; rintro e w5 ⟨v, rfl, o5, g5⟩; have R5 : RdL intF 1 w5 v [3, 4] := o5.rd; have G5 := grownBy_trans G4 g5)
    | (go_at_call 34; refine (sameInts_c v _ [3, 4] [3, 4] _ (R5.same (World.grownBy_alloc _ _ _)) ((Blk.new w5 #[.int .i64 3, .int .i64 4] 3).manyK (f := intF) (size := 1) (fun _ => rfl) [3, 4] rfl (by decide))).mono ?_; rw [show decide (([3, 4] : List Int) = [3, 4]) = true from rfl]; rintro e w6 ⟨rfl, g6⟩))
  go_ret
  exact retBool rfl (grownBy_trans G5 (grownBy_trans (World.grownBy_alloc _ _ none) g6))

def Capped (L : List (Int × Int)) : Prop := ∀ p ∈ L, p.2 ≤ 9223372036854775808
theorem ldAt_cap {L : List (Int × Int)} (h : Capped L) (w : Int) : ldAt L w ≤ 9223372036854775808 := by
  induction L with
  | nil => simp [ldAt]
  | cons p L ih =>
    simp only [ldAt]; split
    · exact h p (by simp)
    · exact ih fun q hq => h q (List.mem_cons_of_mem p hq)
theorem capped_put {w n : Int} (hs0 : 0 ≤ n) : ∀ {L : List (Int × Int)}, Asc L → Capped L → ldAt L w + n ≤ 9223372036854775808 → Capped (ldPut L w n)
  | [], _, _, hs, p, hp => by simp [ldPut] at hp; subst hp; simpa [ldAt] using hs
  | q :: L, hA, h, hs, p, hp => by
    simp only [ldPut] at hp
    simp only [ldAt] at hs
    by_cases a : q.1 < w
    · rw [if_pos a] at hp
      rw [if_neg (by omega)] at hs
      rcases List.mem_cons.1 hp with rfl | hp
      · exact h p (by simp)
      · exact capped_put hs0 (asc_cons hA).2 (fun x hx => h x (List.mem_cons_of_mem q hx)) hs p hp
    · rw [if_neg a] at hp
      by_cases c : q.1 = w
      · rw [if_pos c] at hp hs
        rcases List.mem_cons.1 hp with rfl | hp
        · exact hs
        · exact h p (List.mem_cons_of_mem q hp)
      · rw [if_neg c] at hp hs
        rw [ldAt_gt fun x hx => by have := (asc_cons hA).1 x hx; omega] at hs
        rcases List.mem_cons.1 hp with rfl | hp
        · simpa using hs
        · exact h p hp
theorem capped_acc {L : List (Int × Int)} {w x : Int} (hA : Asc L) (h : Capped L) (hx : 0 ≤ x) : Capped (accL L w x) := by
  unfold accL
  split
  · rename_i hf
    exact capped_put hx hA h (by unfold fitsB at hf; exact of_decide_eq_true hf)
  · exact h

set_option maxHeartbeats 1600000 in
set_option maxRecDepth 100000 in
theorem limit_w (v : Value) (ws : List Int) (win : Int) (w : World) (hv : RdL wordF 1 w v ws) (hws : ∀ x ∈ ws, W64 x) (hw : I64 win) : Calls Try.prog 6 #[v, .int .i64 win] w (RetBool true w) := by
  obtain ⟨va, vc, rfl⟩ := hv.shape
  have hm := hv.2.1
  have HV := Lib.hid hv
  have HW := Lib.hid hws
  have HI := Lib.hid hw
  clear hv hws hw
  go_enter Try.func6, Try.ntmps6
  go_upto_region 2 with (go_at_call 19; refine (ledNew_c _).mono ?_; rintro e w1 ⟨b, bm, rfl, h1, hb, hbm, hb1, hbm1, g1⟩)
  have H1 := Lib.hid h1
  clear h1
  go_wp2_with fail
  go_loopw [6] (fun s6 wk => ∃ (k : Nat) (L : List (Int × Int)) (acc : Int), k ≤ ws.length ∧ k ≤ 50 ∧ s6 = .int .i64 k ∧ 0 ≤ acc ∧ acc ≤ k ∧ Capped L ∧ Led wk b bm k L acc [0, 0, 0, 0, 0, 0, 0] ∧ w.grownBy wk none) (fun s6 _ => ws.length - (Go.RowKit.intOf s6).toNat)
  case atStart => exact ⟨0, [], 0, Nat.zero_le _, by omega, rfl, by omega, by omega, by simp [Capped], H1.out, g1⟩
  case round =>
    obtain ⟨k, L, acc, hk, hk2, rfl, ha0, ha1, hC, hL, hg⟩ := hrel
    have HL := Lib.hid hL
    have HC := Lib.hid hC
    clear H1 g1 hb1 hbm1 hL hC
    by_cases hlt : k < ws.length ∧ k < 50
    · obtain ⟨hlt, hlt50⟩ := hlt
      obtain ⟨g, off, cap, hv, hgl, ck⟩ := HV.out.one word_one hlt
      cases hv
      have hx := HW.out _ (List.getElem_mem hlt)
      generalize ws[k] = x at *
      have hlt2 : (k : Int) < (ws.length : Int) := by omega
      have hk0 : (0 : Int) ≤ (k : Int) := by omega
      have hlt3 : (k : Int) < 50 := by omega
      have HX := Lib.hid hx
      have HCk := Lib.hid fun w' (h : World.grownBy w w' none) => ((grownBy_cells h).1 g (off + k) hgl (by simp)).trans ck
      have CT := Lib.hid (p := ∀ (n : Nat) L acc w' T, ldAt L win = T → Led w' b bm n L acc [0, 0, 0, 0, 0, 0, 0] → Calls Try.prog 20 #[.pointer (some ⟨b, 0, none⟩), .int .i64 win] w' (RetWord T w')) fun n L acc w' T e h => by subst e; exact ledTotal_c b bm n L acc [0, 0, 0, 0, 0, 0, 0] win w' h HI.out
      have CA := Lib.hid fun (n : Nat) L acc w' (h : Led w' b bm n L acc [0, 0, 0, 0, 0, 0, 0]) => ledAccepted_c b bm n L acc [0, 0, 0, 0, 0, 0, 0] w' h
      have HAT := Lib.hid (show W64 (ldAt L win) ∧ ldAt L win ≤ 9223372036854775808 from ⟨ldAt_w HL.out.vals win, ldAt_cap HC.out win⟩)
      have HP := Lib.hid (show ldAt (ldPut L win x) win = ldAt L win + x by rw [ldAt_put HL.out.asc, if_pos rfl])
      have HCA := Lib.hid (capped_acc (w := win) HL.out.asc HC.out hx.1)
      obtain ⟨F, hF⟩ : ∃ F, fitsB (ldAt L win) x = F := ⟨_, rfl⟩
      have CF := Lib.hid fun w' (h : Led w' b bm k L acc [0, 0, 0, 0, 0, 0, 0]) => ledFits_c b bm k L acc [0, 0, 0, 0, 0, 0, 0] win x w' h HI.out HX.out
      have CC := Lib.hid fun w' (h : Led w' b bm k L acc [0, 0, 0, 0, 0, 0, 0]) => ledAccept_c b bm k L acc [0, 0, 0, 0, 0, 0, 0] win x w' h HI.out HX.out (by omega) (by omega)
      rw [hF] at CF CC
      clear hx ck hgl hlt
      cases F
      · have hL2 : accL L win x = L := by unfold accL; rw [hF]; rfl
        have hN2 : accN L win x acc = acc := by unfold accN; rw [hF]; rfl
        rw [hL2, hN2] at CC
        clear hF hL2 hN2 HCA HP HX
        obtain ⟨T, hT⟩ : ∃ T, ldAt L win = T := ⟨_, rfl⟩
        rw [hT] at HAT
        have HT := Lib.hid hT
        have hTm := HAT.out.2
        have hne : (T != T) = false := by simp
        have hna : (acc != acc) = false := by simp
        clear hT
        go_upto_region 9 with (first
          | (go_at_call 20; refine (CT.out k L acc _ T HT.out HL.out).mono ?_; rintro e w2 ⟨rfl, g2⟩; have H2 := Lib.hid (HL.out.same g2))
          | (go_at_call 21; refine (CA.out k L acc _ H2.out).mono ?_; rintro e w3 ⟨rfl, g3⟩; have H3 := Lib.hid (H2.out.same g3); have K3 := grownBy_trans g2 g3; have c3 := HCk.out _ (grownBy_trans hg K3))
          | (go_at_call 22; refine (CF.out _ H3.out).mono ?_; rintro e w4 ⟨rfl, g4⟩; have H4 := Lib.hid (H3.out.same g4); have K4 := grownBy_trans K3 g4; have c4 := HCk.out _ (grownBy_trans hg K4)))
        clear c3
        go_upto_region 12 with (first
          | (go_at_call 23; refine (CC.out _ H4.out).mono ?_; rintro e w5 ⟨rfl, h5, k5⟩; have H5 := Lib.hid h5; have G5 := two_base (grownBy_trans hg K4) k5 hb hbm; clear h5 k5)
          | (go_at_call 20; refine (CT.out (k + 1) L acc _ T HT.out H5.out).mono ?_; rintro e w6 ⟨rfl, g6⟩; have H6 := Lib.hid (H5.out.same g6); have G6 := grownBy_trans G5 g6))
        go_wp2_with (go_at_call 21; refine (CA.out (k + 1) L acc _ H6.out).mono ?_; rintro e w7 ⟨rfl, g7⟩; have H7 := Lib.hid (H6.out.same g7); have G7 := grownBy_trans G6 g7)
        exact ⟨⟨k + 1, L, acc, by omega, by omega, by go_num, ha0, by omega, HC.out, H7.out, G7⟩, by simp [Go.RowKit.intOf]; omega⟩
      · have hL2 : accL L win x = ldPut L win x := by unfold accL; rw [hF]; rfl
        have hN2 : accN L win x acc = acc + 1 := by unfold accN; rw [hF]; rfl
        rw [hL2, hN2] at CC
        rw [hL2] at HCA
        have hsum : ldAt L win + x ≤ 9223372036854775808 := by unfold fitsB at hF; exact of_decide_eq_true hF
        obtain ⟨T, hT⟩ : ∃ T, ldAt L win = T := ⟨_, rfl⟩
        rw [hT] at HAT HP hsum
        have HT := Lib.hid hT
        have hT0 := HAT.out.1
        have hx0 := HX.out
        unfold W64 at hT0 hx0
        have hwr : IntKind.u64.wrap (T + x - T) = x := by rw [show T + x - T = x by omega]; exact IntWalk.u64_in _ (by omega)
        have hwa : IntKind.i64.wrap (acc + 1) = acc + 1 := IntWalk.i64_in _ (by omega)
        have hne : (x != x) = false := by simp
        have hna : (acc + 1 != acc + 1) = false := by simp
        clear hF hL2 hN2 hT
        generalize ldPut L win x = L2 at *
        go_upto_region 9 with (first
          | (go_at_call 20; refine (CT.out k L acc _ T HT.out HL.out).mono ?_; rintro e w2 ⟨rfl, g2⟩; have H2 := Lib.hid (HL.out.same g2))
          | (go_at_call 21; refine (CA.out k L acc _ H2.out).mono ?_; rintro e w3 ⟨rfl, g3⟩; have H3 := Lib.hid (H2.out.same g3); have K3 := grownBy_trans g2 g3; have c3 := HCk.out _ (grownBy_trans hg K3))
          | (go_at_call 22; refine (CF.out _ H3.out).mono ?_; rintro e w4 ⟨rfl, g4⟩; have H4 := Lib.hid (H3.out.same g4); have K4 := grownBy_trans K3 g4; have c4 := HCk.out _ (grownBy_trans hg K4)))
        clear c3
        go_upto_region 12 with (first
          | (go_at_call 23; refine (CC.out _ H4.out).mono ?_; rintro e w5 ⟨rfl, h5, k5⟩; have H5 := Lib.hid h5; have G5 := two_base (grownBy_trans hg K4) k5 hb hbm; clear h5 k5)
          | (go_at_call 20; refine (CT.out (k + 1) L2 (acc + 1) _ (T + x) HP.out H5.out).mono ?_; rintro e w6 ⟨rfl, g6⟩; have H6 := Lib.hid (H5.out.same g6); have G6 := grownBy_trans G5 g6; have c6 := HCk.out _ G6))
        clear c4
        go_wp2_with (go_at_call 21; refine (CA.out (k + 1) L2 (acc + 1) _ H6.out).mono ?_; rintro e w7 ⟨rfl, g7⟩; have H7 := Lib.hid (H6.out.same g7); have G7 := grownBy_trans G6 g7)
        exact ⟨⟨k + 1, L2, acc + 1, by omega, by omega, by go_num, by omega, by omega, HCA.out, H7.out, G7⟩, by simp [Go.RowKit.intOf]; omega⟩
    · have hn : ¬ ((k : Int) < (ws.length : Int)) ∨ ¬ ((k : Int) < 50) := by omega
      rcases hn with hn | hn
      · go_wp2_with (go_at_call 24; refine (awake26_c _).mono ?_; rintro e w6 ⟨rfl, G6⟩)
        go_ret
        exact retBool rfl (grownBy_trans hg G6)
      · by_cases hn2 : (k : Int) < (ws.length : Int)
        · go_wp2_with (go_at_call 24; refine (awake26_c _).mono ?_; rintro e w6 ⟨rfl, G6⟩)
          go_ret
          exact retBool rfl (grownBy_trans hg G6)
        · go_wp2_with (go_at_call 24; refine (awake26_c _).mono ?_; rintro e w6 ⟨rfl, G6⟩)
          go_ret
          exact retBool rfl (grownBy_trans hg G6)
end Go.Proofs.Ytniokdflljchgaa
