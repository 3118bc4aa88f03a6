/- The reference's ledger: Accept. -/
import Derived.Test.YtniokdflljchgaaRled
import Derived.Test.YtniokdflljchgaaRg
namespace Go.Proofs.Ytniokdflljchgaa
open Go.RowKit Go.Sort

set_option maxHeartbeats 400000 in
theorem rfits_c (a b : Int) (w : World) (ha : W64 a) (hb : W64 b) : Calls Try.prog 57 #[.int .u64 a, .int .u64 b] w (fun e w' => e = .returned (.bool (fitsB a b)) ∧ w = w') := by
  have h3 := Lib.hid (show fitsB a b = decide (a + b ≤ 9223372036854775808) from rfl)
  unfold W64 at ha hb
  generalize fitsB a b = F at *
  by_cases h : a ≤ 9223372036854775808
  · have hwr : IntKind.u64.wrap (9223372036854775808 - a) = 9223372036854775808 - a := IntWalk.u64_in _ (by omega)
    have h4 := Lib.hid (show F = decide (b ≤ 9223372036854775808 - a) by rw [h3.out]; exact decide_eq_decide.2 (by omega))
    clear h3
    go_enter Try.func57, Try.ntmps57
    go_wp2
    all_goals
      go_ret
      exact ⟨by rw [h4.out]; rfl, rfl⟩
  · have h4 := Lib.hid (show F = false by rw [h3.out]; exact decide_eq_false (by omega))
    clear h3
    go_enter Try.func57, Try.ntmps57
    go_wp2
    go_ret
    exact ⟨by rw [h4.out]; rfl, rfl⟩

theorem ldHas_lt {w : Int} {L : List (Int × Int)} (hA : Asc L) (h : ldHas L w = true) : ldK L w < L.length ∧ L[ldK L w]? = some (w, ldAt L w) := by
  have h1 := (ldHas_at hA).1 h
  exact ⟨(List.getElem?_eq_some_iff.1 h1).1, h1⟩

set_option maxHeartbeats 800000 in
theorem rledTotal_c (S : Nat → Prop) (b : Nat) (L : List (Int × Int)) (acc : Int) (R : List Int) (win : Int) (w : World) (h : RLed S w b L acc R) : Calls Try.prog 33 #[.pointer (some ⟨b, 0, none⟩), .int .i64 win] w (RetWord (ldAt L win) w) := by
  have C := Lib.hid (rledAt_c S b L acc R win w h)
  have H := Lib.hid h
  obtain ⟨F, hF⟩ : ∃ F, ldHas L win = F := ⟨_, rfl⟩
  rw [hF] at C
  cases F
  · have h0 := Lib.hid (ldAt_no hF)
    clear h hF
    go_enter Try.func33, Try.ntmps33
    go_wp2_with (go_at_call 58; refine C.out.mono ?_; rintro e w1 ⟨rfl, g1⟩)
    go_ret
    exact retWord h0.out g1
  · obtain ⟨h1, h2⟩ := ldHas_lt h.asc hF
    obtain ⟨vw, vt, vr, H0⟩ := h.rl
    obtain ⟨oa, oc, rfl⟩ := H0.ot.shape
    have hlen : (L.map (·.2)).length = L.length := by simp
    obtain ⟨g, off, cap, hv, hgl, ck⟩ := H0.ot.rd.one word_one (k := ldK L win) (by rw [hlen]; exact h1)
    have e1 : (L.map (·.2))[ldK L win]'(by rw [hlen]; exact h1) = ldAt L win := by
      rw [List.getElem_map]
      have := (List.getElem?_eq_some_iff.1 h2).2
      rw [this]
    rw [e1] at ck
    rw [hlen] at *
    cases hv
    have hA := H0.blk.cell 1
    unfold rledA at hA
    have hbl := H0.blk.lt
    have HC := Lib.hid fun w' (k : World.grownBy w w' none) => ((grownBy_cells k).1 g (off + ldK L win) hgl (by simp)).trans ck
    have HB := Lib.hid fun w' (k : World.grownBy w w' none) => ((grownBy_cells k).1 b 1 hbl (by simp)).trans hA
    clear h hF e1 h2 H0 ck hA
    generalize ldAt L win = T at *
    generalize ldK L win = K at *
    have hk0 : (0 : Int) ≤ (K : Int) := by omega
    have hk1 : (K : Int) < (L.length : Int) := by omega
    go_enter Try.func33, Try.ntmps33
    go_wp2_with (go_at_call 58; refine C.out.mono ?_; rintro e w1 ⟨rfl, g1⟩; have cx := HC.out _ g1; have bx := HB.out _ g1)
    go_ret
    exact retWord rfl g1

set_option maxHeartbeats 400000 in
theorem rledFits_c (S : Nat → Prop) (b : Nat) (L : List (Int × Int)) (acc : Int) (R : List Int) (win x : Int) (w : World) (h : RLed S w b L acc R) (hx : W64 x) : Calls Try.prog 28 #[.pointer (some ⟨b, 0, none⟩), .int .i64 win, .int .u64 x] w (RetBool (fitsB (ldAt L win) x) w) := by
  have C := Lib.hid (rledTotal_c S b L acc R win w h)
  have C2 := Lib.hid fun w => rfits_c (ldAt L win) x w (ldAt_w h.vals win) hx
  clear h
  generalize ldAt L win = T at *
  go_enter Try.func28, Try.ntmps28
  go_wp2_with (first
    | (go_at_call 33; refine C.out.mono ?_; rintro e w1 ⟨rfl, g1⟩)
    | (go_at_call 57; refine (C2.out _).mono ?_; rintro e w2 ⟨rfl, rfl⟩))
  go_ret
  exact retBool rfl g1

/-- The windows are set anew. -/
theorem RL.setW {S : Nat → Prop} {w0 w : World} {b N : Nat} {vw vt vr v : Value} {W T W' : List Int} {acc : Int} {R : List Int} (h : RL S w0 b vw vt vr W T acc R) (hN : N = w0.heap.size) (hS : ∀ i, N ≤ i → S i) (k : GrownS (fun i => N ≤ i) w0 w) (o : Own intF 1 3 N w v W') :
    RL S (w.setCell ⟨b, 0, none⟩ v) b v vt vr W' T acc R ∧ GrownS S w0 (w.setCell ⟨b, 0, none⟩ v) := by
  subst hN
  have hbl := h.blk.lt
  have gs := grownBy_set (grownBy_refl w (some b)) 0 v
  have hv : ∀ g, v.ownBlock = some g → S g ∧ g ≠ b := fun g hg => by have := (o.lt g hg).1; exact ⟨hS g this, by omega⟩
  have B1 := h.blk.keptS k (by omega)
  have ot := (h.ot.keptS k (fun g hg => by have := (h.ot.lt g hg).2; omega)).kept gs (fun g hg e => by cases e; exact (h.st _ hg).2 rfl)
  have or := (h.or.keptS k (fun g hg => by have := (h.or.lt g hg).2; omega)).kept gs (fun g hg e => by cases e; exact (h.sr _ hg).2 rfl)
  have ow := ((o.base (B' := 0) (fun _ _ => Nat.zero_le _)).kept gs (fun g hg e => by cases e; exact (hv _ hg).2 rfl))
  refine ⟨⟨B1.set_ 0 v rfl, ow, ot, or, h.sb, hv, h.st, h.sr, fun g hg e => ?_, fun g hg e => ?_, h.atr⟩, (k.mono (fun i hi _ => hS i hi)).trans (GrownS.of gs (fun k e => by cases e; exact h.sb)) (fun i hi _ => hi)⟩
  · have := (o.lt g hg).1; have := (h.ot.lt g e).2; omega
  · have := (o.lt g hg).1; have := (h.or.lt g e).2; omega
/-- The totals are set anew. -/
theorem RL.setT {S : Nat → Prop} {w0 w : World} {b N : Nat} {vw vt vr v : Value} {W T T' : List Int} {acc : Int} {R : List Int} (h : RL S w0 b vw vt vr W T acc R) (hN : N = w0.heap.size) (hS : ∀ i, N ≤ i → S i) (k : GrownS (fun i => N ≤ i) w0 w) (o : Own wordF 1 47 N w v T') :
    RL S (w.setCell ⟨b, 1, none⟩ v) b vw v vr W T' acc R ∧ GrownS S w0 (w.setCell ⟨b, 1, none⟩ v) := by
  subst hN
  have hbl := h.blk.lt
  have gs := grownBy_set (grownBy_refl w (some b)) 1 v
  have hv : ∀ g, v.ownBlock = some g → S g ∧ g ≠ b := fun g hg => by have := (o.lt g hg).1; exact ⟨hS g this, by omega⟩
  have B1 := h.blk.keptS k (by omega)
  have ow := (h.ow.keptS k (fun g hg => by have := (h.ow.lt g hg).2; omega)).kept gs (fun g hg e => by cases e; exact (h.sw _ hg).2 rfl)
  have or := (h.or.keptS k (fun g hg => by have := (h.or.lt g hg).2; omega)).kept gs (fun g hg e => by cases e; exact (h.sr _ hg).2 rfl)
  have ot := ((o.base (B' := 0) (fun _ _ => Nat.zero_le _)).kept gs (fun g hg e => by cases e; exact (hv _ hg).2 rfl))
  refine ⟨⟨B1.set_ 1 v rfl, ow, ot, or, h.sb, h.sw, hv, h.sr, fun g hg e => ?_, h.awr, fun g hg e => ?_⟩, (k.mono (fun i hi _ => hS i hi)).trans (GrownS.of gs (fun k e => by cases e; exact h.sb)) (fun i hi _ => hi)⟩
  · have := (o.lt g e).1; have := (h.ow.lt g hg).2; omega
  · have := (o.lt g hg).1; have := (h.or.lt g e).2; omega
/-- The count of accepted events is set. -/
theorem RL.setA {S : Nat → Prop} {w : World} {b : Nat} {vw vt vr : Value} {W T : List Int} {acc acc' : Int} {R : List Int} (h : RL S w b vw vt vr W T acc R) :
    RL S (w.setCell ⟨b, 2, none⟩ (.int .i64 acc')) b vw vt vr W T acc' R ∧ GrownS S w (w.setCell ⟨b, 2, none⟩ (.int .i64 acc')) := by
  have gs := grownBy_set (grownBy_refl w (some b)) 2 (.int .i64 acc')
  exact ⟨⟨h.blk.set_ 2 _ rfl, h.ow.kept gs (fun g hg e => by cases e; exact (h.sw _ hg).2 rfl), h.ot.kept gs (fun g hg e => by cases e; exact (h.st _ hg).2 rfl), h.or.kept gs (fun g hg e => by cases e; exact (h.sr _ hg).2 rfl), h.sb, h.sw, h.st, h.sr, h.awt, h.awr, h.atr⟩, GrownS.of gs (fun k e => by cases e; exact h.sb)⟩
theorem setF {f : Int → List Value} {u : Int → Value} (hu : ∀ x, f x = [u x]) {T : List Int} {i : Nat} (hi : i < T.length) (x : Int) : f x = (f T[i]).set 0 (u x) := by rw [hu, hu]; rfl
/-- A total is stored in its place. -/
theorem RL.putT {S : Nat → Prop} {w : World} {b g n cap : Nat} {vw vr : Value} {W T : List Int} {acc : Int} {R : List Int} (h : RL S w b vw (.slice (some ⟨g, 0, none⟩) n cap) vr W T acc R) {i : Nat} (hi : i < T.length) (x : Int) :
    RL S (w.setCell ⟨g, i, none⟩ (.int .u64 x)) b vw (.slice (some ⟨g, 0, none⟩) n cap) vr W (T.set i x) acc R ∧ GrownS S w (w.setCell ⟨g, i, none⟩ (.int .u64 x)) := by
  obtain ⟨h1, h2⟩ := h.ot.stored wordF_len hi (show 0 < 1 by omega) (.int .u64 x) x rfl
  rw [Nat.mul_one, Nat.add_zero] at h1 h2
  have hs := h.st g rfl
  exact ⟨⟨h.blk.kept h2 (by simp; exact hs.2), h.ow.kept h2 (fun k hk e => by cases e; exact h.awt _ hk rfl), h1, h.or.kept h2 (fun k hk e => by cases e; exact h.atr _ rfl hk), h.sb, h.sw, h.st, h.sr, h.awt, h.awr, h.atr⟩, GrownS.of h2 (fun k e => by cases e; exact hs.1)⟩
/-- A count of rejected events is stored in its place. -/
theorem RL.putR {S : Nat → Prop} {w : World} {b g n cap : Nat} {vw vt : Value} {W T : List Int} {acc : Int} {R : List Int} (h : RL S w b vw vt (.slice (some ⟨g, 0, none⟩) n cap) W T acc R) {i : Nat} (hi : i < R.length) (x : Int) :
    RL S (w.setCell ⟨g, i, none⟩ (.int .u64 x)) b vw vt (.slice (some ⟨g, 0, none⟩) n cap) W T acc (R.set i x) ∧ GrownS S w (w.setCell ⟨g, i, none⟩ (.int .u64 x)) := by
  obtain ⟨h1, h2⟩ := h.or.stored wordF_len hi (show 0 < 1 by omega) (.int .u64 x) x rfl
  rw [Nat.mul_one, Nat.add_zero] at h1 h2
  have hs := h.sr g rfl
  exact ⟨⟨h.blk.kept h2 (by simp; exact hs.2), h.ow.kept h2 (fun k hk e => by cases e; exact h.awr _ hk rfl), h.ot.kept h2 (fun k hk e => by cases e; exact h.atr _ hk rfl), h1, h.sb, h.sw, h.st, h.sr, h.awt, h.awr, h.atr⟩, GrownS.of h2 (fun k e => by cases e; exact hs.1)⟩
end Go.Proofs.Ytniokdflljchgaa
