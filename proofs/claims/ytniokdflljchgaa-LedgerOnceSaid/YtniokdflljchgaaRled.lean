/- The reference's ledger: how it lies; where a window stands. -/
import Derived.Test.YtniokdflljchgaaKeep
import Derived.Test.YtniokdflljchgaaLedP
import Derived.Test.YtniokdflljchgaaLed
import Derived.Test.YtniokdflljchgaaOwn2
namespace Go.Proofs.Ytniokdflljchgaa
open Go.RowKit Go.Sort

theorem one_int : OneF intF := by intro x u hu; simp [intF] at hu; subst hu; rfl
theorem elt_int : Elt 23 3 (.int .i64 0) 1 8 := ⟨Try.underlying23, by kernel_rfl, rfl, by decide⟩
def rledA (vw vt : Value) (acc : Int) (vr : Value) : Array Value := #[vw, vt, .int .i64 acc, vr]
/-- The reference's ledger in the blocks that S allows. -/
structure RL (S : Nat → Prop) (w : World) (b : Nat) (vw vt vr : Value) (W T : List Int) (acc : Int) (R : List Int) : Prop where
  blk : Blk w b (rledA vw vt acc vr)
  ow : Own intF 1 3 0 w vw W
  ot : Own wordF 1 47 0 w vt T
  or : Own wordF 1 47 0 w vr R
  sb : S b
  sw : ∀ g, vw.ownBlock = some g → S g ∧ g ≠ b
  st : ∀ g, vt.ownBlock = some g → S g ∧ g ≠ b
  sr : ∀ g, vr.ownBlock = some g → S g ∧ g ≠ b
  awt : Apart vw vt
  awr : Apart vw vr
  atr : Apart vt vr
theorem RL.keptS {S S' : Nat → Prop} {w w' : World} {b : Nat} {vw vt vr : Value} {W T : List Int} {acc : Int} {R : List Int} (h : RL S w b vw vt vr W T acc R) (k : GrownS S' w w') (hd : ∀ i, S i → ¬ S' i) : RL S w' b vw vt vr W T acc R :=
  ⟨h.blk.keptS k (hd _ h.sb), h.ow.keptS k (fun g hg => hd _ (h.sw g hg).1), h.ot.keptS k (fun g hg => hd _ (h.st g hg).1), h.or.keptS k (fun g hg => hd _ (h.sr g hg).1), h.sb, h.sw, h.st, h.sr, h.awt, h.awr, h.atr⟩
theorem RL.same {S : Nat → Prop} {w w' : World} {b : Nat} {vw vt vr : Value} {W T : List Int} {acc : Int} {R : List Int} (h : RL S w b vw vt vr W T acc R) (k : w.grownBy w' none) : RL S w' b vw vt vr W T acc R :=
  h.keptS (GrownS.none_ (S := fun _ => False) k) (fun _ _ => id)
/-- The windows with their totals. -/
structure RLed (S : Nat → Prop) (w : World) (b : Nat) (L : List (Int × Int)) (acc : Int) (R : List Int) : Prop where
  rl : ∃ vw vt vr, RL S w b vw vt vr (L.map (·.1)) (L.map (·.2)) acc R
  asc : Asc L
  keys : ∀ p ∈ L, I64 p.1
  vals : ∀ p ∈ L, W64 p.2
  len : R.length = 7
  rw : ∀ r ∈ R, W64 r
theorem RLed.keptS {S S' : Nat → Prop} {w w' : World} {b : Nat} {L : List (Int × Int)} {acc : Int} {R : List Int} (h : RLed S w b L acc R) (k : GrownS S' w w') (hd : ∀ i, S i → ¬ S' i) : RLed S w' b L acc R := by
  obtain ⟨vw, vt, vr, h1⟩ := h.rl
  exact ⟨⟨vw, vt, vr, h1.keptS k hd⟩, h.asc, h.keys, h.vals, h.len, h.rw⟩
theorem RLed.same {S : Nat → Prop} {w w' : World} {b : Nat} {L : List (Int × Int)} {acc : Int} {R : List Int} (h : RLed S w b L acc R) (k : w.grownBy w' none) : RLed S w' b L acc R :=
  h.keptS (GrownS.none_ (S := fun _ => False) k) (fun _ _ => id)
theorem ldK_at {w : Int} : ∀ {L : List (Int × Int)} {p : Int × Int}, L[ldK L w]? = some p → ¬ p.1 < w
  | [], p, h => by simp [ldK] at h
  | q :: L, p, h => by
    simp only [ldK] at h
    split at h
    · exact ldK_at (L := L) (by simpa using h)
    · simp at h; subst h; assumption

set_option maxHeartbeats 400000 in
theorem rledNew_c (w : World) : Calls Try.prog 27 #[] w (fun e w' => ∃ b, e = .returned (.pointer (some ⟨b, 0, none⟩)) ∧ RLed (fun i => w.heap.size ≤ i) w' b [] 0 [0, 0, 0, 0, 0, 0, 0] ∧ w.grownBy w' none) := by
  have hmk : ∀ w, (Instr.makeSlice 44 (.int .i64 7) (.int .i64 7)).run Try.prog w = .ok (.slice (some ⟨w.heap.size, 0, none⟩) 7 7) (w.alloc (.cells #[.int .u64 0, .int .u64 0, .int .u64 0, .int .u64 0, .int .u64 0, .int .u64 0, .int .u64 0] 47)) := fun _ => by kernel_rfl
  go_enter Try.func27, Try.ntmps27
  go_wp2
  go_ret
  refine ⟨w.heap.size + 1, by simp, ⟨⟨.slice none 0 0, .slice none 0 0, .slice (some ⟨w.heap.size, 0, none⟩) 7 7, ?_⟩, by simp [Asc], by simp, by simp, rfl, fun r hr => by simp at hr; subst hr; exact ⟨by omega, by omega⟩⟩, (by (repeat (first | exact grownBy_refl _ _ | assumption | refine grownBy_new_block ?_ _ | refine grownBy_drew ?_ | refine grownBy_drewN ?_ _ | refine grownBy_setNew ?_ (by first | (simp; done) | omega | (simp; omega)) _)))⟩
  refine ⟨Blk.new' _ _ _ (by simp), Own.nil _ _ _ _ _, Own.nil _ _ _ _ _, ?_, by show _ ≤ _; omega, by simp [Value.ownBlock], by simp [Value.ownBlock], fun g hg => ?_, apart_nil _, apart_nil _, apart_nil _⟩
  · refine Own.same (w := w.alloc (.cells #[.int .u64 0, .int .u64 0, .int .u64 0, .int .u64 0, .int .u64 0, .int .u64 0, .int .u64 0] 47)) ⟨rfl, .inr ⟨w.heap.size, 7, _, rfl, by omega, heap_alloc_new w _, by simp, by unfold maxLen; omega, by simp, by simp [cellsOf, wordF]⟩⟩ (World.grownBy_alloc _ _ none)
  · simp [Value.ownBlock] at hg; subst hg; exact ⟨by show _ ≤ _; omega, by omega⟩

set_option maxHeartbeats 800000 in
theorem rledAt_c (S : Nat → Prop) (b : Nat) (L : List (Int × Int)) (acc : Int) (R : List Int) (win : Int) (w : World) (h : RLed S w b L acc R) : Calls Try.prog 58 #[.pointer (some ⟨b, 0, none⟩), .int .i64 win] w (RetVal (.tuple #[.int .i64 (ldK L win), .bool (ldHas L win)]) w) := by
  obtain ⟨vw, vt, vr, H0⟩ := h.rl
  obtain ⟨oa, oc, rfl⟩ := H0.ow.shape
  have H := Lib.hid H0
  have hlen : (L.map (·.1)).length = L.length := by simp
  have hK0 := ldK_le (w := win) (L := L)
  have HK1 := Lib.hid fun j p (h1 : j < ldK L win) (h2 : L[j]? = some p) => ldK_lt h1 h2
  have HK2 := Lib.hid fun p (h1 : L[ldK L win]? = some p) => ldK_at h1
  have HA := Lib.hid h.asc
  have HE := Lib.hid (ldHas_end (w := win) h.asc)
  have HY := Lib.hid fun p (h1 : L[ldK L win]? = some p) (h2 : p.1 = win) => ldHas_yes (w := win) h1 h2
  have HNo := Lib.hid fun p (h1 : L[ldK L win]? = some p) (h2 : p.1 ≠ win) => ldHas_no (w := win) h.asc h1 h2
  have hml : L.length ≤ 9223372036854775807 := by have := H0.ow.rd.2.1; rwa [hlen] at this
  have HL := Lib.hid hlen
  rw [hlen] at H
  clear H0 h hlen
  generalize ldK L win = K at *
  generalize ldHas L win = F at *
  go_enter Try.func58, Try.ntmps58
  go_wp2
  go_loopw [6] (fun s6 wk => ∃ k : Nat, k ≤ K ∧ s6 = .int .i64 k ∧ w.grownBy wk none) (fun s6 _ => K - (Go.RowKit.intOf s6).toNat)
  case atStart => exact ⟨0, Nat.zero_le _, rfl, grownBy_refl _ _⟩
  case round =>
    obtain ⟨k, hk, rfl, hg⟩ := hrel
    have HR := Lib.hid (H.out.same hg)
    have ax := HR.out.blk.cell
    unfold rledA at ax
    by_cases hlt : k < L.length
    · obtain ⟨g, off, cap, hv, hgl, ck⟩ := HR.out.ow.rd.one int_one (k := k) (by rw [HL.out]; exact hlt)
      rw [HL.out] at hv
      cases hv
      have hp : L[k]? = some L[k] := List.getElem?_eq_getElem hlt
      have e1 : (L.map (·.1))[k]'(by rw [HL.out]; exact hlt) = L[k].1 := by simp
      rw [e1] at ck
      clear e1
      have hlt2 : (k : Int) < (L.length : Int) := by omega
      have hk0 : (0 : Int) ≤ (k : Int) := by omega
      by_cases hkK : k < K
      · have hless := HK1.out k _ hkK hp
        generalize L[k] = p at *
        clear hp
        go_wp2_with fail
        exact ⟨⟨k + 1, by omega, by go_num, hg⟩, by simp [Go.RowKit.intOf]; omega⟩
      · obtain rfl : k = K := by omega
        have hless := HK2.out _ hp
        by_cases he : L[k].1 = win
        · obtain rfl : F = true := HY.out _ hp he
          generalize L[k] = p at *
          clear hp
          go_upto_region 4 with fail
          go_quiet (fail)
          go_wp2_with fail
          go_ret2
          exact retVal (by simp [he]) (grownBy_drewN hg _)
        · obtain rfl : F = false := HNo.out _ hp he
          generalize L[k] = p at *
          clear hp
          go_upto_region 4 with fail
          go_quiet (fail)
          go_wp2_with fail
          go_ret2
          exact retVal (by simp [he]) (grownBy_drewN hg _)
    · obtain rfl : k = K := by omega
      obtain rfl : k = L.length := by omega
      obtain rfl : F = false := HE.out rfl
      have hlt2 : ¬ ((L.length : Int) < (L.length : Int)) := by omega
      go_upto_region 4 with fail
      go_quiet (fail)
      go_wp2_with fail
      go_ret2
      exact retVal rfl (grownBy_drewN hg _)
end Go.Proofs.Ytniokdflljchgaa
