/- What the laws of chapter 33 are dealt: operations; the example of chapter 33. -/
import Derived.Test.YtniokdflljchgaaMadeO
import Derived.Test.YtniokdflljchgaaScr5
import Derived.Test.YtniokdflljchgaaScrD4
import Derived.Test.YtniokdflljchgaaSameB
namespace Go.Proofs.Ytniokdflljchgaa
open Go.RowKit Go.Sort
attribute [local go_sem ↓] exec_load_cfg
attribute [local go_sem] run_loadCfgS

/-- The operations that the deck deals. -/
def OpsF (w : World) (e : Ending) (w' : World) : Prop := ∃ v L, e = .returned v ∧ OpsG w.heap.size w' v L ∧ (∀ o ∈ L, opE o = 0) ∧ (1 ≤ L.length ∧ L.length ≤ 9) ∧ w.grownBy w' none
set_option maxHeartbeats 1000000 in
set_option maxRecDepth 100000 in
theorem ops33_c (sv : Value) (xs : List Int) (n : Nat) (w : World) (hsv : Rd w 1 sv n (xs.map (fun x => Value.int .i64 x))) : Calls Try.prog 11 #[sv] w (OpsF w) := by
  have HS := Lib.hid hsv
  obtain ⟨sa, sc, rfl⟩ := hsv.shape
  clear hsv
  go_enter Try.func11, Try.ntmps11
  go_upto_region 2 with (go_at_call 40; refine (new_c _ _ _ _ HS.out).mono ?_; rintro e w1 ⟨rfl, D1, G1⟩)
  have hwB : w.heap.size ≤ w1.heap.size := G1.size
  have hbB := D1.below
  go_wp2_with (first
    | (go_at_call 42; refine (config3_c _ _ D1 (Nat.le_refl _)).mono ?_; rintro e w2 ⟨c, lc, t, rfl, -, M2, D2, G2, T2, C2, N2⟩; have z12 := G2.size; replace G2 := grownBy_new G1 G2 (Nat.le_refl _))
    | (go_at_call 41; go_loud (refine (dops_c _ c 8 _ D2 z12 (by omega) N2.length).mono ?_; rintro e w3 ⟨v, L, rfl, H1, H2, H3, H4, H5⟩)))
  go_ret
  refine ⟨v, L, rfl, H1.base G2.size, H2, ⟨H3.1, by have := H3.2; omega⟩, grownBy_new G2 H5 (Nat.le_refl _)⟩

def awkO (vp : Value) : OpR := ⟨2, .slice none 0 0, 300, 0, ⟨#[]⟩, vp, [], [1]⟩
def awk33B : List UInt8 := [1, 2, 172, 2, 1, 1]
theorem awk33_e (vp : Value) : encE [awkO vp] = 0 := by
  unfold encE
  rw [if_neg (by simp)]
  exact opsE_no fun o ho => by
    rw [List.mem_singleton] at ho
    subst ho
    rfl
theorem awk33_b (vp : Value) : encO [awkO vp] = awk33B := by
  unfold encO
  rw [if_pos (awk33_e vp)]
  simp [opsB, opB, opT, vbs, awkO, awk33B, vb_small, vb_big]
theorem awk33_d : decOE awk33B = 0 ∧ (decO awk33B).map opC = [⟨2, [], 300, 0, ⟨#[]⟩, [1]⟩] := by
  have := decO_enc (awk33_e (.slice none 0 0))
  rw [awk33_b] at this
  exact this
abbrev awkC1 : Array Value := #[.int .i64 1]
abbrev awkC2 (b : Nat) : Array Value := opA 2 (.slice none 0 0) 300 0 ⟨#[]⟩ (.slice (some ⟨b, 0, none⟩) 1 1)
abbrev awkC3 : Array Value := #[.int .u8 1, .int .u8 2, .int .u8 172, .int .u8 2, .int .u8 1, .int .u8 1]
theorem awk33_c (w : World) : ∃ L, decO awk33B = L ∧ ∀ v M, L.map opC = M.map opC → OpsRd w v M → ∃ g off cap, v = .slice (some ⟨g, off, none⟩) 1 cap ∧ M.length = 1 ∧ w.cell? ⟨g, off + 2, none⟩ = some (.int .i64 300) := by
  refine ⟨_, rfl, fun v M hM h => ?_⟩
  rw [awk33_d.2] at hM
  have hl : M.length = 1 := by have := congrArg List.length hM; simpa using this.symm
  obtain ⟨m, rfl⟩ := List.length_eq_one_iff.1 hl
  obtain ⟨g, off, cap, hv, hg, hc⟩ := h.rd.at_ opF_len (show 0 < [m].length by simp)
  refine ⟨g, off, cap, hv, rfl, ?_⟩
  have ht : m.time = 300 := by simp [opC] at hM; omega
  have := hc 2 (.int .i64 m.time) rfl
  rw [ht] at this
  simpa using this
set_option maxHeartbeats 1000000 in
set_option maxRecDepth 100000 in
theorem awake33_c (w : World) : Calls Try.prog 10 #[] w (RetBool true w) := by
  obtain ⟨w1, hw1⟩ : ∃ w1, (w.alloc (.cells awkC1 3)).alloc (.cells (awkC2 w.heap.size) 30) = w1 := ⟨_, rfl⟩
  have G1 : w.grownBy w1 none := hw1 ▸ grownBy_new_block (grownBy_new_block (grownBy_refl w none) _) _
  have A1 := (Blk.new w awkC1 3).same (World.grownBy_alloc _ (.cells (awkC2 w.heap.size) 30) none)
  have A2 := Blk.new' (w.alloc (.cells awkC1 3)) (awkC2 w.heap.size) 30 (g := w.heap.size + 1) (by simp)
  rw [hw1] at A1 A2
  have R1 := A1.one (f := intF) (size := 1) intF_len 1 rfl
  have R2 := A2.one (f := opF) opF_len (awkO (.slice (some ⟨w.heap.size, 0, none⟩) 1 1)) rfl
  have HC1 := Lib.hid (enc_c _ _ w1 (⟨R2, fun o ho => by rw [List.mem_singleton] at ho; subst ho; exact ⟨rd_nilB _, R1, fun a n c e => by cases e; omega, fun a n c e => by cases e; omega⟩⟩ : OpsRd w1 _ [awkO (.slice (some ⟨w.heap.size, 0, none⟩) 1 1)]) (fun o ho => by rw [List.mem_singleton] at ho; subst ho; show (0 : Nat) ≤ _; omega))
  have HE := Lib.hid (p := ∀ e w', EncOP [awkO (.slice (some ⟨w.heap.size, 0, none⟩) 1 1)] w1 e w' → ∃ v, e = .returned (.tuple #[v, .int .i64 0]) ∧ RdL byF 1 w' v awk33B ∧ w1.grownBy w' none) (fun e w' ⟨v, h1, h2, h3⟩ => ⟨v, by rw [h1, awk33_e], by rw [awk33_b] at h2; exact h2.rd, h3⟩)
  have Hw1 := Lib.hid hw1
  clear A1 A2 R1 R2
  subst hw1
  go_enter Try.func10, Try.ntmps10
  go_upto_region 2 with (go_at_call 13; refine HC1.out.mono ?_; intro e w2 he; obtain ⟨v, rfl, R3, g3⟩ := HE.out e w2 he; clear he)
  obtain ⟨va, vc, rfl⟩ := R3.shape
  have G3 := grownBy_trans G1 g3
  have L4 := blk_rd (Blk.new w2 awkC3 5) byF_len awk33B rfl (by decide)
  have G4 := grownBy_new_block G3 (.cells awkC3 5)
  have HC4 := Lib.hid (sdec_c _ awk33B _ L4 (fun a n c e => by cases e; decide))
  have HD4 := Lib.hid (p := ∀ e w', DecOP awk33B (w2.alloc (.cells awkC3 5)) e w' → ∃ g off cap, e = .returned (.tuple #[.slice (some ⟨g, off, none⟩) 1 cap, .int .i64 0]) ∧ w'.cell? ⟨g, off + 2, none⟩ = some (.int .i64 300) ∧ g < w'.heap.size ∧ (w2.alloc (.cells awkC3 5)).grownBy w' none) (fun e w' ⟨v, L, h1, h2, h3, h4⟩ => by
    obtain ⟨_, rfl, h5⟩ := awk33_c w'
    obtain ⟨g, off, cap, rfl, hl, hc⟩ := h5 v L h3.symm h2.rd
    exact ⟨g, off, cap, by rw [h1, awk33_d.1], hc, Rd.blockLt h2.rd.rd (by omega) _ _ _ rfl, h4⟩)
  have HR3 := Lib.hid R3
  have HG4 := Lib.hid G4
  clear R3 L4 G3 G4 g3 HC1 HE Hw1 G1
  go_upto_region 3 with (go_at_call 16; refine HC4.out.mono ?_; intro e w5 he; obtain ⟨g, off, cap, rfl, hc5, hg5, g5⟩ := HD4.out e w5 he; clear he)
  have K5 := grownBy_trans HG4.out g5
  have R6 := RdL.same (HR3.out.same (grownBy_trans (World.grownBy_alloc _ _ _) g5)) (World.grownBy_alloc w5 (.cells awkC3 5) none)
  have L6 := blk_rd (Blk.new w5 awkC3 5) byF_len awk33B rfl (by decide)
  have Hs := Lib.hid (sameBy_c _ _ awk33B _ R6 L6)
  have G6 := grownBy_new_block K5 (.cells awkC3 5)
  have hc6 := Lib.hid (fun w' (h : World.grownBy w5 w' none) => ((grownBy_cells h).1 g _ hg5 (by simp)).trans hc5 : ∀ w', World.grownBy w5 w' none → w'.cell? ⟨g, off + 2, none⟩ = some (.int .i64 300))
  clear R6 L6 HC4 HD4 HR3 HG4 g5 K5 hc5 hg5
  go_upto_region 4 with (go_at_call 15; refine Hs.out.mono ?_; rintro e w7 ⟨rfl, g7⟩; have hc7 := hc6.out _ (grownBy_trans (World.grownBy_alloc _ _ _) g7))
  go_ret
  exact retBool rfl (grownBy_trans G6 g7)
end Go.Proofs.Ytniokdflljchgaa
