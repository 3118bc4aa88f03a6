/- The chapter's examples. -/
import Derived.Test.YtiagjiaahnkefaaRst
import Derived.Test.YtiagjiaahnkefaaLine3
namespace Go.Proofs.Ytiagjiaahnkefaa
open Go.RowKit
attribute [local go_sem ↓] exec_load_cfg
attribute [local go_sem] run_loadCfgS

def awkC (g : Nat) : Cfg := ⟨0, 0, 0, 2, 2, 0, 0, 0, 0, 0, 0, 0, 0, 0, .slice none 0 0, .slice (some ⟨g, 0, none⟩) 16 16, 0⟩
def awkA : ByteArray := ⟨#[97]⟩
def awkL (g : Nat) : List Summ := [⟨6, .slice (some ⟨g, 0, none⟩) 1 1, 0, .slice none 0 0, [⟨awkA, 5, 1⟩], [], []⟩, ⟨9, .slice none 0 0, 2, .slice none 0 0, [], [], []⟩]
theorem awk_order : order [5, 0, 7] 3 = [2, 0, 1] := by decide
theorem awk_set (g : Nat) (t : List Int) (k : ByteArray) : setF (awkC g) t k = [0, 1] ∨ setF (awkC g) t k = [1, 0] := by
  obtain ⟨h1, h2⟩ := homeF_bd (awkC g) t k (show (1 : Int) ≤ 2 by decide)
  have h2 : homeF (awkC g) t k < 2 := h2
  unfold setF
  generalize homeF (awkC g) t k = h at *
  have : h = 0 ∨ h = 1 := by omega
  rcases this with rfl | rfl
  · exact Or.inl (show setN 0 2 2 = [0, 1] by decide)
  · exact Or.inr (show setN 1 2 2 = [1, 0] by decide)
theorem awk_b0 (g ge : Nat) (t : List Int) : bP (awkC g) t (awkL ge) awkA 0 = (5, 6) := by
  have : keyEq awkA ⟨awkA, 5, 1⟩ = true := by simp [keyEq]
  simp [bP, awkL, bndE, this, sEstF, satA]
  decide
theorem awk_b1 (g ge : Nat) (t : List Int) : bP (awkC g) t (awkL ge) awkA 1 = (0, 2) := by
  simp [bP, awkL, bndE, sEstF]
  decide
theorem awk_line (g ge : Nat) (t : List Int) : lineF (awkC g) t (awkL ge) awkA = (5, 8) := by
  have h2 : ((awkL ge).length : Int) = 2 := rfl
  unfold lineF
  rcases awk_set g t awkA with h | h <;> rw [h, h2] <;> simp [foldB, addP, awk_b0, awk_b1, satA]
theorem awk_merge (g ge : Nat) : mergeErr (awkC g) (awkL ge) = 0 := by rfl
theorem awk_rest (g ge : Nat) : restF (awkC g) (awkL ge) = 2 := by
  unfold restF
  rw [if_neg (by rw [awk_merge]; decide)]
  have e0 : uAt (awkL ge) 0 = 0 := rfl
  have e1 : uAt (awkL ge) 1 = 2 := rfl
  have s0 : setN 0 2 2 = [0, 1] := by decide
  have s1 : setN 1 2 2 = [1, 0] := by decide
  show restI 2 2 (awkL ge) 2 = 2
  simp [restI, show rangeI 2 = [0, 1] by decide, s0, s1, uF, e0, e1, satA]
  decide

theorem Blk.rdL {α : Type} {f : α → List Value} {s : Nat} {l : List α} {w : World} {g : Nat} {cs : Array Value} (h : Blk w g cs) (hf : ∀ x, (f x).length = s) (hcs : cs = (cellsOf f l).toArray) (hl : l.length ≤ 9223372036854775807) (c : Nat) :
    RdL f s w (.slice (some ⟨g, 0, none⟩) l.length c) l :=
  ⟨length_cellsOf f s hf _, hl, .inr ⟨g, 0, c, rfl, h.lt, fun j u hu => by rw [Nat.zero_add, h.cell, hcs]; simpa using hu⟩⟩
theorem RdL.none {α : Type} (f : α → List Value) (s : Nat) (w : World) : RdL f s w (.slice none 0 0) [] := ⟨by simp [cellsOf], by simp, .inl ⟨rfl, _, _, rfl⟩⟩
theorem awk_sumsW (ge : Nat) : ∀ s ∈ awkL ge, SumW s := by
  intro s hs
  simp only [awkL, List.mem_cons, List.not_mem_nil, or_false] at hs
  rcases hs with rfl | rfl
  · exact ⟨w64_of (n := 6) (by decide) (by decide), w64_of (n := 0) (by decide) (by decide), by intro e he; simp only [List.mem_cons, List.not_mem_nil, or_false] at he; subst he; exact ⟨⟨by decide, by decide⟩, ⟨by decide, by decide⟩⟩, by simp⟩
  · exact ⟨w64_of (n := 9) (by decide) (by decide), w64_of (n := 2) (by decide) (by decide), by simp, by simp⟩
theorem awk_small (ge : Nat) : SumsSmall (awkL ge) := by
  intro s hs
  simp only [awkL, List.mem_cons, List.not_mem_nil, or_false] at hs
  rcases hs with rfl | rfl
  · exact ⟨by intro e he; simp only [List.mem_cons, List.not_mem_nil, or_false] at he; subst he; decide, by simp, by simp⟩
  · exact ⟨by simp, by simp, by simp⟩
theorem awk_ok (ge : Nat) : SumsOk (awkL ge) := by
  refine ⟨awk_sumsW ge, fun s hs => ?_, fun s hs => ?_⟩ <;> simp only [awkL, List.mem_cons, List.not_mem_nil, or_false] at hs <;> rcases hs with rfl | rfl <;> simp [RowsOk]
theorem awk_rd {w : World} {ge gs : Nat} (hE : Blk w ge #[.string ⟨#[97]⟩, .int .u64 5, .int .u64 1]) (hS : Blk w gs #[.int .u64 6, .slice (some ⟨ge, 0, none⟩) 1 1, .int .u64 0, .slice none 0 0, .int .u64 9, .slice none 0 0, .int .u64 2, .slice none 0 0]) :
    SumsRd w (.slice (some ⟨gs, 0, none⟩) 2 2) (awkL ge) := by
  refine ⟨hS.rdL (l := awkL ge) sumF_len rfl (show 2 ≤ 9223372036854775807 by decide) 2, ?_, awk_sumsW ge⟩
  intro s hs
  simp only [awkL, List.mem_cons, List.not_mem_nil, or_false] at hs
  rcases hs with rfl | rfl
  · exact ⟨hE.rdL (l := [⟨awkA, 5, 1⟩]) entF_len rfl (show 1 ≤ 9223372036854775807 by decide) 1, RdL.none _ _ _, rfl, by simp⟩
  · exact ⟨RdL.none _ _ _, RdL.none _ _ _, rfl, by simp⟩

set_option maxHeartbeats 2000000 in
set_option maxRecDepth 100000 in
theorem awake_c (w : World) : Calls Try.prog 27 #[] w (RetBool true w) := by
  have hmk := make16
  go_enter Try.func27, Try.ntmps27
  go_upto_region 2 with (first | (refine alloc_cfg rfl rfl ?_; intro w3 B3 G3 z3) | (refine store_cfg rfl _ _ rfl _ rfl (awkC w.heap.size) rfl rfl rfl Cfg.zero (by assumption) ?_; intro w4 B4 G4))
  have G : w.grownBy w4 none := grownBy_new (grownBy_trans (World.grownBy_alloc w _ _) G3) G4 (by simp)
  have BT : Blk w4 w.heap.size zeros16 := ((Blk.new w zeros16 22).same G3).kept G4 (by simp)
  have HC : RCfg w4 (awkC w.heap.size) (List.replicate 16 0) := ⟨show (1 : Int) ≤ 2 ∧ (2 : Int) ≤ 8 by decide, show (1 : Int) ≤ 2 ∧ (2 : Int) ≤ 2 by decide, BT.rdL wordF_len rfl (by simp) 16, by simp, w64_0⟩
  generalize (w.alloc (.cells zeros16 22)).heap.size = bc at *
  generalize w.heap.size = gt at *
  clear BT G3 z3 B3 G4 hmk
  go_upto_region 3 with fail
  have K5 : w4.grownBy ((w4.alloc (.cells #[.string ⟨#[97]⟩, .int .u64 5, .int .u64 1] 77)).alloc (.cells #[.int .u64 6, .slice (some ⟨w4.heap.size, 0, none⟩) 1 1, .int .u64 0, .slice none 0 0, .int .u64 9, .slice none 0 0, .int .u64 2, .slice none 0 0] 68)) none := (by (repeat (first | exact grownBy_refl _ _ | assumption | refine grownBy_new_block ?_ _ | refine grownBy_drew ?_ | refine grownBy_drewN ?_ _ | refine grownBy_setNew ?_ (by first | (simp; done) | omega | (simp; omega)) _)))
  have E5 : Blk ((w4.alloc (.cells #[.string ⟨#[97]⟩, .int .u64 5, .int .u64 1] 77)).alloc (.cells #[.int .u64 6, .slice (some ⟨w4.heap.size, 0, none⟩) 1 1, .int .u64 0, .slice none 0 0, .int .u64 9, .slice none 0 0, .int .u64 2, .slice none 0 0] 68)) w4.heap.size #[.string ⟨#[97]⟩, .int .u64 5, .int .u64 1] := (by repeat (first | exact Blk.new' _ _ _ (by simp) | refine Blk.same ?_ (World.grownBy_alloc _ _ _) | refine Blk.drew ?_ _ | refine Blk.drew1 ?_ | refine Blk.set_ (by assumption) _ _ rfl | refine Blk.off ?_ (by first | omega | (simp; done) | (simp; omega)) _ _ | assumption))
  have S5 : Blk ((w4.alloc (.cells #[.string ⟨#[97]⟩, .int .u64 5, .int .u64 1] 77)).alloc (.cells #[.int .u64 6, .slice (some ⟨w4.heap.size, 0, none⟩) 1 1, .int .u64 0, .slice none 0 0, .int .u64 9, .slice none 0 0, .int .u64 2, .slice none 0 0] 68)) (w4.heap.size + 1) #[.int .u64 6, .slice (some ⟨w4.heap.size, 0, none⟩) 1 1, .int .u64 0, .slice none 0 0, .int .u64 9, .slice none 0 0, .int .u64 2, .slice none 0 0] := (by repeat (first | exact Blk.new' _ _ _ (by simp) | refine Blk.same ?_ (World.grownBy_alloc _ _ _) | refine Blk.drew ?_ _ | refine Blk.drew1 ?_ | refine Blk.set_ (by assumption) _ _ rfl | refine Blk.off ?_ (by first | omega | (simp; done) | (simp; omega)) _ _ | assumption))
  generalize (w4.alloc (.cells #[.string ⟨#[97]⟩, .int .u64 5, .int .u64 1] 77)).alloc (.cells #[.int .u64 6, .slice (some ⟨w4.heap.size, 0, none⟩) 1 1, .int .u64 0, .slice none 0 0, .int .u64 9, .slice none 0 0, .int .u64 2, .slice none 0 0] 68) = w5 at *
  generalize w4.heap.size = ge at *
  have HL := awk_rd E5 S5
  have HS := awk_small ge
  have HO := awk_ok ge
  replace HC := Lib.hid (HC.same K5)
  have B5 := B4.same K5
  replace G := grownBy_trans G K5
  replace HL := Lib.hid HL
  replace HS := Lib.hid HS
  replace HO := Lib.hid HO
  have hln := Lib.hid (awk_line gt ge (List.replicate 16 0))
  have hrs := Lib.hid (awk_rest gt ge)
  clear K5 E5 S5 B4
  go_wp2_with (first
    | (go_at_call 24; refine (order_c _ [5, 0, 7] 3 _ ((Blk.new w5 #[.int .i64 5, .int .i64 0, .int .i64 7] 3).rdL intF_len rfl (by decide) 3) (by decide)).mono ?_; rintro e w6 ⟨v6, rfl, o6, G6⟩; have p6 : RdL intF 1 w6 v6 [2, 0, 1] := awk_order ▸ o6.rd; have K6 : w5.grownBy w6 none := grownBy_trans (World.grownBy_alloc _ _ _) G6)
    | (go_at_call 25; refine (sameInts_c v6 _ [2, 0, 1] [2, 0, 1] _ (p6.same (World.grownBy_alloc _ _ _)) ((Blk.new w6 #[.int .i64 2, .int .i64 0, .int .i64 1] 3).rdL intF_len rfl (by decide) 3)).mono ?_; rw [show decide (([2, 0, 1] : List Int) = [2, 0, 1]) = true from rfl]; rintro e w7 ⟨rfl, G7⟩; have K7 : w5.grownBy w7 none := grownBy_trans K6 (grownBy_trans (World.grownBy_alloc _ _ _) G7))
    | (refine load_cfg_if rfl _ rfl _ rfl (awkC gt) (B5.same (by assumption)) ?_)
    | (go_at_call 33; refine (line_c (awkC gt) (List.replicate 16 0) _ (awkL ge) awkA (.slice none 0 0) [] _ (HC.out.same K7) (HL.out.same K7) HO.out (RdL.none _ _ _) (by decide)).mono ?_; rw [hln.out]; rintro e w8 ⟨rfl, G8⟩; have K8 := grownBy_trans K7 G8)
    | (go_at_call 41; refine (rest_c (awkC gt) (List.replicate 16 0) _ (awkL ge) _ (HC.out.same K8) (HL.out.same K8) HS.out).mono ?_; rw [hrs.out]; rintro e w9 ⟨rfl, G9⟩))
  · go_ret
    exact retBool rfl (grownBy_trans G (grownBy_trans K8 G9))
  · have h : ¬awkA.toList = [97] := by assumption
    exact absurd (by rw [ByteArray.toList_eq]; rfl) h
end Go.Proofs.Ytiagjiaahnkefaa
