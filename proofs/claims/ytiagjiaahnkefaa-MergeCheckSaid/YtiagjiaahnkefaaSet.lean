/- The shards of a key. -/
import Derived.Test.YtiagjiaahnkefaaRoute
import Derived.Test.YtiagjiaahnkefaaOrd
namespace Go.Proofs.Ytiagjiaahnkefaa
open Go.RowKit
attribute [local go_sem ↓] exec_load_cfg
attribute [local go_sem] run_loadCfgS

/-- n shards from h on, of m. -/
def setN (h m : Int) (n : Nat) : List Int := (rangeI n).map (fun i => (h + i) % m)
theorem setN_len (h m : Int) (n : Nat) : (setN h m n).length = n := by simp [setN, rangeI_len]
theorem setN_succ (h m : Int) (n : Nat) : setN h m (n + 1) = setN h m n ++ [(h + n) % m] := by simp [setN, rangeI_succ]
def setF (c : Cfg) (t : List Int) (k : ByteArray) : List Int := setN (homeF c t k) c.Shards c.Spread.toNat
def eightA (l : List Int) : Array Value := ((l ++ List.replicate (8 - l.length) 0).map (fun x => Value.int .i64 x)).toArray
/-- What a function leaves that makes a slice to be read. -/
def RetRd {α : Type} (f : α → List Value) (s : Nat) (l : List α) (w : World) (en : Ending) (w' : World) : Prop := ∃ v, en = .returned v ∧ RdL f s w' v l ∧ w.grownBy w' none
theorem RetOwn.rd {α : Type} {f : α → List Value} {s : Nat} {e : TypeId} {l : List α} {w : World} {en : Ending} {w' : World} (h : RetOwn f s e l w en w') : RetRd f s l w en w' := by
  obtain ⟨v, h1, h2, h3⟩ := h; exact ⟨v, h1, h2.rd, h3⟩

set_option maxHeartbeats 400000 in
set_option maxRecDepth 100000 in
theorem after_c (c : Cfg) (h : Int) (w : World) (hc : 1 ≤ c.Shards ∧ c.Shards ≤ 8) (hs : 1 ≤ c.Spread ∧ c.Spread ≤ c.Shards) (hh : 0 ≤ h ∧ h ≤ 8) : Calls Try.prog 87 #[c.val, .int .i64 h] w (RetOwn intF 1 3 (setN h c.Shards c.Spread.toNat) w) := by
  obtain ⟨h1, h2⟩ := hc
  obtain ⟨h3, h4⟩ := hs
  obtain ⟨h5, h6⟩ := hh
  obtain ⟨N, hN⟩ : ∃ N, c.Spread.toNat = N := ⟨_, rfl⟩
  have hN1 : c.Spread ≤ N := by omega
  have hN2 : N ≤ 8 := by omega
  have hN3 : ∀ k : Nat, k ≤ N → c.Spread ≤ (k : Int) → k = N := by omega
  have HN := Lib.hid hN3
  rw [hN]
  clear hN hN3
  go_enter Try.func87, Try.ntmps87
  go_upto_region 3 with (refine box_cfg rfl _ rfl c rfl ?_; intro w1 B1 G1 z1)
  go_loopw [5, 6] (fun s5 s6 wr => ∃ k : Nat, k ≤ N ∧ s6 = .int .i64 k ∧ Own intF 1 3 w1.heap.size wr s5 (setN h c.Shards k) ∧ w1.heap.size ≤ wr.heap.size ∧ w.grownBy wr none ∧ BoxAt wr w.heap.size c) (fun _ s6 _ => N - (intOf s6).toNat)
  case atStart => exact ⟨0, Nat.zero_le _, rfl, Own.nil _ _ _ _ _, Nat.le_refl _, G1, B1⟩
  case round =>
    obtain ⟨k, hk, rfl, hL, hsz, hg, hB⟩ := hrel
    have hrl := setN_len h c.Shards k
    have b1 := hB.cell
    by_cases hlt : (k : Int) < c.Spread
    · have hb1 : ((setN h c.Shards k).length + 1) * 8 ≤ 140737488355328 := by omega
      have hb2 : (setN h c.Shards k).length + 1 ≤ 9223372036854775807 := by omega
      have HS := Lib.hid (setN_succ h c.Shards k)
      have hz : (c.Shards == 0) = false := beq_eq_false_iff_ne.2 (by omega)
      have hkN : k < N := by omega
      clear hrl
      go_wp2_with (at_builtin; refine app_one elt_int one_int intF_len hL ((h + k) % c.Shards) hb1 hb2 hsz (by rfl) rfl (.tmp 13) (.tmp 20) rfl rfl rfl ?_; intro v1 w1 o1 g1 l1)
      have hB2 := hB.kept g1 (fun e => by have := (hL.lt _ e).1; omega)
      refine ⟨⟨k + 1, by omega, by go_num, by rw [HS.out]; exact o1, Nat.le_trans hsz g1.size, grown_own hg hL (Nat.le_of_lt z1) g1, hB2⟩, by simp [intOf]; omega⟩
    · obtain rfl : k = N := HN.out k hk (by omega)
      clear hk HN hN1
      go_wp2_with fail
      go_ret
      exact ⟨_, rfl, hL.base (fun k hk => Nat.le_trans (Nat.le_of_lt z1) (hL.lt k hk).1), hg⟩

theorem homeF_bd (c : Cfg) (t : List Int) (k : ByteArray) (h : 1 ≤ c.Shards) : 0 ≤ homeF c t k ∧ homeF c t k < c.Shards := slotF_bd _ _ h
set_option maxHeartbeats 400000 in
set_option maxRecDepth 100000 in
theorem rset_c (c : Cfg) (t : List Int) (k : ByteArray) (w : World) (h : RCfg w c t) (hk : k.size ≤ 9223372036854775807) : Calls Try.prog 88 #[c.val, .string k] w (RetOwn intF 1 3 (setF c t k) w) := by
  have H := Lib.hid h
  obtain ⟨h1, h2⟩ := homeF_bd c t k h.shards.1
  have h3 := h.shards
  clear h
  go_enter Try.func88, Try.ntmps88
  go_upto_region 3 with (first | (refine box_cfg rfl _ rfl c rfl ?_; intro w1 B1 G1 z1) | (refine load_cfg rfl _ rfl _ rfl c (by assumption) ?_) | (go_at_call 82; refine (rroutes_c c t _ (H.out.same G1)).mono ?_; rintro e w2 ⟨rfl, G2⟩))
  have G := grownBy_trans G1 G2
  obtain ⟨r1, r2, r3⟩ := (B1.same G2).re
  have r4 := call_re (w := w2) fun w' hg => rhome_c c t k w' (H.out.same (grownBy_trans G hg)) hk
  (refine Tail.wp_region_tail_grown 4 (by kernel_rfl) (by kernel_rfl) ?_; simp only [List.take, List.drop]; (repeat (go_big_quiet_step (with_reducible exact r4 _ _))); refine wpQuiet_nil ?_; rintro _ ⟨⟨d5, os5⟩, rfl⟩)
  have G5 := grownBy_trans G (grown_re w2 d5 os5)
  clear r1 r2 r3 r4
  generalize Go.Sort.grow (redrawn w2 d5) os5 = w5 at *
  go_wp2_with (go_at_call 87; refine (after_c c _ _ h3 H.out.spread ⟨h1, by omega⟩).mono ?_; rintro e w6 ⟨v, rfl, o6, G6⟩)
  go_ret
  exact ⟨v, rfl, o6.base (fun k hk => Nat.le_trans G5.size (o6.lt k hk).1), grownBy_trans G5 G6⟩

theorem slice_arr8 (ar k : Nat) (hk : k ≤ 8) (w : World) : (Instr.sliceAt 130 (.pointer (some ⟨ar, 0, none⟩)) none (some (.int .i64 k)) (some (.int .i64 k))).run Try.prog w = .ok (.slice (some ⟨ar, 0, none⟩) k k) w := by
  have e : Try.prog.arrayLen 130 = 8 := by kernel_rfl
  have e2 : Try.prog.elem 130 = 3 := by kernel_rfl
  have := run_sliceAt_array_hm (P := Try.prog) w 130 ⟨ar, 0, none⟩ (by rw [e, e2]; exact Try.underlying130) .i64 .i64 (k : Int) k (by omega) (by omega) (by rw [e]; omega)
  rw [this, e2]
  simp only [go_sem]
  simp
theorem eightA_get {l : List Int} (h : l.length < 8) : (eightA l)[l.length]? = some (.int .i64 0) := by
  unfold eightA
  obtain ⟨m, hm⟩ : ∃ m, 8 - l.length = m + 1 := ⟨7 - l.length, by omega⟩
  simp [hm, List.replicate_succ]
theorem eightA_set {l : List Int} (h : l.length < 8) (x : Int) : (eightA l).setIfInBounds l.length (.int .i64 x) = eightA (l ++ [x]) := by
  unfold eightA
  obtain ⟨m, hm⟩ : ∃ m, 8 - l.length = m + 1 := ⟨7 - l.length, by omega⟩
  have hm2 : 8 - (l ++ [x]).length = m := by simp; omega
  rw [hm, hm2, List.replicate_succ]
  simp
theorem eightA_rd {w : World} {ar : Nat} {l : List Int} {t : TypeId} {f : Nat × Nat} (h : w.heap[ar]? = some (.cells (eightA l) t f)) (hl : l.length ≤ 8) (c : Nat) : RdL intF 1 w (.slice (some ⟨ar, 0, none⟩) l.length c) l := by
  refine ⟨length_cellsOf _ 1 intF_len _, by omega, .inr ⟨ar, 0, c, rfl, (Array.getElem?_eq_some_iff.1 h).1, fun j u hu => ?_⟩⟩
  rw [cells_intF] at hu
  have hj : j < l.length := by have := (List.getElem?_eq_some_iff.1 hu).1; simpa using this
  simp only [World.cell?, h, Nat.zero_add, eightA]
  simp only [List.getElem?_toArray, List.map_append]
  rw [List.getElem?_append_left (by simpa using hj)]; simpa using hu

set_option maxHeartbeats 400000 in
set_option maxRecDepth 100000 in
theorem set_c (c : Cfg) (t : List Int) (k : ByteArray) (w : World) (h : RCfg w c t) (hk : k.size ≤ 9223372036854775807) : Calls Try.prog 31 #[c.val, .string k] w (RetRd intF 1 (setF c t k) w) := by
  have H := Lib.hid h
  obtain ⟨h1, h2⟩ := homeF_bd c t k h.shards.1
  obtain ⟨h3, h4⟩ := h.shards
  obtain ⟨h5, h6⟩ := h.spread
  obtain ⟨N, hN⟩ : ∃ N, c.Spread.toNat = N := ⟨_, rfl⟩
  have hN1 : c.Spread ≤ N := by omega
  have hN2 : N ≤ 8 := by omega
  have hN3 : ∀ k : Nat, k ≤ N → c.Spread ≤ (k : Int) → k = N := by omega
  have HN := Lib.hid hN3
  have hF : setF c t k = setN (homeF c t k) c.Shards N := by unfold setF; rw [hN]
  have HSp := Lib.hid (p := c.Spread = (N : Int)) (by omega)
  rw [hF]
  clear h hF hN hN3
  go_enter Try.func31, Try.ntmps31
  go_upto_region 4 with (first | (refine box_cfg rfl _ rfl c rfl ?_; intro w1 B1 G1 z1) | (refine load_cfg rfl _ rfl _ rfl c (by assumption) ?_) | (go_at_call 71; refine (rcheck_c c t _ (H.out.same G1)).mono ?_; rintro e w2 ⟨rfl, G2⟩))
  have hA : (w2.alloc (.cells (eightA []) 130)).heap[w2.heap.size]? = some (.cells (eightA []) 130) := heap_alloc_new w2 _
  have B2 : BoxAt (w2.alloc (.cells (eightA []) 130)) w.heap.size c := (B1.same G2).same (World.grownBy_alloc _ _ _)
  have K2 : w.grownBy (w2.alloc (.cells (eightA []) 130)) none := grownBy_trans G1 (grownBy_trans G2 (World.grownBy_alloc _ _ _))
  have z2 : w.heap.size < w2.heap.size := Nat.lt_of_lt_of_le z1 G2.size
  have z3 : w2.heap.size < (w2.alloc (.cells (eightA []) 130)).heap.size := by simp
  obtain ⟨ar, har⟩ : ∃ ar, ar = w2.heap.size := ⟨_, rfl⟩
  rw [← har] at hA z2 z3
  have e8 : eightA [] = #[.int .i64 0, .int .i64 0, .int .i64 0, .int .i64 0, .int .i64 0, .int .i64 0, .int .i64 0, .int .i64 0] := rfl
  rw [e8] at hA B2 K2 z3
  rw [← har]
  generalize w2.alloc (.cells #[.int .i64 0, .int .i64 0, .int .i64 0, .int .i64 0, .int .i64 0, .int .i64 0, .int .i64 0, .int .i64 0] 130) = wa at *
  clear har G1 G2 B1 z1 e8
  go_upto_region 6 with (first | (refine load_cfg rfl _ rfl _ rfl c (by assumption) ?_) | (go_at_call 72; refine (home_c c t k _ (H.out.same K2) hk).mono ?_; rintro e w3 ⟨rfl, G3⟩; have B3 := B2.same G3; have b3 := B3.cell; have A3 := (G3.block ar z3 (by simp)).trans hA; have K3 := grownBy_trans K2 G3; have z4 := Nat.lt_of_lt_of_le z3 G3.size))
  clear hA B2 K2 z3 G3 b3
  generalize homeF c t k = h at *
  go_loopw [7, 16] (fun s7 s16 wr => ∃ k : Nat, k ≤ N ∧ s16 = .int .i64 k ∧ wr.heap[ar]? = some (.cells (eightA (setN h c.Shards k)) 130) ∧ BoxAt wr w.heap.size c ∧ w.grownBy wr none) (fun _ s16 _ => N - (intOf s16).toNat)
  case atStart => exact ⟨0, Nat.zero_le _, rfl, A3, B3, K3⟩
  case round =>
    obtain ⟨k, hk, rfl, hA, hB, hg⟩ := hrel
    clear A3 B3 K3
    have b1 := hB.cell
    have hrl := setN_len h c.Shards k
    by_cases hlt : (k : Int) < c.Spread
    · have hk8 : k < 8 := by omega
      have HS := Lib.hid (setN_succ h c.Shards k)
      have hz : (c.Shards == 0) = false := beq_eq_false_iff_ne.2 (by omega)
      have ck : wr.cell? ⟨ar, k, none⟩ = some (.int .i64 0) := by
        have := eightA_get (l := setN h c.Shards k) (by omega)
        rw [hrl] at this
        simp only [World.cell?, hA]; exact this
      have fk : wr.frozen? ⟨ar, k, none⟩ = false := by simp [World.frozen?, hA]
      have HA := Lib.hid hA
      have HB := Lib.hid hB
      have Hrl := Lib.hid hrl
      have hk0 : (0 : Int) ≤ (k : Int) := by omega
      have hk7 : (k : Int) < 8 := by omega
      clear hA hB hrl
      go_wp2_with fail
      refine ⟨⟨k + 1, by omega, by go_num, ?_, HB.out.kept (grownBy_set (grownBy_refl wr (some ar)) k _) (by simp; omega), grownBy_setNew hg (by simp; omega) _⟩, by simp [intOf]; omega⟩
      rw [heap_set _ HA.out, HS.out]
      have := eightA_set (l := setN h c.Shards k) (by rw [Hrl.out]; exact hk8) ((h + k) % c.Shards)
      rw [Hrl.out] at this
      rw [this]
    · obtain rfl : k = N := HN.out k hk (by omega)
      have hSp : c.Spread = (k : Int) := HSp.out
      have hsl := slice_arr8 ar k hN2
      have HA := Lib.hid hA
      clear hk HN hN1 hlt h6 h5 hA
      go_wp2_with fail
      go_ret
      refine ⟨_, rfl, ?_, hg⟩
      have := eightA_rd HA.out (by rw [hrl]; exact hN2) k
      rw [hrl] at this
      exact this
end Go.Proofs.Ytiagjiaahnkefaa
