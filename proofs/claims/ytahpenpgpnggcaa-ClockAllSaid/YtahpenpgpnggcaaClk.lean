/- The clock: the program's functions and the references', for all arguments. -/
import Derived.Test.YtahpenpgpnggcaaOut
import Derived.Test.YtahpenpgpnggcaaRet
import Derived.Lib.QuietBelow
import Derived.Lib.MinMax
namespace Go.Proofs.Ytahpenpgpnggcaa
open Go.RowKit

def cok (c : Cfg) : Bool := decide (1 ≤ c.Length ∧ c.Length ≤ 1048576 ∧ 0 ≤ c.Lateness ∧ c.Lateness ≤ 1048576 ∧ 1 ≤ c.Windows ∧ c.Windows ≤ 8)
def tok (n : Int) : Bool := decide (0 ≤ n ∧ n ≤ 1099511627776)
def checkV (c : Cfg) : Int := if cok c then 0 else 11
def winV (c : Cfg) (t : Int) : Int := if cok c && tok t then t / c.Length else 0
def lowV (c : Cfg) (m : Int) : Int := if cok c && tok m then max (m - c.Lateness) 0 / c.Length else 0
def fromV (c : Cfg) (k : Int) : Int := if cok c && tok k then k * c.Length else 0
def toV (c : Cfg) (k : Int) : Int := if cok c && tok k then (k + 1) * c.Length else 0
def verV (c : Cfg) (m t : Int) : Int := if cok c && tok m && tok t then (if winV c t < lowV c m then 3 else if lowV c m + c.Windows ≤ winV c t then 4 else 0) else 0


theorem checkV_of {c : Cfg} (h : (((((1 ≤ c.Length ∧ c.Length ≤ 1048576) ∧ 0 ≤ c.Lateness) ∧ c.Lateness ≤ 1048576) ∧ 1 ≤ c.Windows) ∧ c.Windows ≤ 8)) : checkV c = 0 := by
  unfold checkV cok; rw [if_pos]; simp; omega
theorem checkV_no {c : Cfg} (h : ¬ (((((1 ≤ c.Length ∧ c.Length ≤ 1048576) ∧ 0 ≤ c.Lateness) ∧ c.Lateness ≤ 1048576) ∧ 1 ≤ c.Windows) ∧ c.Windows ≤ 8)) : checkV c = 11 := by
  unfold checkV cok; rw [if_neg]; simp; omega


set_option maxHeartbeats 400000 in
theorem ccheck_c (c : Cfg) (w : World) : Calls Try.prog 12 #[c.val] w (RetInt (checkV c) w) := by
  go_enter Try.func12, Try.ntmps12
  go_wp2
  all_goals go_ret
  all_goals first | (have hx := checkV_of (c := c) (by assumption); exact retInt hx (World.grownBy_alloc w _ _)) | (have hx : checkV c = 11 := checkV_no (by omega); exact retInt hx (World.grownBy_alloc w _ _))

set_option maxHeartbeats 400000 in
theorem rcheck_c (c : Cfg) (w : World) : Calls Try.prog 13 #[c.val] w (RetInt (checkV c) w) := by
  go_enter Try.func13, Try.ntmps13
  go_wp2
  all_goals go_ret
  all_goals first | (have hx := checkV_of (c := c) (by assumption); exact retInt hx (World.grownBy_alloc w _ _)) | (have hx : checkV c = 11 := checkV_no (by omega); exact retInt hx (World.grownBy_alloc w _ _))

theorem checkV_ok {c : Cfg} (h : cok c = true) : (checkV c == 0) = true := by simp [checkV, h]
theorem checkV_bad {c : Cfg} (h : cok c = false) : (checkV c == 0) = false := by simp [checkV, h]

set_option maxHeartbeats 400000 in
theorem rin_c (c : Cfg) (n : Int) (w : World) : Calls Try.prog 26 #[c.val, .int .i64 n] w (RetBool (cok c && tok n) w) := by
  have key : ∀ r : Bool, (checkV c == 0) = r → (∃ b0 b1, decide (0 ≤ n) = b0 ∧ decide (n ≤ 1099511627776) = b1 ∧ (r && b0 && b1) = (cok c && tok n)) →
      Calls Try.prog 26 #[c.val, .int .i64 n] w (RetBool (cok c && tok n) w) := by
    intro r hr ⟨b0, b1, d0, d1, hx⟩
    have Hx := Lib.hid hx
    clear hx
    cases r <;> cases b0 <;> cases b1
    all_goals
      go_enter Try.func26, Try.ntmps26
      go_wp2_with (first | (refine box_cfg rfl _ rfl c rfl ?_; intro w1 B1 G1 z1) | (refine load_cfg rfl _ rfl _ rfl c (by assumption) ?_) | (go_at_call 13; refine (rcheck_c c _).mono ?_; rintro e w2 ⟨rfl, G2⟩))
      go_ret
      exact retBool Hx.out.symm (grownBy_trans (by assumption) (by assumption))
  refine key _ rfl ⟨_, _, rfl, rfl, ?_⟩
  have e1 : (checkV c == 0) = cok c := by unfold checkV; cases cok c <;> rfl
  rw [e1, tok, Bool.and_assoc, ← Bool.decide_and]

set_option maxHeartbeats 400000 in
theorem rwin_c (c : Cfg) (n : Int) (w : World) : Calls Try.prog 18 #[c.val, .int .i64 n] w (RetInt (winV c n) w) := by
  cases hc : (cok c && tok n)
  · have hx : winV c n = 0 := by simp [winV, hc]
    have Hx := Lib.hid hx
    clear hx
    go_enter Try.func18, Try.ntmps18
    go_wp2_with (first | (refine box_cfg rfl _ rfl c rfl ?_; intro w1 B1 G1 z1) | (refine load_cfg rfl _ rfl _ rfl c (by assumption) ?_) | (go_at_call 26; refine (rin_c c n _).mono ?_; rintro e w2 ⟨rfl, G2⟩))
    go_ret
    exact retInt Hx.out (grownBy_trans (by assumption) (by assumption))
  · have hx : winV c n = n / c.Length := by simp [winV, hc]
    have Hx := Lib.hid hx
    have hl : 1 ≤ c.Length ∧ c.Length ≤ 1048576 := by simp [cok, tok] at hc; omega
    have hn : 0 ≤ n ∧ n ≤ 1099511627776 := by simp [cok, tok] at hc; omega
    clear hx
    obtain ⟨l0, l1⟩ := hl
    obtain ⟨n0, n1⟩ := hn
    go_enter Try.func18, Try.ntmps18
    go_wp2_with (first | (refine box_cfg rfl _ rfl c rfl ?_; intro w1 B1 G1 z1) | (refine load_cfg rfl _ rfl _ rfl c (by assumption) ?_) | (go_at_call 26; refine (rin_c c n _).mono ?_; rintro e w2 ⟨rfl, G2⟩; have hb2 := (BoxAt.same (by assumption) G2).cell))
    go_ret
    exact retInt Hx.out (grownBy_trans (by assumption) (by assumption))

theorem rd_one (w : World) (t : Int) : RdL intF 1 (w.alloc (.cells #[.int .i64 t] 3)) (.slice (some ⟨w.heap.size, 0, none⟩) 1 1) [t] :=
  OutAt.rd (w := w.alloc (.cells (intCells [t]) 3)) (out := [t]) (heap_alloc_new w _) (by simp)
theorem rd_two (w : World) (t u : Int) : RdL intF 1 (w.alloc (.cells #[.int .i64 t, .int .i64 u] 3)) (.slice (some ⟨w.heap.size, 0, none⟩) 2 2) [t, u] :=
  OutAt.rd (w := w.alloc (.cells (intCells [t, u]) 3)) (out := [t, u]) (heap_alloc_new w _) (by simp)

theorem all_take_succ {l : List Int} {k : Nat} (p : Int → Bool) (h : k < l.length) : (l.take (k + 1)).all p = ((l.take k).all p && p l[k]) := by
  rw [List.take_succ_eq_append_getElem h, List.all_append, List.all_cons, List.all_nil, Bool.and_true]

set_option maxHeartbeats 400000 in
theorem valid_c (c : Cfg) (v : Value) (l : List Int) (w : World) (h : RdL intF 1 w v l) : Calls Try.prog 25 #[c.val, v] w (RetBool (l.all tok && cok c) w) := by
  obtain ⟨a, cap, rfl⟩ := h.shape
  have hm := h.2.1
  have H := Lib.hid h
  clear h
  have e1 : (checkV c == 0) = cok c := by unfold checkV; cases cok c <;> rfl
  have E1 := Lib.hid e1
  clear e1
  go_enter Try.func25, Try.ntmps25
  go_wp2_with (first | (refine box_cfg rfl _ rfl c rfl ?_; intro w1 B1 G1 z1))
  go_loopw [9] (fun s9 wr => ∃ k : Nat, k ≤ l.length ∧ s9 = .int .i64 k ∧ (l.take k).all tok = true ∧ w.grownBy wr none ∧ BoxAt wr w.heap.size c) (fun s9 _ => l.length - (intOf s9).toNat)
  case atStart => exact ⟨0, Nat.zero_le _, rfl, by simp, G1, B1⟩
  case round =>
    obtain ⟨k, hk, rfl, hall, G2, B2⟩ := hrel
    by_cases hlt : k < l.length
    · obtain ⟨g, off, cap', hv, hgl, hc⟩ := H.out.cell intF_len (by omega)
      cases hv
      have hcell : wr.cell? ⟨g, off + k, none⟩ = some (.int .i64 l[k]) := by
        rw [(grownBy_cells G2).1 _ _ hgl (by simp)]
        have := hc k l[k] (List.getElem?_eq_getElem hlt) 0 _ rfl
        simpa using this
      have hat := all_take_succ tok hlt
      obtain ⟨x, hx⟩ : ∃ x, x = l[k] := ⟨_, rfl⟩
      rw [← hx] at hat hcell
      have Hx := Lib.hid hx
      have Hat := Lib.hid hat
      have Hall := Lib.hid hall
      clear hat hc hall hx
      by_cases h0 : x < 0
      · have hf : (l.all tok && cok c) = false := by
          have ht : tok x = false := decide_eq_false fun h => by omega
          have : l.all tok = false := by rw [List.all_eq_false]; exact ⟨x, by rw [Hx.out]; exact List.getElem_mem hlt, by simp [ht]⟩
          rw [this]; rfl
        have Hf := Lib.hid hf
        clear hf
        go_wp2_with fail
        go_ret
        exact retBool Hf.out G2
      · by_cases h1 : 1099511627776 < x
        · have hf : (l.all tok && cok c) = false := by
            have ht : tok x = false := decide_eq_false fun h => by omega
            have : l.all tok = false := by rw [List.all_eq_false]; exact ⟨x, by rw [Hx.out]; exact List.getElem_mem hlt, by simp [ht]⟩
            rw [this]; rfl
          have Hf := Lib.hid hf
          have d0 : decide (x < 0) = false := decide_eq_false h0
          clear hf h0
          go_wp2_with fail
          go_ret
          exact retBool Hf.out G2
        · have d0 : decide (x < 0) = false := decide_eq_false h0
          have d1 : decide (1099511627776 < x) = false := decide_eq_false h1
          have ht : tok x = true := decide_eq_true (by omega)
          have Ht := Lib.hid ht
          clear h0 h1 ht
          go_wp2_with fail
          exact ⟨⟨k + 1, by omega, by go_num, by rw [Hat.out, Hall.out, Ht.out]; rfl, G2, B2⟩, by simp [intOf]; omega⟩
    · have hl : (l.all tok && cok c) = (checkV c == 0) := by
        rw [E1.out]
        have : l.take k = l := List.take_of_length_le (by omega)
        rw [this] at hall
        rw [hall]; rfl
      have Hl := Lib.hid hl
      clear hl hall
      go_wp2_with (first | (refine load_cfg rfl _ rfl _ rfl c (by assumption) ?_) | (go_at_call 12; refine (ccheck_c c _).mono ?_; rintro e w3 ⟨rfl, G3⟩))
      go_ret
      exact retBool Hl.out (grownBy_trans G2 G3)

theorem numsV {c : Cfg} (h : cok c = true) : (1 ≤ c.Length ∧ c.Length ≤ 1048576) ∧ (0 ≤ c.Lateness ∧ c.Lateness ≤ 1048576) ∧ (1 ≤ c.Windows ∧ c.Windows ≤ 8) := by
  simp only [cok, decide_eq_true_eq] at h; omega
theorem tokV {n : Int} (h : tok n = true) : 0 ≤ n ∧ n ≤ 1099511627776 := by
  simpa [tok] using h

set_option maxHeartbeats 400000 in
theorem cwin_c (c : Cfg) (n : Int) (w : World) : Calls Try.prog 17 #[c.val, .int .i64 n] w (RetInt (winV c n) w) := by
  cases hc : (tok n && cok c)
  · have hx : winV c n = 0 := by unfold winV; rw [Bool.and_comm, hc]; rfl
    have Hx := Lib.hid hx
    have hv : (([n] : List Int).all tok && cok c) = false := by simpa using hc
    have Hv := Lib.hid hv
    clear hx hc hv
    go_enter Try.func17, Try.ntmps17
    go_wp2_with (first | (refine box_cfg rfl _ rfl c rfl ?_; intro w1 B1 G1 z1) | (refine load_cfg rfl _ rfl _ rfl c (by assumption) ?_) | (go_at_call 25; refine (valid_c c _ [n] _ (rd_one _ n)).mono ?_; rw [Hv.out]; rintro e w2 ⟨rfl, G2⟩))
    go_ret
    exact retInt Hx.out (grownBy_trans G1 (grownBy_trans (World.grownBy_alloc _ _ _) G2))
  · have hx : winV c n = n / c.Length := by unfold winV; rw [Bool.and_comm, hc]; rfl
    have Hx := Lib.hid hx
    have hv : (([n] : List Int).all tok && cok c) = true := by simpa using hc
    have Hv := Lib.hid hv
    simp only [Bool.and_eq_true] at hc
    obtain ⟨⟨l0, l1⟩, _⟩ := numsV hc.2
    obtain ⟨n0, n1⟩ := tokV hc.1
    clear hx hc hv
    go_enter Try.func17, Try.ntmps17
    go_wp2_with (first | (refine box_cfg rfl _ rfl c rfl ?_; intro w1 B1 G1 z1) | (refine load_cfg rfl _ rfl _ rfl c (by assumption) ?_) | (go_at_call 25; refine (valid_c c _ [n] _ (rd_one _ n)).mono ?_; rw [Hv.out]; rintro e w2 ⟨rfl, G2⟩; have hb2 := ((B1.same (World.grownBy_alloc _ _ _)).same G2).cell))
    go_ret
    exact retInt Hx.out (grownBy_trans G1 (grownBy_trans (World.grownBy_alloc _ _ _) G2))

set_option maxHeartbeats 400000 in
theorem clow_c (c : Cfg) (n : Int) (w : World) : Calls Try.prog 9 #[c.val, .int .i64 n] w (RetInt (lowV c n) w) := by
  cases hc : (tok n && cok c)
  · have hx : lowV c n = 0 := by unfold lowV; rw [Bool.and_comm, hc]; rfl
    have Hx := Lib.hid hx
    have hv : (([n] : List Int).all tok && cok c) = false := by simpa using hc
    have Hv := Lib.hid hv
    clear hx hc hv
    go_enter Try.func9, Try.ntmps9
    go_wp2_with (first | (refine box_cfg rfl _ rfl c rfl ?_; intro w1 B1 G1 z1) | (refine load_cfg rfl _ rfl _ rfl c (by assumption) ?_) | (go_at_call 25; refine (valid_c c _ [n] _ (rd_one _ n)).mono ?_; rw [Hv.out]; rintro e w2 ⟨rfl, G2⟩))
    go_ret
    exact retInt Hx.out (grownBy_trans G1 (grownBy_trans (World.grownBy_alloc _ _ _) G2))
  · have hx : lowV c n = max (n - c.Lateness) 0 / c.Length := by unfold lowV; rw [Bool.and_comm, hc]; rfl
    have Hx := Lib.hid hx
    have hv : (([n] : List Int).all tok && cok c) = true := by simpa using hc
    have Hv := Lib.hid hv
    simp only [Bool.and_eq_true] at hc
    obtain ⟨⟨l0, l1⟩, ⟨l2, l3⟩, _⟩ := numsV hc.2
    obtain ⟨n0, n1⟩ := tokV hc.1
    clear hx hc hv
    go_enter Try.func9, Try.ntmps9
    go_wp2_with (first | (refine box_cfg rfl _ rfl c rfl ?_; intro w1 B1 G1 z1) | (refine load_cfg rfl _ rfl _ rfl c (by assumption) ?_) | (go_at_call 25; refine (valid_c c _ [n] _ (rd_one _ n)).mono ?_; rw [Hv.out]; rintro e w2 ⟨rfl, G2⟩; have hb2 := ((B1.same (World.grownBy_alloc _ _ _)).same G2).cell))
    go_ret
    exact retInt Hx.out (grownBy_trans G1 (grownBy_trans (World.grownBy_alloc _ _ _) G2))


set_option maxHeartbeats 400000 in
theorem cspan_c (c : Cfg) (n : Int) (w : World) : Calls Try.prog 15 #[c.val, .int .i64 n] w (RetTwo (fromV c n) (toV c n) w) := by
  cases hc : (tok n && cok c)
  · have hx : fromV c n = 0 := by unfold fromV; rw [Bool.and_comm, hc]; rfl
    have hy : toV c n = 0 := by unfold toV; rw [Bool.and_comm, hc]; rfl
    have Hx := Lib.hid hx
    have Hy := Lib.hid hy
    have hv : (([n] : List Int).all tok && cok c) = false := by simpa using hc
    have Hv := Lib.hid hv
    clear hx hc hv hy
    go_enter Try.func15, Try.ntmps15
    go_wp2_with (first | (refine box_cfg rfl _ rfl c rfl ?_; intro w1 B1 G1 z1) | (refine load_cfg rfl _ rfl _ rfl c (by assumption) ?_) | (go_at_call 25; refine (valid_c c _ [n] _ (rd_one _ n)).mono ?_; rw [Hv.out]; rintro e w2 ⟨rfl, G2⟩))
    go_ret2
    exact retTwo Hx.out Hy.out (grownBy_trans G1 (grownBy_trans (World.grownBy_alloc _ _ _) G2))
  · have hx : fromV c n = n * c.Length := by unfold fromV; rw [Bool.and_comm, hc]; rfl
    have hy : toV c n = (n + 1) * c.Length := by unfold toV; rw [Bool.and_comm, hc]; rfl
    have Hx := Lib.hid hx
    have Hy := Lib.hid hy
    have hv : (([n] : List Int).all tok && cok c) = true := by simpa using hc
    have Hv := Lib.hid hv
    simp only [Bool.and_eq_true] at hc
    obtain ⟨⟨l0, l1⟩, _⟩ := numsV hc.2
    obtain ⟨n0, n1⟩ := tokV hc.1
    have b0 : 0 ≤ n * c.Length := Int.mul_nonneg n0 (by omega)
    have b1 : n * c.Length ≤ 1099511627776 * 1048576 := Int.mul_le_mul n1 l1 (by omega) (by omega)
    have b2 : (n + 1) * c.Length = n * c.Length + c.Length := by rw [Int.add_mul]; omega
    have w1' : IntKind.i64.wrap (n * c.Length) = n * c.Length := IntWalk.i64_in _ (by omega)
    have w2' : IntKind.i64.wrap (n + 1) = n + 1 := IntWalk.i64_in _ (by omega)
    have w3' : IntKind.i64.wrap ((n + 1) * c.Length) = (n + 1) * c.Length := IntWalk.i64_in _ (by omega)
    have W1 := Lib.hid w1'
    have W2 := Lib.hid w2'
    have W3 := Lib.hid w3'
    clear hx hc hv hy b0 b1 b2 w1' w2' w3'
    go_enter Try.func15, Try.ntmps15
    go_wp2_with (first | (refine box_cfg rfl _ rfl c rfl ?_; intro w1 B1 G1 z1) | (refine load_cfg rfl _ rfl _ rfl c (by assumption) ?_) | (go_at_call 25; refine (valid_c c _ [n] _ (rd_one _ n)).mono ?_; rw [Hv.out]; rintro e w2 ⟨rfl, G2⟩; have hb2 := ((B1.same (World.grownBy_alloc _ _ _)).same G2).cell))
    have w1' := W1.out
    have w2' := W2.out
    have w3' := W3.out
    go_quiet (fail)
    clear w1' w2' w3'
    go_wp2_with fail
    go_ret2
    exact retTwo Hx.out Hy.out (grownBy_drewN (grownBy_trans G1 (grownBy_trans (World.grownBy_alloc _ _ _) G2)) _)
set_option maxHeartbeats 400000 in
theorem rspan_c (c : Cfg) (n : Int) (w : World) : Calls Try.prog 16 #[c.val, .int .i64 n] w (RetTwo (fromV c n) (toV c n) w) := by
  cases hc : (tok n && cok c)
  · have hx : fromV c n = 0 := by unfold fromV; rw [Bool.and_comm, hc]; rfl
    have hy : toV c n = 0 := by unfold toV; rw [Bool.and_comm, hc]; rfl
    have Hx := Lib.hid hx
    have Hy := Lib.hid hy
    have hv : (cok c && tok n) = false := by rw [Bool.and_comm]; exact hc
    have Hv := Lib.hid hv
    clear hx hc hv hy
    go_enter Try.func16, Try.ntmps16
    go_wp2_with (first | (refine box_cfg rfl _ rfl c rfl ?_; intro w1 B1 G1 z1) | (refine load_cfg rfl _ rfl _ rfl c (by assumption) ?_) | (go_at_call 26; refine (rin_c c n _).mono ?_; rw [Hv.out]; rintro e w2 ⟨rfl, G2⟩))
    go_ret2
    exact retTwo Hx.out Hy.out (grownBy_trans G1 G2)
  · have hx : fromV c n = n * c.Length := by unfold fromV; rw [Bool.and_comm, hc]; rfl
    have hy : toV c n = (n + 1) * c.Length := by unfold toV; rw [Bool.and_comm, hc]; rfl
    have Hx := Lib.hid hx
    have Hy := Lib.hid hy
    have hv : (cok c && tok n) = true := by rw [Bool.and_comm]; exact hc
    have Hv := Lib.hid hv
    simp only [Bool.and_eq_true] at hc
    obtain ⟨⟨l0, l1⟩, _⟩ := numsV hc.2
    obtain ⟨n0, n1⟩ := tokV hc.1
    have b0 : 0 ≤ n * c.Length := Int.mul_nonneg n0 (by omega)
    have b1 : n * c.Length ≤ 1099511627776 * 1048576 := Int.mul_le_mul n1 l1 (by omega) (by omega)
    have b2 : (n + 1) * c.Length = n * c.Length + c.Length := by rw [Int.add_mul]; omega
    have w1' : IntKind.i64.wrap (n * c.Length) = n * c.Length := IntWalk.i64_in _ (by omega)
    have w2' : IntKind.i64.wrap (n + 1) = n + 1 := IntWalk.i64_in _ (by omega)
    have w3' : IntKind.i64.wrap ((n + 1) * c.Length) = (n + 1) * c.Length := IntWalk.i64_in _ (by omega)
    have W1 := Lib.hid w1'
    have W2 := Lib.hid w2'
    have W3 := Lib.hid w3'
    clear hx hc hv hy b0 b1 b2 w1' w2' w3'
    go_enter Try.func16, Try.ntmps16
    go_wp2_with (first | (refine box_cfg rfl _ rfl c rfl ?_; intro w1 B1 G1 z1) | (refine load_cfg rfl _ rfl _ rfl c (by assumption) ?_) | (go_at_call 26; refine (rin_c c n _).mono ?_; rw [Hv.out]; rintro e w2 ⟨rfl, G2⟩; have hb2 := (B1.same G2).cell))
    have w1' := W1.out
    have w2' := W2.out
    have w3' := W3.out
    go_quiet (fail)
    clear w1' w2' w3'
    go_wp2_with fail
    go_ret2
    exact retTwo Hx.out Hy.out (grownBy_drewN (grownBy_trans G1 G2) _)

set_option maxHeartbeats 400000 in
theorem rlow_c (c : Cfg) (n : Int) (w : World) : Calls Try.prog 19 #[c.val, .int .i64 n] w (RetInt (lowV c n) w) := by
  cases hc : (cok c && tok n)
  · have hx : lowV c n = 0 := by unfold lowV; rw [hc]; rfl
    have Hx := Lib.hid hx
    have Hc := Lib.hid hc
    clear hx hc
    go_enter Try.func19, Try.ntmps19
    go_wp2_with (first | (refine box_cfg rfl _ rfl c rfl ?_; intro w1 B1 G1 z1) | (refine load_cfg rfl _ rfl _ rfl c (by assumption) ?_) | (go_at_call 26; refine (rin_c c n _).mono ?_; rw [Hc.out]; rintro e w2 ⟨rfl, G2⟩))
    go_ret
    exact retInt Hx.out (grownBy_trans G1 G2)
  · have hx : lowV c n = max (n - c.Lateness) 0 / c.Length := by unfold lowV; rw [hc]; rfl
    have Hc := Lib.hid hc
    simp only [Bool.and_eq_true] at hc
    obtain ⟨⟨l0, l1⟩, ⟨l2, l3⟩, _⟩ := numsV hc.1
    obtain ⟨n0, n1⟩ := tokV hc.2
    by_cases hl : n < c.Lateness
    · have hx2 : lowV c n = 0 := by rw [hx, Int.max_eq_right (by omega)]; simp
      have Hx := Lib.hid hx2
      have d1 : decide (n < c.Lateness) = true := decide_eq_true hl
      clear hx hx2 hc
      go_enter Try.func19, Try.ntmps19
      go_wp2_with (first | (refine box_cfg rfl _ rfl c rfl ?_; intro w1 B1 G1 z1) | (refine load_cfg rfl _ rfl _ rfl c (by assumption) ?_) | (go_at_call 26; refine (rin_c c n _).mono ?_; rw [Hc.out]; rintro e w2 ⟨rfl, G2⟩; have hb2 := (B1.same G2).cell))
      go_ret
      exact retInt Hx.out (grownBy_trans G1 G2)
    · have hx2 : lowV c n = (n - c.Lateness) / c.Length := by rw [hx, Int.max_eq_left (by omega)]
      have Hx := Lib.hid hx2
      have d1 : decide (n < c.Lateness) = false := decide_eq_false hl
      have hl' : c.Lateness ≤ n := by omega
      clear hx hx2 hc hl
      go_enter Try.func19, Try.ntmps19
      go_wp2_with (first | (refine box_cfg rfl _ rfl c rfl ?_; intro w1 B1 G1 z1) | (refine load_cfg rfl _ rfl _ rfl c (by assumption) ?_) | (go_at_call 26; refine (rin_c c n _).mono ?_; rw [Hc.out]; rintro e w2 ⟨rfl, G2⟩; have hb2 := (B1.same G2).cell))
      go_ret
      exact retInt Hx.out (grownBy_trans G1 G2)

theorem lowV_bd (c : Cfg) (n : Int) : 0 ≤ lowV c n ∧ lowV c n ≤ 1099511627776 := by
  unfold lowV
  split
  · rename_i h
    simp only [Bool.and_eq_true] at h
    obtain ⟨⟨l0, l1⟩, ⟨l2, l3⟩, _⟩ := numsV h.1
    obtain ⟨n0, n1⟩ := tokV h.2
    have h1 : max (n - c.Lateness) 0 / c.Length ≤ max (n - c.Lateness) 0 := Int.ediv_le_self _ (by omega)
    exact ⟨Int.ediv_nonneg (by omega) (by omega), by omega⟩
  · omega
theorem winV_bd (c : Cfg) (n : Int) : 0 ≤ winV c n ∧ winV c n ≤ 1099511627776 := by
  unfold winV
  split
  · rename_i h
    simp only [Bool.and_eq_true] at h
    obtain ⟨⟨l0, l1⟩, _⟩ := numsV h.1
    obtain ⟨n0, n1⟩ := tokV h.2
    have h1 : n / c.Length ≤ n := Int.ediv_le_self _ n0
    exact ⟨Int.ediv_nonneg n0 (by omega), by omega⟩
  · omega

attribute [local go_sem ↓] exec_load_cfg
attribute [local go_sem] run_loadCfgS

theorem verV_no {c : Cfg} {m t : Int} (h : (cok c && tok m && tok t) = false) : verV c m t = 0 := by unfold verV; rw [h]; rfl
theorem verV_yes {c : Cfg} {m t : Int} (h : (cok c && tok m && tok t) = true) : verV c m t = if winV c t < lowV c m then 3 else if lowV c m + c.Windows ≤ winV c t then 4 else 0 := by unfold verV; rw [h]; rfl

theorem verV_late {c : Cfg} {m t : Int} (h : (cok c && tok m && tok t) = true) (h1 : winV c t < lowV c m) : verV c m t = 3 := by rw [verV_yes h, if_pos h1]
theorem verV_early {c : Cfg} {m t : Int} (h : (cok c && tok m && tok t) = true) (h1 : ¬ winV c t < lowV c m) (h2 : lowV c m + c.Windows ≤ winV c t) : verV c m t = 4 := by rw [verV_yes h, if_neg h1, if_pos h2]
theorem verV_in {c : Cfg} {m t : Int} (h : (cok c && tok m && tok t) = true) (h1 : ¬ winV c t < lowV c m) (h2 : ¬ lowV c m + c.Windows ≤ winV c t) : verV c m t = 0 := by rw [verV_yes h, if_neg h1, if_neg h2]

set_option maxHeartbeats 1000000 in
theorem cver_c (c : Cfg) (m n : Int) (w : World) : Calls Try.prog 10 #[c.val, .int .i64 m, .int .i64 n] w (RetInt (verV c m n) w) := by
  have he : (([m, n] : List Int).all tok && cok c) = (cok c && tok m && tok n) := by simp only [List.all_cons, List.all_nil, Bool.and_true]; cases cok c <;> cases tok m <;> cases tok n <;> rfl
  have He := Lib.hid he
  clear he
  cases hc : (cok c && tok m && tok n)
  · have Hx := Lib.hid (verV_no hc)
    have Hc := Lib.hid hc
    clear hc
    go_enter Try.func10, Try.ntmps10
    go_wp2_with (first | (refine box_cfg rfl _ rfl c rfl ?_; intro w1 B1 G1 z1) | (refine load_cfg rfl _ rfl _ rfl c (by assumption) ?_) | (go_at_call 25; refine (valid_c c _ [m, n] _ (rd_two _ m n)).mono ?_; rw [He.out, Hc.out]; rintro e w2 ⟨rfl, G2⟩))
    go_ret
    exact retInt Hx.out (grownBy_trans G1 (grownBy_trans (World.grownBy_alloc _ _ _) G2))
  · have Hc := Lib.hid hc
    obtain ⟨b1, b2⟩ := lowV_bd c m
    obtain ⟨b3, b4⟩ := winV_bd c n
    have hcc : cok c = true := by simp only [Bool.and_eq_true] at hc; exact hc.1.1
    obtain ⟨_, _, l0, l1⟩ := numsV hcc
    clear hc hcc
    go_enter Try.func10, Try.ntmps10
    go_upto_region 3 with (first | (refine box_cfg rfl _ rfl c rfl ?_; intro w1 B1 G1 z1) | (refine load_cfg rfl _ rfl _ rfl c (by assumption) ?_) | (go_at_call 25; refine (valid_c c _ [m, n] _ (rd_two _ m n)).mono ?_; rw [He.out, Hc.out]; rintro e w2 ⟨rfl, G2⟩; have B2 := (B1.same (World.grownBy_alloc _ _ _)).same G2; have G3 := grownBy_trans G1 (grownBy_trans (World.grownBy_alloc _ _ _) G2)))
    obtain ⟨r1, r2, r3⟩ := B2.re
    have r4 := call_re (w := w2) fun w' _ => clow_c c m w'
    have r5 := call_re (w := w2) fun w' _ => cwin_c c n w'
    refine Tail.wp_region_tail_grown 8 (by kernel_rfl) (by kernel_rfl) ?_
    simp only [List.take, List.drop]
    repeat (go_big_quiet_step (first | (with_reducible exact r4 _ _) | (with_reducible exact r5 _ _)))
    refine wpQuiet_nil ?_
    rintro _ ⟨⟨d5, os5⟩, rfl⟩
    have B5 := (B2.same (grown_re w2 d5 os5)).cell
    have G5 := grownBy_trans G3 (grown_re w2 d5 os5)
    clear r1 r2 r3 r4 r5
    generalize Go.Sort.grow (redrawn w2 d5) os5 = w5 at *
    by_cases h1 : winV c n < lowV c m
    · have Hy := Lib.hid (verV_late Hc.out h1)
      go_wp2_with fail
      go_ret
      exact retInt Hy.out G5
    · have d1 : decide (winV c n < lowV c m) = false := decide_eq_false h1
      by_cases h2 : lowV c m + c.Windows ≤ winV c n
      · have Hy := Lib.hid (verV_early Hc.out h1 h2)
        clear h1
        go_wp2_with fail
        go_ret
        exact retInt Hy.out G5
      · have Hy := Lib.hid (verV_in Hc.out h1 h2)
        have d2 : decide (lowV c m + c.Windows ≤ winV c n) = false := decide_eq_false h2
        clear h2 h1
        go_wp2_with fail
        go_ret
        exact retInt Hy.out G5

set_option maxHeartbeats 1000000 in
theorem rver_c (c : Cfg) (m n : Int) (w : World) : Calls Try.prog 20 #[c.val, .int .i64 m, .int .i64 n] w (RetInt (verV c m n) w) := by
  cases hc : (cok c && tok n)
  · have hx : verV c m n = 0 := verV_no (by cases h1 : cok c <;> cases h2 : tok n <;> simp_all)
    have Hx := Lib.hid hx
    have Hc := Lib.hid hc
    clear hx hc
    go_enter Try.func20, Try.ntmps20
    go_wp2_with (first | (refine box_cfg rfl _ rfl c rfl ?_; intro w1 B1 G1 z1) | (refine load_cfg rfl _ rfl _ rfl c (by assumption) ?_) | (go_at_call 26; refine (rin_c c n _).mono ?_; rw [Hc.out]; rintro e w2 ⟨rfl, G2⟩))
    go_ret
    exact retInt Hx.out (grownBy_trans G1 G2)
  · cases hd : (cok c && tok m)
    · have hx : verV c m n = 0 := verV_no (by rw [hd]; rfl)
      have Hx := Lib.hid hx
      have Hc := Lib.hid hc
      have Hd := Lib.hid hd
      clear hx hc hd
      go_enter Try.func20, Try.ntmps20
      go_wp2_with (first | (refine box_cfg rfl _ rfl c rfl ?_; intro w1 B1 G1 z1) | (refine load_cfg rfl _ rfl _ rfl c (by assumption) ?_) | (refine load_cfg_if rfl _ rfl _ rfl c (by assumption) ?_) | (go_at_call_of 26 (Value.int IntKind.i64 n); refine (rin_c c n _).mono ?_; rw [Hc.out]; rintro e w2 ⟨rfl, G2⟩; have B2 := B1.same G2; clear B1) | (go_at_call_of 26 (Value.int IntKind.i64 m); refine (rin_c c m _).mono ?_; rw [Hd.out]; rintro e w3 ⟨rfl, G3⟩))
      go_ret
      exact retInt Hx.out (grownBy_trans G1 (grownBy_trans G2 G3))
    · have hcc : cok c = true := by simp only [Bool.and_eq_true] at hc; exact hc.1
      have hall : (cok c && tok m && tok n) = true := by
        simp only [Bool.and_eq_true] at hc hd ⊢; exact ⟨hd, hc.2⟩
      have Ha := Lib.hid hall
      have Hc := Lib.hid hc
      have Hd := Lib.hid hd
      obtain ⟨b1, b2⟩ := lowV_bd c m
      obtain ⟨b3, b4⟩ := winV_bd c n
      obtain ⟨_, _, l0, l1⟩ := numsV hcc
      clear hc hd hcc hall
      go_enter Try.func20, Try.ntmps20
      go_upto_region 3 with (first | (refine box_cfg rfl _ rfl c rfl ?_; intro w1 B1 G1 z1) | (refine load_cfg rfl _ rfl _ rfl c (by assumption) ?_) | (refine load_cfg_if rfl _ rfl _ rfl c (by assumption) ?_) | (go_at_call_of 26 (Value.int IntKind.i64 n); refine (rin_c c n _).mono ?_; rw [Hc.out]; rintro e w2 ⟨rfl, G2⟩; have B2 := B1.same G2; clear B1) | (go_at_call_of 26 (Value.int IntKind.i64 m); refine (rin_c c m _).mono ?_; rw [Hd.out]; rintro e w3 ⟨rfl, G3⟩; have B3 := B2.same G3; clear B2; have G4 := grownBy_trans G1 (grownBy_trans G2 G3)))
      obtain ⟨r1, r2, r3⟩ := B3.re
      have r4 := call_re (w := w3) fun w' _ => rlow_c c m w'
      have r5 := call_re (w := w3) fun w' _ => rwin_c c n w'
      refine Tail.wp_region_tail_grown 8 (by kernel_rfl) (by kernel_rfl) ?_
      simp only [List.take, List.drop]
      repeat (go_big_quiet_step (first | (with_reducible exact r4 _ _) | (with_reducible exact r5 _ _)))
      refine wpQuiet_nil ?_
      rintro _ ⟨⟨d5, os5⟩, rfl⟩
      have B5 := (B3.same (grown_re w3 d5 os5)).cell
      have G5 := grownBy_trans G4 (grown_re w3 d5 os5)
      clear r1 r2 r3 r4 r5
      generalize Go.Sort.grow (redrawn w3 d5) os5 = w5 at *
      by_cases h1 : winV c n < lowV c m
      · have Hy := Lib.hid (verV_late Ha.out h1)
        go_wp2_with fail
        go_ret
        exact retInt Hy.out G5
      · have d1 : decide (winV c n < lowV c m) = false := decide_eq_false h1
        by_cases h2 : lowV c m + c.Windows ≤ winV c n
        · have Hy := Lib.hid (verV_early Ha.out h1 h2)
          clear h1
          go_wp2_with fail
          go_ret
          exact retInt Hy.out G5
        · have Hy := Lib.hid (verV_in Ha.out h1 h2)
          have d2 : decide (lowV c m + c.Windows ≤ winV c n) = false := decide_eq_false h2
          clear h2 h1
          go_wp2_with fail
          go_ret
          exact retInt Hy.out G5
end Go.Proofs.Ytahpenpgpnggcaa
