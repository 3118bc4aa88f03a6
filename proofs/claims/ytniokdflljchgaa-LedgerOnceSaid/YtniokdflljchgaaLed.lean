/- The ledger: the program's functions. -/
import Derived.Test.YtniokdflljchgaaGrow
import Derived.Test.YtniokdflljchgaaLedP
import Derived.Test.YtniokdflljchgaaSat
import Derived.Test.YtniokdflljchgaaRet
import Derived.Maps.OwnOps
import Derived.Carry
namespace Go.Proofs.Ytniokdflljchgaa
open Go.RowKit Go.Maps

theorem keyI : Keyed Try.prog 3 := int_keyed Try.underlying3
theorem zeroW (w : World) : (zeroValue 47).run Try.prog w = .ok (.int .u64 0) w := by kernel_rfl
theorem wf_i64 {n : Int} (h0 : -9223372036854775808 ≤ n) (h1 : n ≤ 9223372036854775807) : (Lit.int .i64 n).wf = true := WalkArith.wf_i64 ⟨h0, h1⟩
def I64 (n : Int) : Prop := -9223372036854775808 ≤ n ∧ n ≤ 9223372036854775807

def ledA (bm : Nat) (acc : Int) (R : List Int) : Array Value := (Value.map (some bm) :: .int .i64 acc :: R.map (fun n => Value.int .u64 n)).toArray
/-- A ledger of the program: its block, its map. -/
structure Led (w : World) (b bm n : Nat) (L : List (Int × Int)) (acc : Int) (R : List Int) : Prop where
  blk : Blk w b (ledA bm acc R)
  own : ∃ D : DataW Unit, w.ownsMap Try.prog 3 (plainElem Try.prog 47) bm n D ∧ LedD D L
  asc : Asc L
  keys : ∀ p ∈ L, I64 p.1
  vals : ∀ p ∈ L, W64 p.2
  rl : R.length = 7
  rw : ∀ r ∈ R, W64 r
  ne : b ≠ bm
theorem Led.keptS {w w' : World} {b bm n : Nat} {L : List (Int × Int)} {acc : Int} {R : List Int} {S : Nat → Prop} (h : Led w b bm n L acc R) (k : GrownS S w w') (h1 : ¬ S b) (h2 : ¬ S bm) : Led w' b bm n L acc R :=
  ⟨h.blk.keptS k h1, by obtain ⟨D, h3, h4⟩ := h.own; exact ⟨D, ownsMap_keptS h3 k h2, h4⟩, h.asc, h.keys, h.vals, h.rl, h.rw, h.ne⟩
theorem Led.same {w w' : World} {b bm n : Nat} {L : List (Int × Int)} {acc : Int} {R : List Int} (h : Led w b bm n L acc R) (k : w.grownBy w' none) : Led w' b bm n L acc R :=
  h.keptS (GrownS.none_ (S := fun _ => False) k) id id
def Two (b bm : Nat) (i : Nat) : Prop := i = b ∨ i = bm
theorem ledA0 (bm : Nat) (acc : Int) (R : List Int) : (ledA bm acc R)[0]? = some (.map (some bm)) := by simp [ledA]
theorem ledA1 (bm : Nat) (acc : Int) (R : List Int) : (ledA bm acc R)[1]? = some (.int .i64 acc) := by simp [ledA]
theorem ledA2 (bm : Nat) (acc : Int) (R : List Int) {k : Nat} (hk : k < R.length) : (ledA bm acc R)[2 + k]? = some (.int .u64 R[k]) := by
  simp [ledA, Nat.add_comm 2 k, hk]

set_option maxHeartbeats 400000 in
theorem ledNew_c (w : World) : Calls Try.prog 19 #[] w (fun e w' => ∃ b bm, e = .returned (.pointer (some ⟨b, 0, none⟩)) ∧ Led w' b bm 0 [] 0 [0, 0, 0, 0, 0, 0, 0] ∧ w.heap.size ≤ b ∧ w.heap.size ≤ bm ∧ b < w'.heap.size ∧ bm < w'.heap.size ∧ w.grownBy w' none) := by
  have hmm := @run_makeMap Try.prog
  go_enter Try.func19, Try.ntmps19
  go_wp2_with fail
  go_ret
  have hM := World.ownsMap_made (H := Unit) w Try.prog 3 (plainElem Try.prog 47)
  refine ⟨w.heap.size + 1, w.heap.size, by simp, ⟨Blk.new' _ _ _ (by simp), ⟨_, ownsMap_keptS hM (GrownS.none_ (S := fun _ => False) (World.grownBy_alloc _ _ none)) id, LedD.nil⟩, by simp [Asc], by simp, by simp, rfl, (fun r hr => by simp at hr; subst hr; exact ⟨by omega, by omega⟩), by omega⟩, by omega, by omega, by simp, by simp; omega, (by (repeat (first | exact grownBy_refl _ _ | assumption | refine grownBy_new_block ?_ _ | refine grownBy_drew ?_ | refine grownBy_drewN ?_ _ | refine grownBy_setNew ?_ (by first | (simp; done) | omega | (simp; omega)) _)))⟩

set_option maxHeartbeats 400000 in
theorem ledTotal_c (b bm n : Nat) (L : List (Int × Int)) (acc : Int) (R : List Int) (win : Int) (w : World) (h : Led w b bm n L acc R) (hw : I64 win) : Calls Try.prog 20 #[.pointer (some ⟨b, 0, none⟩), .int .i64 win] w (RetWord (ldAt L win) w) := by
  obtain ⟨D, hown, hD⟩ := h.own
  have c0 : w.cell? ⟨b, 0, none⟩ = some (.map (some bm)) := by rw [h.blk.cell]; exact ledA0 _ _ _
  have hat := Lib.hid (hD.at_ win)
  have hkey := keyOf_int_mk (P := Try.prog) Try.underlying3 (wf_i64 hw.1 hw.2)
  clear h hD
  go_enter Try.func20, Try.ntmps20
  go_wp2_with (at_lookup; refine wpList_lookup_own_int _ rfl _ _ 91 rfl 3 47 .u64 keyI Try.underlying91 Try.underlying47 (zeroW _) bm n D rfl hown _ _ rfl hkey ?_; intro c hc hwc)
  go_ret
  rw [hat.out] at hc
  cases hc
  exact retWord rfl (grownBy_refl _ _)

set_option maxHeartbeats 400000 in
theorem ledAccepted_c (b bm n : Nat) (L : List (Int × Int)) (acc : Int) (R : List Int) (w : World) (h : Led w b bm n L acc R) : Calls Try.prog 21 #[.pointer (some ⟨b, 0, none⟩)] w (RetInt acc w) := by
  have c0 : w.cell? ⟨b, 1, none⟩ = some (.int .i64 acc) := by rw [h.blk.cell]; exact ledA1 _ _ _
  clear h
  go_enter Try.func21, Try.ntmps21
  go_wp2
  go_ret
  exact retInt rfl (grownBy_refl _ _)

/-- 'm[k]' behind a guard that says yes. -/
theorem lookup_int_if {H : Type} (w : World) {ops : Array Oper} {rest : List Oper} {o : Oper} {a : Act} {Q : Exit → Act → World → Prop}
    (hg : Region.wanted o (yielded ops a.tmps) = true) (m x : Operand) (t : TypeId) (hop : o.op = Op.lookup t m x false)
    (k e : TypeId) (q : IntKind) (K : Keyed Try.prog k) (ht : Try.prog.underlying t = some (.map k e)) (he : Try.prog.underlying e = some (.int q)) (hz : (zeroValue e).run Try.prog w = .ok (.int q 0) w) (b n : Nat) (D : DataW H)
    (hm : a.eval m = .map (some b)) (hown : w.ownsMap Try.prog k (plainElem Try.prog e) b n D) (key : Value) (kl : Lit) (hx : a.eval x = key) (hkey : keyOf Try.prog k key = some kl)
    (hK : ∀ c : Int, D.atKey kl (.lit (.int q 0)) = .lit (.int q c) → (Lit.int q c).wf = true → wpList Try.prog ops Q rest (a.put o.dst (.int q c)) w) :
    wpList Try.prog ops Q (o :: rest) a w := by
  refine BigFrame.wpList_want hg fun K' hK' => ?_
  obtain ⟨c, hrun, hat, hwc⟩ := hown.lookup_int K ht he hz hkey
  unfold Oper.wp
  simp [execOp, hop, hm, hx, hrun, Result.andThen]
  exact hK' _ _ (hK c hat hwc)

def fitsB (a b : Int) : Bool := decide (a + b ≤ 9223372036854775808)
set_option maxHeartbeats 400000 in
theorem satFits_c (a b : Int) (w : World) (ha : W64 a) (hb : W64 b) : Calls Try.prog 54 #[.int .u64 a, .int .u64 b] w (fun e w' => e = .returned (.bool (fitsB a b)) ∧ w = w') := by
  have C := Lib.hid fun w => satAdd_c a b w ha hb
  by_cases h : a + b ≤ 18446744073709551615
  · have h1 : fitA a b = true := decide_eq_true h
    have h2 := Lib.hid (show satA a b = a + b from if_pos h)
    have h3 := Lib.hid (show fitsB a b = decide (a + b ≤ 9223372036854775808) from rfl)
    clear ha hb
    go_enter Try.func54, Try.ntmps54
    go_wp2_with (go_at_call 55; refine (C.out _).mono ?_; rintro e w' ⟨rfl, rfl⟩; rw [h1, h2.out])
    go_ret
    exact ⟨by rw [h3.out]; rfl, rfl⟩
  · have h1 : fitA a b = false := decide_eq_false h
    have h3 := Lib.hid (show fitsB a b = false from decide_eq_false (by omega))
    clear ha hb
    go_enter Try.func54, Try.ntmps54
    go_wp2_with (go_at_call 55; refine (C.out _).mono ?_; rintro e w' ⟨rfl, rfl⟩; rw [h1])
    go_ret
    exact ⟨by rw [h3.out]; rfl, rfl⟩
theorem ldAt_w {L : List (Int × Int)} (h : ∀ p ∈ L, W64 p.2) (w : Int) : W64 (ldAt L w) := by
  induction L with
  | nil => exact ⟨by simp [ldAt], by simp [ldAt]⟩
  | cons p L ih =>
    simp only [ldAt]; split
    · exact h p (by simp)
    · exact ih fun q hq => h q (List.mem_cons_of_mem p hq)

set_option maxHeartbeats 400000 in
theorem ledFits_c (b bm n : Nat) (L : List (Int × Int)) (acc : Int) (R : List Int) (win x : Int) (w : World) (h : Led w b bm n L acc R) (hw : I64 win) (hx : W64 x) : Calls Try.prog 22 #[.pointer (some ⟨b, 0, none⟩), .int .i64 win, .int .u64 x] w (RetBool (fitsB (ldAt L win) x) w) := by
  obtain ⟨D, hown, hD⟩ := h.own
  have c0 : w.cell? ⟨b, 0, none⟩ = some (.map (some bm)) := by rw [h.blk.cell]; exact ledA0 _ _ _
  have hat := Lib.hid (hD.at_ win)
  have hkey := keyOf_int_mk (P := Try.prog) Try.underlying3 (wf_i64 hw.1 hw.2)
  have C := Lib.hid fun w => satFits_c (ldAt L win) x w (ldAt_w h.vals win) hx
  clear h hD
  go_enter Try.func22, Try.ntmps22
  go_wp2_with (first
    | (at_lookup; refine lookup_int_if _ rfl _ _ 91 rfl 3 47 .u64 keyI Try.underlying91 Try.underlying47 (zeroW _) bm n D rfl hown _ _ rfl hkey ?_; intro c hc hwc; rw [hat.out] at hc; cases hc)
    | (go_at_call 54; refine (C.out _).mono ?_; rintro e w' ⟨rfl, rfl⟩))
  go_ret
  exact retBool rfl (grownBy_refl _ _)

theorem keys_put {L : List (Int × Int)} (h : ∀ p ∈ L, I64 p.1) {win n : Int} (hw : I64 win) : ∀ p ∈ ldPut L win n, I64 p.1 := fun p hp => by
  rcases mem_ldPut hp with h1 | h1
  · rw [h1]; exact hw
  · exact h p h1
theorem vals_put {win n : Int} : ∀ {L : List (Int × Int)}, (∀ p ∈ L, W64 p.2) → Asc L → W64 (ldAt L win + n) → ∀ p ∈ ldPut L win n, W64 p.2
  | [], _, _, hs, p, hp => by simp [ldPut] at hp; subst hp; simpa [ldAt] using hs
  | q :: L, h, hA, hs, p, hp => by
    simp only [ldPut] at hp
    simp only [ldAt] at hs
    by_cases a : q.1 < win
    · rw [if_pos a] at hp
      rw [if_neg (by omega)] at hs
      rcases List.mem_cons.1 hp with rfl | hp
      · exact h p (by simp)
      · exact vals_put (fun x hx => h x (List.mem_cons_of_mem q hx)) (asc_cons hA).2 hs p hp
    · rw [if_neg a] at hp
      by_cases c : q.1 = win
      · rw [if_pos c] at hp hs
        rcases List.mem_cons.1 hp with rfl | hp
        · exact hs
        · exact h p (List.mem_cons_of_mem q hp)
      · rw [if_neg c] at hp hs
        rw [ldAt_gt fun x hx => by have := (asc_cons hA).1 x hx; omega] at hs
        rcases List.mem_cons.1 hp with rfl | hp
        · simpa using hs
        · exact h p hp
theorem set_led (bm : Nat) (acc acc' : Int) (R : List Int) : (ledA bm acc R).setIfInBounds 1 (.int .i64 acc') = ledA bm acc' R := by simp [ledA]
def accL (L : List (Int × Int)) (win x : Int) : List (Int × Int) := if fitsB (ldAt L win) x then ldPut L win x else L
def accN (L : List (Int × Int)) (win x acc : Int) : Int := if fitsB (ldAt L win) x then acc + 1 else acc
set_option maxHeartbeats 400000 in
set_option maxRecDepth 100000 in
theorem ledAccept_c (b bm n : Nat) (L : List (Int × Int)) (acc : Int) (R : List Int) (win x : Int) (w : World) (h : Led w b bm n L acc R) (hw : I64 win) (hx : W64 x) (hn : n < 1000000) (ha : 0 ≤ acc ∧ acc < 1000000) :
    Calls Try.prog 23 #[.pointer (some ⟨b, 0, none⟩), .int .i64 win, .int .u64 x] w (fun e w' => e = .returned (.bool (fitsB (ldAt L win) x)) ∧ Led w' b bm (n + 1) (accL L win x) (accN L win x acc) R ∧ GrownS (Two b bm) w w') := by
  have H := Lib.hid h
  have C := Lib.hid fun w h => ledFits_c b bm n L acc R win x w h hw hx
  obtain ⟨F, hF⟩ : ∃ F, fitsB (ldAt L win) x = F := ⟨_, rfl⟩
  unfold accL accN
  rw [hF] at C ⊢
  cases F
  · clear h
    go_enter Try.func23, Try.ntmps23
    go_wp2_with (go_at_call 22; refine (C.out _ H.out).mono ?_; rintro e w' ⟨rfl, g⟩)
    go_ret
    obtain ⟨D, h1, h2⟩ := (H.out.same g).own
    have h0 := H.out.same g
    exact ⟨rfl, ⟨h0.blk, ⟨D, h1.mono (Nat.le_succ n), h2⟩, h0.asc, h0.keys, h0.vals, h0.rl, h0.rw, h0.ne⟩, GrownS.none_ g⟩
  · have hsum : ldAt L win + x ≤ 9223372036854775808 := by unfold fitsB at hF; exact of_decide_eq_true hF
    have hsum2 : ldAt L win + x ≤ 18446744073709551615 := by omega
    have HA := Lib.hid (ldAt_w h.vals win)
    have hA := HA.out
    have hkey := keyOf_int_mk (P := Try.prog) Try.underlying3 (wf_i64 hw.1 hw.2)
    have HK := Lib.hid (show WideAt.IsKeyLit (.int .i64 win) from trivial)
    have hne := h.ne
    unfold W64 at hA hx
    have Hx := Lib.hid hx
    have hwr : IntKind.u64.wrap (ldAt L win + x) = ldAt L win + x := IntWalk.u64_in _ (by omega)
    have hwf : (Lit.int .u64 (ldAt L win + x)).wf = true := WalkArith.wf_u64 (by omega)
    have hnm : n < maxLen := by unfold maxLen; omega
    clear h hF
    go_enter Try.func23, Try.ntmps23
    go_upto_region 3 with (go_at_call 22; refine (C.out _ H.out).mono ?_; rintro e w1 ⟨rfl, g1⟩)
    have h1 := H.out.same g1
    have H1 := Lib.hid h1
    obtain ⟨D, hown, hD⟩ := h1.own
    have c0 : w1.cell? ⟨b, 0, none⟩ = some (.map (some bm)) := by rw [h1.blk.cell]; exact ledA0 _ _ _
    have hat := Lib.hid (hD.at_ win)
    have HD := Lib.hid hD
    have HM := Lib.hid hown.isMap
    clear h1 hD hsum hA
    go_upto_region 4 with (first
      | (at_lookup; refine wpList_lookup_own_int _ rfl _ _ 91 rfl 3 47 .u64 keyI Try.underlying91 Try.underlying47 (zeroW _) bm n D rfl hown _ _ rfl hkey ?_; intro c hc hwc; rw [hat.out] at hc; cases hc; clear hwc)
      | (at_mapUpdate; refine wpList_mapUpdate_own _ rfl _ _ _ 91 rfl 3 47 keyI Try.underlying91 _ bm n D rfl hown hnm _ _ _ rfl rfl hkey _ [] (plainElem_int Try.underlying47 hwf) ?_; intro w2 hown2 hg2))
    have c1 : w2.cell? ⟨b, 1, none⟩ = some (.int .i64 acc) := by rw [(H1.out.blk.kept hg2 (by simp; omega)).cell]; exact ledA1 _ _ _
    have f1 := (H1.out.blk.kept hg2 (by simp; omega)).free 1
    have hwa : IntKind.i64.wrap (acc + 1) = acc + 1 := IntWalk.i64_in _ (by omega)
    clear c0 hown
    go_wp2
    go_ret
    have hp := HD.out.put (n := x) H1.out.asc HM.out HK.out
    have G2 : GrownS (Two b bm) w1 w2 := GrownS.of hg2 (fun k e => by cases e; exact .inr rfl)
    have gs := grownBy_set (grownBy_refl w2 (some b)) 1 (.int .i64 (acc + 1))
    have G3 : GrownS (Two b bm) w2 (w2.setCell ⟨b, 1, none⟩ (.int .i64 (acc + 1))) := GrownS.of gs (fun k e => by cases e; exact .inl rfl)
    have hA := HA.out
    unfold W64 at hA
    refine ⟨rfl, ⟨(H1.out.blk.kept hg2 (by simp; omega)).set_ 1 _ (set_led _ _ _ _), ⟨_, ownsMap_keptS hown2 (GrownS.of gs (S := fun k => k = b) (fun k e => by cases e; rfl)) (fun e => hne e.symm), hp⟩, asc_put H1.out.asc, keys_put H1.out.keys hw, vals_put H1.out.vals H1.out.asc ⟨by omega, hsum2⟩, H1.out.rl, H1.out.rw, hne⟩, ((GrownS.none_ (S := Two b bm) g1).trans G2 (fun i hi _ => hi)).trans G3 (fun i hi _ => hi)⟩

set_option maxHeartbeats 400000 in
set_option maxRecDepth 100000 in
theorem ledClose_c (b bm n : Nat) (L : List (Int × Int)) (acc : Int) (R : List Int) (win : Int) (w : World) (h : Led w b bm n L acc R) (hw : I64 win) :
    Calls Try.prog 31 #[.pointer (some ⟨b, 0, none⟩), .int .i64 win] w (fun e w' => e = .returned (.tuple #[.int .u64 (ldAt L win), .bool (ldHas L win)]) ∧ Led w' b bm n (ldDel L win) acc R ∧ GrownS (Two b bm) w w') := by
  obtain ⟨D, hown, hD⟩ := h.own
  have c0 : w.cell? ⟨b, 0, none⟩ = some (.map (some bm)) := by rw [h.blk.cell]; exact ledA0 _ _ _
  have hat := Lib.hid (hD.at_ win)
  have hha := Lib.hid (hD.has win)
  have hkey := keyOf_int_mk (P := Try.prog) Try.underlying3 (wf_i64 hw.1 hw.2)
  have H := Lib.hid h
  have HD := Lib.hid hD
  clear h hD
  go_enter Try.func31, Try.ntmps31
  go_wp2_with (first
    | (at_lookup; refine wpList_lookup_own_ok_int _ rfl _ _ 91 rfl 3 47 .u64 keyI Try.underlying91 Try.underlying47 (zeroW _) bm n D rfl hown _ _ rfl hkey ?_; intro c hc hwc; rw [hat.out] at hc; cases hc; clear hwc; rw [hha.out])
    | (at_delete; refine wpList_delete_own _ rfl _ _ 91 3 rfl 47 keyI Try.underlying91 _ bm n D rfl hown _ _ rfl hkey ?_; intro w1 hown1 hturn1))
  go_ret2
  have hg := hturn1.grown
  have hne := H.out.ne
  exact ⟨rfl, ⟨H.out.blk.kept hg (by simp; omega), ⟨_, hown1, HD.out.del H.out.asc⟩, asc_del H.out.asc, fun p hp => H.out.keys p (mem_ldDel hp), fun p hp => H.out.vals p (mem_ldDel hp), H.out.rl, H.out.rw, hne⟩, GrownS.of hg (fun k e => by cases e; exact .inr rfl)⟩
end Go.Proofs.Ytniokdflljchgaa
