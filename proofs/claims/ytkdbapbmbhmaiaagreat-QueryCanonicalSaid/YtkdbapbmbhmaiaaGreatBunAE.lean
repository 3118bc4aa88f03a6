/- Several texts in one file; each begins with a comment that says what is proved in it. -/
import Derived.Test.YtkdbapbmbhmaiaaGreatBunAA
import Derived.Test.YtkdbapbmbhmaiaaGreatBunAD
import Derived.ArgAppend
import Derived.Maps.OwnSet

/- A region that draws its order: each of its operations but the last ones is walked ONCE, in the order of the text, in a world of its own that has moved on from the beginning and from what the operation waits for; a call is given by a relation that does not hang on the other operations' values. The last operations, each of which waits for all before it, follow as a plain list. -/
namespace Go.Proofs.YtkdbapbmbhmaiaaGreat
namespace Rg
open Tail

def plainOp : Op → Bool
  | .call { callee := .builtin b, .. } => match b with
    | .append | .len | .cap | .copy | .min | .max => true
    | _ => false
  | .call _ | .go _ | .defer _ | .send _ _ | .recv _ _ _ | .select _ _ => false
  | _ => true

/-- It hands back a value. -/
def vOp : Op → Bool
  | .nilCheck _ => true
  | .slice .. => true
  | .extract _ _ | .move _ | .assign _ | .binOp _ _ _ _ _ | .convert _ _ _ | .field _ _ _ | .fieldAddr _ _ _ | .indexAddr _ _ _ | .index _ _ _ | .build _ _ | .load _ _ => true
  | _ => false
/-- A value, nothing, or a halt. -/
def Valued : Result Next → Prop
  | .ok (.value _) _ => True
  | .ok .skip _ => True
  | .ok _ _ => False
  | .halt _ _ => True
section
variable {P : Program}
theorem valued_v (s : Sem Value) (w : World) : Valued ((s >>= fun x => pure (Next.value x) : Sem Next).run P w) := by
  rw [Sem.run_bind]; cases s.run P w <;> exact trivial
theorem noSkip_v (s : Sem Value) (w w' : World) : (s >>= fun x => pure (Next.value x) : Sem Next).run P w ≠ .ok .skip w' := by
  rw [Sem.run_bind]; cases s.run P w <;> simp [Result.andThen]
def HV (r : Result Next) : Prop := (∃ h w', r = .halt h w') ∨ ∃ v w', r = .ok (.value v) w'
theorem hv_bind {α : Type} (s : Sem α) (k : α → Sem Next) (hk : ∀ v w, HV ((k v).run P w)) (w : World) : HV ((s >>= k).run P w) := by
  rw [Sem.run_bind]
  cases s.run P w with
  | ok a w' => exact hk a w'
  | halt h w' => exact .inl ⟨h, w', rfl⟩
theorem hv_pure (v : Value) (w : World) : HV ((pure (Next.value v) : Sem Next).run P w) := .inr ⟨v, w, rfl⟩
theorem nil_cases (ρ : Operand → Value) (dst : Option Tmp) (x : Operand) (ty : TypeId) (pos : String) (after : Array Edge) (guard : Option (Nat × Bool)) (w : World) :
    HV ((execOp ρ ⟨dst, .nilCheck x, ty, pos, after, guard⟩).run P w) := by
  unfold execOp
  dsimp only
  split
  · exact .inl ⟨_, _, rfl⟩
  · exact .inl ⟨_, _, rfl⟩
  · exact .inl ⟨_, _, rfl⟩
  · split
    · exact .inl ⟨_, _, rfl⟩
    · refine hv_bind _ _ (fun p w => ?_) w
      refine hv_bind _ _ (fun b w => ?_) w
      split
      · exact hv_bind _ _ (fun _ w => hv_pure _ w) w
      · exact hv_pure _ w
    · exact hv_pure _ w
  · exact hv_pure _ w
theorem noSkip {o : Oper} (h : vOp o.op = true) (ρ : Operand → Value) (w w' : World) : (execOp ρ o).run P w ≠ .ok .skip w' := by
  obtain ⟨dst, op, ty, pos, after, guard⟩ := o
  cases op
  case nilCheck x =>
    intro e
    rcases nil_cases (P := P) ρ dst x ty pos after guard w with ⟨_, _, h1⟩ | ⟨_, _, h1⟩ <;> rw [h1] at e <;> cases e
  all_goals first | (simp [vOp] at h; done) | exact noSkip_v _ _ _ | (intro e; cases e)
theorem valued_u (s : Sem Unit) (w : World) : Valued ((s >>= fun _ => pure Next.skip : Sem Next).run P w) := by
  rw [Sem.run_bind]; cases s.run P w <;> exact trivial
theorem valued_b (s : Sem Bool) (x y : Value) (w : World) : Valued ((s >>= fun b => pure (Next.value (if b = true then x else y)) : Sem Next).run P w) := by
  rw [Sem.run_bind]; cases s.run P w <;> exact trivial
theorem plain_valued {o : Oper} (h : plainOp o.op = true) (ρ : Operand → Value) (w : World) : Valued ((execOp ρ o).run P w) := by
  obtain ⟨dst, op, ty, pos, after, guard⟩ := o
  cases op
  case call c =>
    obtain ⟨callee, args, ats⟩ := c
    cases callee with
    | builtin b => cases b <;> first | exact valued_v _ _ | (simp [plainOp] at h)
    | value f => simp [plainOp] at h
    | invoke r m => simp [plainOp] at h
  case pick c a b => exact valued_b _ _ _ _
  case nilCheck x => rcases nil_cases (P := P) ρ dst x ty pos after guard w with ⟨_, _, h1⟩ | ⟨_, _, h1⟩ <;> rw [h1] <;> trivial
  all_goals first | exact valued_v _ _ | exact valued_u _ _ | exact trivial | (simp [plainOp] at h; done)
end

section
variable (P : Program) (ops : Array Oper) (R : Nat → Array Value → World → Value → World → Prop)
def Gives (o : Oper) (a : Act) (w : World) (v : Value) (w' : World) : Prop :=
  (execOp a.eval o).run P w = .ok (.value v) w' ∨ ((execOp a.eval o).run P w = .ok .skip w' ∧ v = undef)
def argsOf (o : Oper) (a : Act) : Array Value := o.op.operands.map a.eval
def Out (k : Nat) (o : Oper) (a : Act) (w : World) (v : Value) (w' : World) : Prop :=
  if Region.wanted o (yielded ops a.tmps) = true then (if plainOp o.op = true then Gives P o a w v w' else R k (argsOf o a) w v w') else v = undef ∧ w' = w
def specUpon (R' : Value → World → Prop) : Result Next → Prop
  | .ok (.value v) w' => R' v w'
  | .ok .skip w' => R' undef w'
  | .ok (.enter f args) w' => Calls P f args w' fun e w'' => ∃ v, e = .returned v ∧ R' v w''
  | _ => False
@[go_sem] theorem specUpon_value (R' : Value → World → Prop) (v : Value) (w : World) : specUpon P R' (.ok (.value v) w) = R' v w := rfl
@[go_sem] theorem specUpon_enter (R' : Value → World → Prop) (f : FuncId) (args : Array Value) (w : World) : specUpon P R' (.ok (.enter f args) w) = Calls P f args w fun e w'' => ∃ v, e = .returned v ∧ R' v w'' := rfl
/-- The callee's contract. -/
def callSpec (o : Oper) (a : Act) (w : World) (R' : Value → World → Prop) : Prop := specUpon P R' ((execOp a.eval o).run P w)
def stepG (k : Nat) (o : Oper) (a : Act) (w : World) (K : Act → World → Prop) : Prop :=
  if Region.wanted o (yielded ops a.tmps) = true then
    (if plainOp o.op = true then o.wp P a w K (fun _ _ _ => False)
     else callSpec P o a w (R k (argsOf o a) w) ∧ ∀ v w', R k (argsOf o a) w v w' → K (a.put o.dst v) w')
  else K (a.put o.dst undef) w
end

section
variable {P : Program} {ops : Array Oper} {R : Nat → Array Value → World → Value → World → Prop} {o : Oper} {a c : Act} {w w' : World} {v : Value} {K : Act → World → Prop} {k : Nat}

theorem wp_gives (hp : plainOp o.op = true) (h : o.wp P a w K (fun _ _ _ => False)) : ∃ v w', Gives P o a w v w' ∧ K (a.put o.dst v) w' := by
  have hv := plain_valued (P := P) hp a.eval w
  unfold Oper.wp at h
  unfold Gives
  generalize (execOp a.eval o).run P w = r at *
  cases r with
  | ok n w' => cases n <;> first | exact hv.elim | exact ⟨_, _, .inl rfl, h⟩ | exact ⟨_, _, .inr ⟨rfl, rfl⟩, h⟩
  | halt x w' => cases x <;> exact h.elim
theorem gives_wp {Q : Exit → Act → World → Prop} (hg : Gives P o a w v w') (h : K (a.put o.dst v) w') : o.wp P a w K Q := by
  unfold Oper.wp
  rcases hg with hg | ⟨hg, rfl⟩ <;> rw [hg] <;> exact h
theorem Gives.uniq {v2 : Value} {w2 : World} (h : Gives P o a w v w') (h2 : Gives P o a w v2 w2) : v = v2 ∧ w' = w2 := by
  rcases h with h | ⟨h, rfl⟩ <;> rcases h2 with h2 | ⟨h2, rfl⟩ <;> rw [h] at h2 <;> cases h2 <;> exact ⟨rfl, rfl⟩
theorem callSpec.ex {R' : Value → World → Prop} (h : callSpec P o a w R') : ∃ v w', R' v w' := by
  unfold callSpec at h
  generalize (execOp a.eval o).run P w = r at *
  cases r with
  | ok n w' =>
    cases n <;> first | exact ⟨_, _, h⟩ | exact (h : False).elim | skip
    case enter f args =>
      obtain ⟨e, w2, _, ⟨v, _, hr⟩, _⟩ := (show Calls P f args w' _ from h) []
      exact ⟨v, w2, hr⟩
  | halt x w' => exact (h : False).elim
theorem stepG.ex (h : stepG P ops R k o a w K) : ∃ v w', Out P ops R k o a w v w' ∧ K (a.put o.dst v) w' := by
  unfold stepG at h
  unfold Out
  split at h
  · rename_i hw
    simp only [hw, if_true]
    split at h
    · rename_i hp; simp only [hp, if_true]; exact wp_gives hp h
    · rename_i hp
      obtain ⟨v, w', hr⟩ := h.1.ex
      exact ⟨v, w', by simp only [hp]; exact hr, h.2 _ _ hr⟩
  · rename_i hw
    exact ⟨undef, w, by simp [hw], h⟩
theorem stepG.use (h : stepG P ops R k o a w K) (ho : Out P ops R k o a w v w') : K (a.put o.dst v) w' := by
  unfold stepG at h
  unfold Out at ho
  split at h
  · rename_i hw
    simp only [hw, if_true] at ho
    split at h
    · rename_i hp
      simp only [hp, if_true] at ho
      obtain ⟨v2, w2, hg, hk⟩ := wp_gives hp h
      obtain ⟨rfl, rfl⟩ := hg.uniq ho
      exact hk
    · rename_i hp
      simp only [hp] at ho
      exact h.2 _ _ ho
  · rename_i hw
    simp only [hw] at ho
    obtain ⟨rfl, rfl⟩ := ho
    exact h

/-- Two frames hold the same in the slots of L. -/
def Agree (L : List Tmp) (a c : Act) : Prop := ∀ d ∈ L, a.tmps[d]? = c.tmps[d]?
theorem Agree.symm {L : List Tmp} (h : Agree L a c) : Agree L c a := fun d hd => (h d hd).symm
theorem Agree.trans {L : List Tmp} {b : Act} (h : Agree L a b) (h' : Agree L b c) : Agree L a c := fun d hd => (h d hd).trans (h' d hd)
theorem Agree.both {L : List Tmp} (h : Agree L a c) (x : Option Tmp) (v : Value) : Agree L (a.put x v) (c.put x v) := by
  intro d hd
  cases x with
  | none => exact h d hd
  | some y =>
    have := h d hd
    by_cases e : y = d
    · subst e
      by_cases h1 : y < a.tmps.size
      · have h2 : y < c.tmps.size := by
          rcases Nat.lt_or_ge y c.tmps.size with h2 | h2
          · exact h2
          · rw [Array.getElem?_eq_none h2, Array.getElem?_eq_getElem h1] at this; cases this
        simp [Act.put, h1, h2]
      · have h2 : ¬ y < c.tmps.size := by
          intro h2
          have h3 := Array.getElem?_eq_none (Nat.not_lt.1 h1); rw [h3, Array.getElem?_eq_getElem h2] at this; cases this
        simp [Act.put, h1, h2]
    · simpa [Act.put, Array.getElem?_setIfInBounds_ne e] using this
theorem Agree.left {L : List Tmp} (h : Agree L a c) {x : Option Tmp} (v : Value) (hx : ∀ d, x = some d → d ∉ L) : Agree L (a.put x v) c := by
  intro d hd
  cases x with
  | none => exact h d hd
  | some y =>
    have e : y ≠ d := fun e => hx y rfl (e ▸ hd)
    simpa [Act.put, Array.getElem?_setIfInBounds_ne e] using h d hd
theorem Agree.refl (L : List Tmp) (a : Act) : Agree L a a := fun _ _ => rfl

theorem Agree.eval (h : Agree (o.looksAt ops) a c) : ∀ x ∈ o.op.operands, a.eval x = c.eval x := by
  intro x hx
  cases x with
  | tmp t =>
    have := h t (List.mem_append_left _ (List.mem_filterMap.2 ⟨.tmp t, by simpa using hx, rfl⟩))
    simp [Act.eval, this]
  | _ => rfl
theorem Agree.exec (hs : ∀ cs b, o.op ≠ .select cs b) (h : Agree (o.looksAt ops) a c) : execOp a.eval o = execOp c.eval o := execOp_congr o hs h.eval
theorem Agree.args (h : Agree (o.looksAt ops) a c) : argsOf o a = argsOf o c := Array.map_congr_left fun x hx => h.eval x hx
theorem Agree.wanted (h : Agree (o.looksAt ops) a c) : Region.wanted o (yielded ops a.tmps) = Region.wanted o (yielded ops c.tmps) := by
  unfold Region.wanted
  cases hg : o.guard with
  | none => rfl
  | some gw =>
    obtain ⟨g, b⟩ := gw
    have : yielded ops a.tmps g = yielded ops c.tmps g := by
      unfold yielded
      cases hd : (ops[g]?).bind (·.dst) with
      | none => rfl
      | some d =>
        have := h d (List.mem_append_right _ (by simp [hg, hd]))
        simp [this]
    simp [this]
theorem Out.agree (hs : ∀ cs b, o.op ≠ .select cs b) (h : Agree (o.looksAt ops) a c) (ho : Out P ops R k o a w v w') : Out P ops R k o c w v w' := by
  unfold Out Gives at *
  rw [← h.wanted, ← h.args, ← h.exec hs]
  exact ho
/-- The operation at a frame that agrees with the tree's. -/
theorem stepG.wpOp {Q : Exit → Act → World → Prop} {i : Nat} (hi : ops[i]? = some o) (hs : ∀ cs b, o.op ≠ .select cs b) (h : stepG P ops R k o c w K) (hg : Agree (o.looksAt ops) c a) :
    wpOp P ops Q i (fun a' w' => ∃ v, a' = a.put o.dst v ∧ Out P ops R k o a w v w') a w := by
  unfold Go.wpOp
  simp only [hi]
  unfold stepG at h
  rw [hg.wanted] at h
  split
  · rename_i hw
    rw [if_pos hw] at h
    refine .inl ?_
    split at h
    · rename_i hp
      obtain ⟨v, w', hgv, _⟩ := wp_gives hp h
      have hgv' : Gives P o a w v w' := by unfold Gives at *; rw [← hg.exec hs]; exact hgv
      exact gives_wp hgv' ⟨v, rfl, by unfold Out; rw [if_pos hw, if_pos hp]; exact hgv'⟩
    · rename_i hp
      have hc := h.1
      have hO : ∀ v w', R k (argsOf o a) w v w' → Out P ops R k o a w v w' := fun v w' hr => by unfold Out; rw [if_pos hw, if_neg hp]; exact hr
      unfold callSpec at hc
      rw [hg.exec hs, hg.args] at hc
      unfold Oper.wp
      generalize (execOp a.eval o).run P w = r at *
      cases r with
      | ok m w' =>
        cases m
        case value v => exact ⟨v, rfl, hO _ _ hc⟩
        case skip => exact ⟨undef, rfl, hO _ _ hc⟩
        case enter f args => exact Calls.mono hc fun e w'' ⟨v, he, hr⟩ => by subst he; exact ⟨v, rfl, hO _ _ hr⟩
        all_goals exact (hc : False).elim
      | halt x w' => exact (hc : False).elim
  · rename_i hw
    exact ⟨undef, rfl, by unfold Out; rw [if_neg hw]; exact ⟨rfl, rfl⟩⟩
end

/-! ### The tree -/
section
variable (P : Program) (ops : Array Oper) (n : Nat) (Z : Array Bool) (M : World → World → Prop) (R : Nat → Array Value → World → Value → World → Prop) (w0 : World) (Qt : Act → World → Prop)
def tree : Nat → List Oper → Act → List World → List World → Prop
  | _, [], a, E, S => ∀ w, M w0 w → (∀ j, j < n → M (E.getD j w0) w) → (∀ i j, i < n → j < n → i ≠ j → M (E.getD i w0) (S.getD j w0) ∨ M (E.getD j w0) (S.getD i w0)) → Qt a w
  | k, o :: rest, a, E, S =>
    (∃ v, (∀ w, stepG P ops R k o a w fun a' w' => a' = a.put o.dst v ∧ w' = w) ∧ (Z.getD k false = true → Yields P ops o v a) ∧ tree (k + 1) rest (a.put o.dst v) (E ++ [w0]) (S ++ [w0])) ∨
    (Z.getD k false = false ∧ ∀ w, M w0 w → (∀ j, j < k → waitsB ops 8 k j = true → M (E.getD j w0) w) → stepG P ops R k o a w fun a' w' => M w w' ∧ tree (k + 1) rest a' (E ++ [w']) (S ++ [w]))
end

/-! ### What has been done -/
structure Rec where
  (v : Value) (s t : World)
def dstOf (ops : Array Oper) (k : Nat) : Option Tmp := (ops[k]?).bind (·.dst)
def actN (ops : Array Oper) (a0 : Act) (h : Nat → Option Value) : Nat → Act
  | 0 => a0
  | k + 1 => match h k with
    | some v => (actN ops a0 h k).put (dstOf ops k) v
    | none => actN ops a0 h k
section
variable {ops : Array Oper} {a0 : Act} {h h' : Nat → Option Value}
theorem actN_congr : ∀ k, (∀ j, j < k → h j = h' j) → actN ops a0 h k = actN ops a0 h' k
  | 0, _ => rfl
  | k + 1, hh => by
    have ih := actN_congr k fun j hj => hh j (by omega)
    simp only [actN, hh k (by omega), ih]
theorem actN_agree (L : List Tmp) : ∀ k, (∀ j, j < k → h j = h' j ∨ ∀ d, dstOf ops j = some d → d ∉ L) → Agree L (actN ops a0 h k) (actN ops a0 h' k)
  | 0, _ => Agree.refl _ _
  | k + 1, hh => by
    have ih := actN_agree L k fun j hj => hh j (by omega)
    simp only [actN]
    rcases hh k (by omega) with e | e
    · rw [e]; cases h' k with
      | none => exact ih
      | some v => exact ih.both _ _
    · cases h k <;> cases h' k
      · exact ih
      · exact (ih.symm.left _ e).symm
      · exact ih.left _ e
      · exact ((ih.left _ e).symm.left _ e).symm
def upd (h : Nat → Option Value) (i : Nat) (v : Value) : Nat → Option Value := fun j => if j = i then some v else h j
theorem actN_set {i : Nat} {v : Value} (hn : h i = none) : ∀ k, i < k → (∀ j, i < j → j < k → h j ≠ none → ∀ d, dstOf ops i = some d → dstOf ops j ≠ some d) →
    actN ops a0 (upd h i v) k = (actN ops a0 h k).put (dstOf ops i) v
  | 0, hi, _ => by omega
  | k + 1, hi, hh => by
    by_cases e : k = i
    · subst e
      have : actN ops a0 (upd h k v) k = actN ops a0 h k := actN_congr k fun j hj => by simp [upd, show j ≠ k by omega]
      simp only [actN, hn, this]
      simp [upd]
    · have ih := actN_set (v := v) hn k (by omega) fun j hj hk => hh j hj (by omega)
      have hu : upd h i v k = h k := by simp [upd, e]
      simp only [actN, hu, ih]
      cases hk : h k with
      | none => rfl
      | some u => exact Act.put_comm _ _ _ fun d hd => hh k (by omega) (by omega) (by simp [hk]) d hd
theorem actN_stop {k : Nat} (hs : ∀ j, k ≤ j → h j = none) : ∀ n, k ≤ n → actN ops a0 h n = actN ops a0 h k
  | 0, hk => by have : k = 0 := by omega
                subst this; rfl
  | n + 1, hk => by
    by_cases e : k = n + 1
    · subst e; rfl
    · simp only [actN, hs n (by omega)]
      exact actN_stop hs n (by omega)
end

def depB (ops : Array Oper) (j i : Nat) : Bool := match ops[j]? with
  | none => false
  | some o => o.after.any fun e => Region.binds .any e && e.on == i
/-- Edges go back; each operation from n on that has not come up ahead of the others (Y) waits for all before it but for those of Z and Y. -/
def okY (ops : Array Oper) (n : Nat) (Z Y : Array Bool) : Bool :=
  (List.range ops.size).all fun j => match ops[j]? with
    | none => true
    | some o => (o.after.all fun e => !Region.binds .any e || decide (e.on < j)) &&
        (decide (j < n) || Y.getD j false || (List.range j).all fun i => (decide (i < n) && Z.getD i false) || Y.getD i false || (waitsB ops 4 j i || waitsB ops 20 j i))
section
variable {P : Program} {ops : Array Oper} {n : Nat} {Z Y : Array Bool} {Q : Exit → Act → World → Prop}
theorem backY (h : okY ops n Z Y = true) {j : Nat} {o : Oper} (hj : ops[j]? = some o) : ∀ e ∈ o.after, Region.binds .any e = true → e.on < j := by
  intro e he hb
  have h1 := List.all_eq_true.1 h j (List.mem_range.2 (Array.getElem?_eq_some_iff.1 hj).1)
  simp only [hj, Bool.and_eq_true] at h1
  have h2 := Array.all_eq_true_iff_forall_mem.1 h1.1 e he
  simpa [hb] using h2
theorem waitsY (h : okY ops n Z Y = true) {listed : Array Bool} (hc : Closed ops listed) {j : Nat} {o : Oper} (hj : ops[j]? = some o) (hn : n ≤ j) (hY : Y.getD j false = false) {i : Nat} (hi : i < j) (hp : i < n → Z.getD i false = false) (hYi : Y.getD i false = false)
    (hd : ∀ e ∈ o.after, Region.binds .any e = true → listed.getD e.on false = true) : listed.getD i false = true := by
  have h1 := List.all_eq_true.1 h j (List.mem_range.2 (Array.getElem?_eq_some_iff.1 hj).1)
  simp only [hj, Bool.and_eq_true, Bool.or_eq_true, decide_eq_true_eq, hY, Bool.false_eq_true, or_false] at h1
  rcases h1.2 with h2 | h2
  · omega
  · have h3 := List.all_eq_true.1 h2 i (List.mem_range.2 hi)
    simp only [Bool.and_eq_true, Bool.or_eq_true, decide_eq_true_eq, hYi, Bool.false_eq_true, or_false] at h3
    rcases h3 with ⟨h4, h5⟩ | h4
    · rw [hp h4] at h5; cases h5
    · rcases h4 with h4 | h4
      · exact reach hc 4 j i o hj hd h4
      · exact reach hc 20 j i o hj hd h4
/-- What follows: the operations from k on that have not come up ahead. -/
def tailL (Y : Array Bool) : Nat → List Oper → List Oper
  | _, [] => []
  | k, o :: l => if Y.getD k false = true then tailL Y (k + 1) l else o :: tailL Y (k + 1) l
def UptoY (Y listed : Array Bool) (N m : Nat) : Prop := listed.size = N ∧ ∀ i, i < N → listed.getD i true = (decide (i < m) || Y.getD i false)
theorem UptoY.getF {listed : Array Bool} {N m : Nat} (h : UptoY Y listed N m) {i : Nat} (hi : i < N) : listed.getD i false = (decide (i < m) || Y.getD i false) := by
  rw [← h.2 i hi]
  have : i < listed.size := by rw [h.1]; exact hi
  simp [this]
theorem tail_anyY (hok : okY ops n Z Y = true) : ∀ (k m : Nat) (listed : Array Bool) (a : Act) (w : World) (fuel : Nat), n ≤ m → m + k = ops.size → (tailL Y m (ops.toList.drop m)).length ≤ fuel → UptoY Y listed ops.size m → Closed ops listed →
    wpList P ops Q (tailL Y m (ops.toList.drop m)) a w → wpAny P .any ops Q fuel listed a w := by
  intro k
  induction k with
  | zero =>
    intro m listed a w fuel hn hm hf hu hcl h
    have hr : Region.ready .any ops listed = [] := by
      rw [List.eq_nil_iff_forall_not_mem]
      intro i hi
      rw [mem_ready] at hi
      obtain ⟨h0, o, ho, _⟩ := hi
      have hi' := (Array.getElem?_eq_some_iff.1 ho).1
      rw [hu.2 i hi'] at h0
      simp at h0; omega
    have hd : ops.toList.drop m = [] := List.drop_eq_nil_of_le (by simp; omega)
    rw [hd] at h
    cases fuel with
    | zero => exact ⟨hr, h⟩
    | succ f => exact ⟨fun _ => h, by rw [hr]; simp⟩
  | succ k ih =>
    intro m listed a w fuel hn hm hf hu hcl h
    have hlt : m < ops.size := by omega
    have ho : ops[m]? = some ops[m] := Array.getElem?_eq_getElem hlt
    have hd : ops.toList.drop m = ops[m] :: ops.toList.drop (m + 1) := by
      rw [List.drop_eq_getElem_cons (by simpa using hlt)]; simp
    rw [hd] at h hf
    by_cases hY : Y.getD m false = true
    · have e : tailL Y m (ops[m] :: ops.toList.drop (m + 1)) = tailL Y (m + 1) (ops.toList.drop (m + 1)) := by simp only [tailL, hY, if_true]
      rw [e] at h hf
      refine ih (m + 1) listed a w fuel (by omega) (by omega) hf ⟨hu.1, fun i hi => ?_⟩ hcl h
      rw [hu.2 i hi]
      by_cases e : i = m
      · subst e; simp [hY]
      · congr 1; simp; omega
    · have hY' : Y.getD m false = false := by simpa using hY
      have e : tailL Y m (ops[m] :: ops.toList.drop (m + 1)) = ops[m] :: tailL Y (m + 1) (ops.toList.drop (m + 1)) := by simp [tailL, hY']
      rw [e] at h hf
      have hin : m ∈ Region.ready .any ops listed := by
        rw [mem_ready]
        refine ⟨by rw [hu.2 m hlt, hY']; simp, _, ho, fun e he hb => ?_⟩
        have := backY hok ho e he hb
        rw [hu.getF (by omega)]; simp [this]
      have hall : ∀ i ∈ Region.ready .any ops listed, i = m := by
        intro i hi
        rw [mem_ready] at hi
        obtain ⟨h0, o, hoi, hdep⟩ := hi
        have hi' := (Array.getElem?_eq_some_iff.1 hoi).1
        rw [hu.2 i hi'] at h0
        simp only [Bool.or_eq_false_iff, decide_eq_false_iff_not] at h0
        by_cases e : i = m
        · exact e
        · exfalso
          have := waitsY hok hcl hoi (by omega) h0.2 (show m < i by omega) (fun h => by omega) hY' hdep
          rw [hu.getF hlt, hY'] at this
          simp at this
      cases fuel with
      | zero => simp at hf
      | succ f =>
        refine ⟨fun h0 => (by rw [h0] at hin; cases hin), fun i hi => ?_⟩
        rw [hall i hi]
        have h' : wpOp P ops Q m (wpList P ops Q (tailL Y (m + 1) (ops.toList.drop (m + 1)))) a w := by
          unfold wpOp; simp only [ho]; exact h
        refine wpOp_mono (fun a' w' hk => ih (m + 1) _ a' w' f (by omega) (by omega) (by simpa using hf) ⟨by simp [hu.1], fun i hi => ?_⟩ (hcl.next' hin) hk) h'
        by_cases e : m = i
        · subst e
          have : m < listed.size := by rw [hu.1]; exact hi
          simp [this]
        · rw [getD_set_ne true e, hu.2 i hi]
          congr 1; simp; omega
end
/-- The region's shape. -/
def rgB (ops : Array Oper) (n : Nat) (Z Y : Array Bool) : Bool :=
  decide (n ≤ ops.size) && (okY ops n Z Y && (List.range n).all fun j => !Y.getD j false) && Region.noSelect ops &&
  ((List.range n).all fun z => !Z.getD z false || ((match ops[z]? with | some oz => vOp oz.op | none => true) && (List.range ops.size).all fun j => j == z || depB ops j z || depB ops z j || match ops[z]?, ops[j]? with
    | some oz, some oj => oz.apart ops oj
    | _, _ => true)) &&
  ((List.range n).all fun i => (List.range n).all fun j => j == i || depB ops i j || depB ops j i || match ops[i]?, dstOf ops j with
    | some o, some d => !(o.looksAt ops).contains d
    | _, _ => true) &&
  ((List.range n).all fun i => (List.range n).all fun j => !decide (i < j) || depB ops j i || match dstOf ops i with
    | some d => dstOf ops j != some d
    | none => true)
structure Shape (ops : Array Oper) (n : Nat) (Z Y : Array Bool) : Prop where
  le : n ≤ ops.size
  ok : okY ops n Z Y = true
  head : ∀ j, j < n → Y.getD j false = false
  sel : Region.noSelect ops = true
  vop : ∀ z oz, z < n → Z.getD z false = true → ops[z]? = some oz → vOp oz.op = true
  lone : ∀ z j oz oj, z < n → Z.getD z false = true → ops[z]? = some oz → ops[j]? = some oj → j ≠ z → depB ops j z = false → depB ops z j = false → oz.apart ops oj = true
  reads : ∀ i j, i < n → j < n → j ≠ i → depB ops i j = false → depB ops j i = false → ∀ o d, ops[i]? = some o → dstOf ops j = some d → d ∉ o.looksAt ops
  writes : ∀ i j, i < j → j < n → depB ops j i = false → ∀ d, dstOf ops i = some d → dstOf ops j ≠ some d
theorem shape_of {ops : Array Oper} {n : Nat} {Z Y : Array Bool} (h : rgB ops n Z Y = true) : Shape ops n Z Y := by
  simp only [rgB, Bool.and_eq_true, decide_eq_true_eq] at h
  obtain ⟨⟨⟨⟨⟨h1, h2, h7⟩, h3⟩, h6⟩, h4⟩, h5⟩ := h
  refine ⟨h1, h2, fun j hj => by simpa using List.all_eq_true.1 h7 j (List.mem_range.2 hj), h3, fun z oz hz hZ ho => ?_, fun z j oz oj hz hZ ho hoj hne hd hdz => ?_, fun i j hi hj hne hd1 hd2 o d ho hd => ?_, fun i j hij hj hd0 d hd => ?_⟩
  · have := List.all_eq_true.1 h6 z (List.mem_range.2 hz)
    simp only [hZ, ho, Bool.not_true, Bool.false_or, Bool.and_eq_true] at this
    exact this.1
  · have := List.all_eq_true.1 h6 z (List.mem_range.2 hz)
    simp only [hZ, ho, Bool.not_true, Bool.false_or, Bool.and_eq_true] at this
    have := List.all_eq_true.1 this.2 j (List.mem_range.2 (Array.getElem?_eq_some_iff.1 hoj).1)
    simpa [hne, hd, hdz, hoj] using this
  · have := List.all_eq_true.1 (List.all_eq_true.1 h4 i (List.mem_range.2 hi)) j (List.mem_range.2 hj)
    simpa [hne, hd1, hd2, ho, hd] using this
  · have := List.all_eq_true.1 (List.all_eq_true.1 h5 i (List.mem_range.2 (by omega))) j (List.mem_range.2 hj)
    simpa [hij, hd0, hd] using this
theorem dep_lt {ops : Array Oper} {n : Nat} {Z Y : Array Bool} (hS : Shape ops n Z Y) {j i : Nat} (h : depB ops j i = true) : i < j := by
  unfold depB at h
  cases ho : ops[j]? with
  | none => simp [ho] at h
  | some o =>
    simp only [ho] at h
    obtain ⟨e, he, hb⟩ := Array.any_eq_true'.1 h
    simp only [Bool.and_eq_true, beq_iff_eq] at hb
    rw [← hb.2]
    exact backY hS.ok ho e he hb.1
theorem dep_waits {ops : Array Oper} {j i : Nat} (h : depB ops j i = true) : waitsB ops 8 j i = true := by
  unfold depB at h
  cases ho : ops[j]? with
  | none => simp [ho] at h
  | some o =>
    simp only [ho] at h
    obtain ⟨e, he, hb⟩ := Array.any_eq_true'.1 h
    simp only [Bool.and_eq_true, beq_iff_eq] at hb
    simp only [waitsB, ho]
    exact Array.any_eq_true'.2 ⟨e, he, by simp [hb.1, hb.2]⟩

section
variable {P : Program} {ops : Array Oper} {n : Nat} {Z Y : Array Bool} {M : World → World → Prop} {R : Nat → Array Value → World → Value → World → Prop} {w0 : World} {Q : Exit → Act → World → Prop} {a0 : Act}
def val (h : Nat → Option Rec) : Nat → Option Value := fun j => (h j).map (·.v)
def deps (ops : Array Oper) (h : Nat → Option Rec) (j : Nat) : Nat → Option Value := fun i => if depB ops j i = true then val h i else none

variable (P ops n Y M R w0 a0) in
structure Inv (lf : Array Bool) (a : Act) (w : World) (h : Nat → Option Rec) : Prop where
  size : lf.size = ops.size
  listed : ∀ j, j < n → lf.getD j true = (h j).isSome
  high : ∀ j, n ≤ j → j < ops.size → lf.getD j true = Y.getD j false
  closed : Closed ops lf
  out : ∀ j, n ≤ j → h j = none
  act : a = actN ops a0 (val h) n
  now : M w0 w
  begun : ∀ j r, h j = some r → M w0 r.s ∧ M r.t w
  waits : ∀ j r, h j = some r → ∀ i, i < j → waitsB ops 8 j i = true → ∃ ri, h i = some ri ∧ M ri.t r.s
  gave : ∀ j r, h j = some r → ∀ o, ops[j]? = some o → ∀ c, Agree (o.looksAt ops) c (actN ops a0 (deps ops h j) n) → Out P ops R j o c r.s r.v r.t
  chain : ∀ i j ri rj, h i = some ri → h j = some rj → i ≠ j → M ri.t rj.s ∨ M rj.t ri.s

variable {lf : Array Bool} {a : Act} {w : World} {h : Nat → Option Rec}

theorem getT {N i : Nat} (hs : lf.size = N) (hi : i < N) : lf.getD i false = lf.getD i true := getF_of hs hi

/-- What an operation looks at, at its place in the text. -/
theorem agree_text (hS : Shape ops n Z Y) {r : Nat → Option Value} {k : Nat} (hk : k < n) {o : Oper} (ho : ops[k]? = some o) (hr : ∀ j, k ≤ j → r j = none)
    (hd : ∀ j, depB ops k j = true → r j = val h j) : Agree (o.looksAt ops) (actN ops a0 r n) (actN ops a0 (deps ops h k) n) := by
  refine actN_agree _ n fun j hj => ?_
  unfold deps
  by_cases e : depB ops k j = true
  · rw [if_pos e]; exact .inl (hd j e)
  · rw [if_neg e]
    by_cases hkj : k ≤ j
    · exact .inl (hr j hkj)
    · refine .inr fun d hd' => hS.reads k j hk hj (by omega) (by simpa using e) ?_ o d ho hd'
      cases h1 : depB ops j k with
      | false => rfl
      | true => have := dep_lt hS h1; omega
/-- What an operation that may come up looks at, as things stand. -/
theorem agree_now (hS : Shape ops n Z Y) (I : Inv P ops n Y M R w0 a0 lf a w h) {k : Nat} (hk : k < n) (hn : h k = none) {o : Oper} (ho : ops[k]? = some o) :
    Agree (o.looksAt ops) a (actN ops a0 (deps ops h k) n) := by
  rw [I.act]
  refine actN_agree _ n fun j hj => ?_
  unfold deps
  by_cases e : depB ops k j = true
  · rw [if_pos e]; exact .inl rfl
  · rw [if_neg e]
    cases hj2 : h j with
    | none => exact .inl (by simp [val, hj2])
    | some r =>
      refine .inr fun d hd' => hS.reads k j hk hj (fun e => by subst e; rw [hn] at hj2; cases hj2) (by simpa using e) ?_ o d ho hd'
      cases h1 : depB ops j k with
      | false => rfl
      | true =>
        obtain ⟨ri, h2, _⟩ := I.waits j r hj2 k (dep_lt hS h1) (dep_waits h1)
        rw [hn] at h2; cases h2

theorem getD_snoc_lt {α : Type} {l : List α} {j : Nat} {x d : α} (h : j < l.length) : (l ++ [x]).getD j d = l.getD j d := by simp [List.getD_eq_getElem?_getD, List.getElem?_append_left h]
theorem getD_snoc_eq {α : Type} {l : List α} {j : Nat} {x d : α} (h : j = l.length) : (l ++ [x]).getD j d = x := by subst h; simp [List.getD_eq_getElem?_getD]

/-- The tree, followed along what has been done; what has not been done yet is tried in worlds of the mind. -/
theorem replay (hS : Shape ops n Z Y) (hrefl : ∀ w, M w w) (htr : ∀ a b c, M a b → M b c → M a c) {Qt : Act → World → Prop}
    (hT : tree P ops n Z M R w0 Qt 0 (ops.toList.take n) a0 [] []) (I : Inv P ops n Y M R w0 a0 lf a w h) : ∀ k, k ≤ n → 
    ∃ (r : Nat → Option Value) (E S : List World) (z : World), E.length = k ∧ S.length = k ∧ (∀ j, k ≤ j → r j = none) ∧ (∀ j, j < k → (r j).isSome) ∧
      (∀ j rec, j < k → h j = some rec → r j = some rec.v ∧ ((E.getD j w0 = rec.t ∧ S.getD j w0 = rec.s) ∨ (E.getD j w0 = w0 ∧ S.getD j w0 = w0))) ∧
      M w z ∧ (∀ j, j < k → M (E.getD j w0) z) ∧ tree P ops n Z M R w0 Qt k ((ops.toList.take n).drop k) (actN ops a0 r n) E S := by
  intro k
  induction k with
  | zero =>
    intro _
    refine ⟨fun _ => none, [], [], w, rfl, rfl, fun _ _ => rfl, by omega, by omega, hrefl w, by omega, ?_⟩
    rw [actN_stop (k := 0) (fun _ _ => rfl) n (by omega)]
    exact hT
  | succ k ih =>
    intro hk
    obtain ⟨r, E, S, z, hE, hSl, hr1, hr2, hr3, hz, hEz, ht⟩ := ih (by omega)
    have hkn : k < n := by omega
    have hks : k < ops.size := Nat.lt_of_lt_of_le hkn hS.le
    have ho : ops[k]? = some ops[k] := Array.getElem?_eq_getElem hks
    have hsel := Region.noSelect_spec hS.sel k ops[k]
    have hdrop : (ops.toList.take n).drop k = ops[k] :: (ops.toList.take n).drop (k + 1) := by
      rw [List.drop_eq_getElem_cons (by simp; omega)]; simp
    rw [hdrop] at ht
    have hnew : ∀ v, actN ops a0 (upd r k v) n = (actN ops a0 r n).put (ops[k]).dst v := fun v => by
      rw [actN_set (hr1 k (by omega)) n hkn (fun j hj _ hne => absurd (hr1 j (by omega)) hne)]
      simp [dstOf, ho]
    have hu1 : ∀ v j, k + 1 ≤ j → upd r k v j = none := fun v j hj => by simp [upd, show j ≠ k by omega, hr1 j (by omega)]
    have hu2 : ∀ v j, j < k + 1 → (upd r k v j).isSome := fun v j hj => by
      by_cases e : j = k
      · simp [upd, e]
      · simp [upd, e, hr2 j (by omega)]
    cases hk2 : h k with
    | some rec =>
      have hb := I.begun k rec hk2
      have hout : Out P ops R k ops[k] (actN ops a0 r n) rec.s rec.v rec.t := by
        refine I.gave k rec hk2 _ ho _ (agree_text hS hkn ho hr1 fun j hj => ?_)
        obtain ⟨rj, h1, _⟩ := I.waits k rec hk2 j (dep_lt hS hj) (dep_waits hj)
        rw [(hr3 j rj (dep_lt hS hj) h1).1, val, h1]; rfl
      have hold : ∀ (x y : World) j rec', j < k + 1 → h j = some rec' → ((x = rec.t ∧ y = rec.s) ∨ (x = w0 ∧ y = w0)) → upd r k rec.v j = some rec'.v ∧
          (((E ++ [x]).getD j w0 = rec'.t ∧ (S ++ [y]).getD j w0 = rec'.s) ∨ ((E ++ [x]).getD j w0 = w0 ∧ (S ++ [y]).getD j w0 = w0)) := fun x y j rec' hj h1 hxy => by
        by_cases e : j = k
        · subst e
          rw [hk2] at h1; cases h1
          rw [getD_snoc_eq hE.symm, getD_snoc_eq hSl.symm]
          exact ⟨by simp [upd], hxy⟩
        · rw [getD_snoc_lt (by omega), getD_snoc_lt (by omega)]
          have := hr3 j rec' (by omega) h1
          simpa [upd, e] using this
      rcases ht with ⟨v, h1, _, h2⟩ | ⟨_, h1⟩
      · obtain ⟨e1, _⟩ := (h1 rec.s).use hout
        refine ⟨upd r k rec.v, E ++ [w0], S ++ [w0], z, by simp [hE], by simp [hSl], hu1 _, hu2 _, fun j rec' hj h1 => hold w0 w0 j rec' hj h1 (.inr ⟨rfl, rfl⟩), hz, ?_, ?_⟩
        · intro j hj
          by_cases e : j = k
          · rw [getD_snoc_eq (by omega)]; exact htr _ _ _ I.now hz
          · rw [getD_snoc_lt (by omega)]; exact hEz j (by omega)
        · rw [hnew, e1]; exact h2
      · have h3 := h1 rec.s hb.1 fun j hj hw => by
          obtain ⟨rj, h4, h5⟩ := I.waits k rec hk2 j hj hw
          rcases (hr3 j rj hj h4).2 with ⟨e, _⟩ | ⟨e, _⟩
          · rw [e]; exact h5
          · rw [e]; exact hb.1
        obtain ⟨_, h5⟩ := h3.use hout
        refine ⟨upd r k rec.v, E ++ [rec.t], S ++ [rec.s], z, by simp [hE], by simp [hSl], hu1 _, hu2 _, fun j rec' hj h1 => hold rec.t rec.s j rec' hj h1 (.inl ⟨rfl, rfl⟩), hz, ?_, ?_⟩
        · intro j hj
          by_cases e : j = k
          · rw [getD_snoc_eq (by omega)]; exact htr _ _ _ hb.2 hz
          · rw [getD_snoc_lt (by omega)]; exact hEz j (by omega)
        · rw [hnew]; exact h5
    | none =>
      have hold : ∀ (v : Value) (x y : World) j rec', j < k + 1 → h j = some rec' → upd r k v j = some rec'.v ∧
          (((E ++ [x]).getD j w0 = rec'.t ∧ (S ++ [y]).getD j w0 = rec'.s) ∨ ((E ++ [x]).getD j w0 = w0 ∧ (S ++ [y]).getD j w0 = w0)) := fun v x y j rec' hj h1 => by
        by_cases e : j = k
        · subst e; rw [hk2] at h1; cases h1
        · rw [getD_snoc_lt (by omega), getD_snoc_lt (by omega)]
          have := hr3 j rec' (by omega) h1
          simpa [upd, e] using this
      rcases ht with ⟨v, h1, _, h2⟩ | ⟨_, h1⟩
      · refine ⟨upd r k v, E ++ [w0], S ++ [w0], z, by simp [hE], by simp [hSl], hu1 _, hu2 _, fun j rec' hj h1 => hold v w0 w0 j rec' hj h1, hz, ?_, ?_⟩
        · intro j hj
          by_cases e : j = k
          · rw [getD_snoc_eq (by omega)]; exact htr _ _ _ I.now hz
          · rw [getD_snoc_lt (by omega)]; exact hEz j (by omega)
        · rw [hnew]; exact h2
      · have h3 := h1 z (htr _ _ _ I.now hz) fun j hj _ => hEz j hj
        obtain ⟨v, w', _, h4, h5⟩ := h3.ex
        refine ⟨upd r k v, E ++ [w'], S ++ [z], w', by simp [hE], by simp [hSl], hu1 _, hu2 _, fun j rec' hj h1 => hold v w' z j rec' hj h1, htr _ _ _ hz h4, ?_, ?_⟩
        · intro j hj
          by_cases e : j = k
          · rw [getD_snoc_eq (by omega)]; exact hrefl _
          · rw [getD_snoc_lt (by omega)]; exact htr _ _ _ (hEz j (by omega)) h4
        · rw [hnew]; exact h5

def cnt (lf : Array Bool) : Nat → Nat
  | 0 => 0
  | k + 1 => cnt lf k + if lf.getD k true = true then 0 else 1
theorem cnt_pos {i : Nat} (hi : lf.getD i true = false) : ∀ k, i < k → 1 ≤ cnt lf k
  | 0, h => by omega
  | k + 1, h => by
    simp only [cnt]
    by_cases e : k = i
    · subst e; simp [hi]
    · have := cnt_pos hi k (by omega); omega
theorem cnt_set {i : Nat} (hs : i < lf.size) (hi : lf.getD i true = false) : ∀ k, i < k → cnt (lf.setIfInBounds i true) k + 1 = cnt lf k
  | 0, h => by omega
  | k + 1, h => by
    simp only [cnt]
    by_cases e : i = k
    · subst e
      have : ∀ m, m ≤ i → cnt (lf.setIfInBounds i true) m = cnt lf m := fun m => by
        induction m with
        | zero => intro _; rfl
        | succ m ih => intro hm; simp only [cnt]; rw [ih (by omega), getD_set_ne true (by omega)]
      rw [this i (Nat.le_refl _)]
      simp [hs, hi]
    · have := cnt_set hs hi k (by omega)
      rw [getD_set_ne true e]
      omega

/-- One operation more has been done. -/
theorem Inv.step (hS : Shape ops n Z Y) (hrefl : ∀ w, M w w) (htr : ∀ a b c, M a b → M b c → M a c) (I : Inv P ops n Y M R w0 a0 lf a w h) {i : Nat} {o : Oper} {v : Value} {w' : World} (hin : i < n) (hi : i ∈ Region.ready .any ops lf) (ho : ops[i]? = some o)
    (hw8 : ∀ j, j < i → waitsB ops 8 i j = true → ∃ rj, h j = some rj) (hO : Out P ops R i o a w v w') (hM : M w w') :
    Inv P ops n Y M R w0 a0 (lf.setIfInBounds i true) (a.put o.dst v) w' (fun j => if j = i then some ⟨v, w, w'⟩ else h j) := by
  have his := (Array.getElem?_eq_some_iff.1 ho).1
  have hun := (mem_ready.1 hi).1
  have hn : h i = none := by
    have := I.listed i hin
    rw [hun] at this
    exact Option.not_isSome_iff_eq_none.1 (by rw [← this]; simp)
  have hsel : ∀ cs b, o.op ≠ .select cs b := fun cs b => Region.noSelect_spec hS.sel i o cs b ho
  have hval : val (fun j => if j = i then some ⟨v, w, w'⟩ else h j) = upd (val h) i v := by
    funext j; by_cases e : j = i <;> simp [val, upd, e]
  have hdeps : ∀ j r, h j = some r → deps ops (fun j => if j = i then some ⟨v, w, w'⟩ else h j) j = deps ops h j := fun j r hj => by
    funext m
    unfold deps
    by_cases e : depB ops j m = true
    · rw [if_pos e, if_pos e, hval]
      obtain ⟨rm, h1, _⟩ := I.waits j r hj m (dep_lt hS e) (dep_waits e)
      have : m ≠ i := fun e' => by subst e'; rw [hn] at h1; cases h1
      simp [upd, this]
    · rw [if_neg e, if_neg e]
  have hdepi : ∀ m, deps ops (fun j => if j = i then some ⟨v, w, w'⟩ else h j) i m = deps ops h i m := fun m => by
    unfold deps
    by_cases e : depB ops i m = true
    · have := dep_lt hS e
      rw [if_pos e, if_pos e, hval]; simp [upd, show m ≠ i by omega]
    · rw [if_neg e, if_neg e]
  refine ⟨by simp [I.size], fun j hj => ?_, fun j hj hjs => ?_, I.closed.next' hi, fun j hj => ?_, ?_, htr _ _ _ I.now hM, fun j r hj => ?_, fun j r hj m hm hw => ?_, fun j r hj o' ho' c hc => ?_, fun p q rp rq hp hq hne => ?_⟩
  · by_cases e : j = i
    · subst e
      have : j < lf.size := by rw [I.size]; exact his
      simp [this]
    · rw [getD_set_ne true (Ne.symm e)]; simp [e, I.listed j hj]
  · rw [getD_set_ne true (by omega)]; exact I.high j hj hjs
  · simp [show j ≠ i by omega, I.out j hj]
  · rw [hval, actN_set (by simp [val, hn]) n hin fun j hij hj hne d hd => ?_, ← I.act]
    · simp [dstOf, ho]
    · refine hS.writes i j hij hj ?_ d hd
      cases h1 : depB ops j i with
      | false => rfl
      | true =>
        cases hj2 : h j with
        | none => simp [val, hj2] at hne
        | some rj =>
          obtain ⟨ri, h2, _⟩ := I.waits j rj hj2 i hij (dep_waits h1)
          rw [hn] at h2; cases h2
  · by_cases e : j = i
    · simp only [e, if_true, Option.some.injEq] at hj; subst hj; exact ⟨I.now, hrefl _⟩
    · simp only [e, if_false] at hj
      have := I.begun j r hj
      exact ⟨this.1, htr _ _ _ this.2 hM⟩
  · by_cases e : j = i
    · subst e
      simp only [if_true, Option.some.injEq] at hj; subst hj
      obtain ⟨rm, h1⟩ := hw8 m hm hw
      exact ⟨rm, by simp [show m ≠ j by omega, h1], (I.begun m rm h1).2⟩
    · simp only [e, if_false] at hj
      obtain ⟨rm, h1, h2⟩ := I.waits j r hj m hm hw
      have : m ≠ i := fun e' => by subst e'; rw [hn] at h1; cases h1
      exact ⟨rm, by simp [this, h1], h2⟩
  · by_cases e : j = i
    · subst e
      simp only [if_true, Option.some.injEq] at hj; subst hj
      rw [ho] at ho'; cases ho'
      rw [actN_congr (h' := deps ops h j) n fun m _ => hdepi m] at hc
      exact hO.agree hsel ((hc.trans (agree_now hS I hin hn ho).symm).symm)
    · simp only [e, if_false] at hj
      rw [hdeps j r hj] at hc
      exact I.gave j r hj o' ho' c hc
  · by_cases e : p = i <;> by_cases e' : q = i
    · exact absurd (e.trans e'.symm) hne
    · simp only [e, e', if_true, if_false, Option.some.injEq] at hp hq
      subst hp
      exact .inr (I.begun q rq hq).2
    · simp only [e, e', if_true, if_false, Option.some.injEq] at hp hq
      subst hq
      exact .inl (I.begun p rp hp).2
    · simp only [e, e', if_false] at hp hq
      exact I.chain p q rp rq hp hq hne

theorem rg_any (hS : Shape ops n Z Y) (hrefl : ∀ w, M w w) (htr : ∀ a b c, M a b → M b c → M a c) (hQ : ∀ c a d v w, Q (.panic c) (Act.put a d v) w → Q (.panic c) a w)
    (hT : tree P ops n Z M R w0 (fun a w => wpList P ops Q (tailL Y n (ops.toList.drop n)) a w) 0 (ops.toList.take n) a0 [] []) :
    ∀ (fuel : Nat) (lf : Array Bool) (a : Act) (w : World) (h : Nat → Option Rec), cnt lf n + (tailL Y n (ops.toList.drop n)).length ≤ fuel → Inv P ops n Y M R w0 a0 lf a w h → wpAny P .any ops Q fuel lf a w := by
  intro fuel
  have finish : ∀ (fuel : Nat) (lf : Array Bool) (a : Act) (w : World) (h : Nat → Option Rec), (tailL Y n (ops.toList.drop n)).length ≤ fuel → Inv P ops n Y M R w0 a0 lf a w h → (∀ j, j < n → lf.getD j true = true) → wpAny P .any ops Q fuel lf a w := by
    intro fuel lf a w h hf I hall
    refine tail_anyY hS.ok (ops.size - n) n lf a w fuel (Nat.le_refl _) (by have := hS.le; omega) hf ⟨I.size, fun i hi => ?_⟩ I.closed ?_
    · by_cases e : i < n
      · rw [hall i e]; simp [e]
      · rw [I.high i (by omega) hi]; simp [e]
    · obtain ⟨r, E, S, z, hE, hSl, hr1, hr2, hr3, hz, hEz, ht⟩ := replay hS hrefl htr hT I n (Nat.le_refl _)
      have hd : (ops.toList.take n).drop n = [] := List.drop_eq_nil_of_le (by simp; omega)
      rw [hd] at ht
      have hdone : ∀ j, j < n → ∃ rec, h j = some rec := fun j hj => by
        have := I.listed j hj
        rw [hall j hj] at this
        exact Option.isSome_iff_exists.1 this.symm
      have he : actN ops a0 r n = a := by
        rw [I.act]
        refine actN_congr n fun j hj => ?_
        obtain ⟨rec, h1⟩ := hdone j hj
        rw [(hr3 j rec hj h1).1, val, h1]; rfl
      rw [he] at ht
      refine ht w I.now (fun j hj => ?_) (fun i j hi hj hne => ?_)
      · obtain ⟨rec, h1⟩ := hdone j hj
        rcases (hr3 j rec hj h1).2 with ⟨e, _⟩ | ⟨e, _⟩
        · rw [e]; exact (I.begun j rec h1).2
        · rw [e]; exact I.now
      · obtain ⟨ri, h1⟩ := hdone i hi
        obtain ⟨rj, h2⟩ := hdone j hj
        rcases (hr3 i ri hi h1).2 with ⟨e1, e2⟩ | ⟨e1, e2⟩ <;> rcases (hr3 j rj hj h2).2 with ⟨e3, e4⟩ | ⟨e3, e4⟩ <;> rw [e1, e2, e3, e4]
        · exact I.chain i j ri rj h1 h2 hne
        · exact .inr (I.begun i ri h1).1
        · exact .inl (I.begun j rj h2).1
        · exact .inl (hrefl _)
  induction fuel with
  | zero =>
    intro lf a w h hf I
    refine finish 0 lf a w h (by omega) I fun j hj => ?_
    cases hv : lf.getD j true with
    | true => rfl
    | false => have := cnt_pos hv n hj; omega
  | succ fuel ih =>
    intro lf a w h hf I
    by_cases hall : ∀ j, j < n → lf.getD j true = true
    · exact finish _ lf a w h (by omega) I hall
    · have hex : ∃ i0, i0 < n ∧ lf.getD i0 true = false := by
        refine Classical.byContradiction fun hc => hall fun j hj => ?_
        cases hv : lf.getD j true with
        | true => rfl
        | false => exact absurd ⟨j, hj, hv⟩ hc
      have hleast : ∃ i0, i0 < n ∧ i0 ∈ Region.ready .any ops lf := by
        refine Classical.byContradiction fun hc => ?_
        have key : ∀ i, i < n → lf.getD i true = true := by
          intro i
          induction i using Nat.strongRecOn with
          | _ i ihi =>
            intro hi
            have hlt : i < ops.size := Nat.lt_of_lt_of_le hi hS.le
            cases hv : lf.getD i true with
            | true => rfl
            | false =>
              refine absurd ⟨i, hi, mem_ready.2 ⟨hv, _, Array.getElem?_eq_getElem hlt, fun e he hb => ?_⟩⟩ hc
              have hb' := backY hS.ok (Array.getElem?_eq_getElem hlt) e he hb
              rw [getT I.size (by omega)]
              exact ihi e.on hb' (by omega)
        obtain ⟨i0, h1, h2⟩ := hex
        rw [key i0 h1] at h2; cases h2
      -- what is known of an operation that may come up
      have have8 : ∀ i o, i < n → ops[i]? = some o → i ∈ Region.ready .any ops lf → ∀ j, j < i → waitsB ops 8 i j = true → ∃ rj, h j = some rj := fun i o hin ho hi j hj hw => by
        obtain ⟨_, o', ho', hdep⟩ := mem_ready.1 hi
        rw [ho] at ho'; cases ho'
        have h1 := reach I.closed 8 i j o ho hdep hw
        have := (Array.getElem?_eq_some_iff.1 ho).1
        rw [getT I.size (by omega), I.listed j (by omega)] at h1
        exact Option.isSome_iff_exists.1 h1
      by_cases hnz : ∃ i0, i0 < n ∧ Z.getD i0 false = false ∧ lf.getD i0 true = false
      · obtain ⟨i1, _, hi1⟩ := hleast
        refine ⟨fun h0 => (by rw [h0] at hi1; cases hi1), fun i hi => ?_⟩
        obtain ⟨hun, o, ho, hdep⟩ := mem_ready.1 hi
        have his := (Array.getElem?_eq_some_iff.1 ho).1
        have hin : i < n := by
          rcases Nat.lt_or_ge i n with h' | h'
          · exact h'
          · exfalso
            obtain ⟨i0, h1, h3, h2⟩ := hnz
            have := waitsY hS.ok I.closed ho h' (by rw [← I.high i h' his]; exact hun) (show i0 < i by omega) (fun _ => h3) (hS.head i0 h1) hdep
            rw [getT I.size (by omega), h2] at this; cases this
        have hn : h i = none := by
          have := I.listed i hin
          rw [hun] at this
          exact Option.not_isSome_iff_eq_none.1 (by rw [← this]; simp)
        have hw8 := have8 i o hin ho hi
        obtain ⟨r, E, S, z, hE, hSl, hr1, hr2, hr3, hz, hEz, ht⟩ := replay hS hrefl htr hT I i (by omega)
        have hoo : ops[i] = o := by rw [Array.getElem?_eq_getElem his] at ho; exact Option.some.inj ho
        have hdrop : (ops.toList.take n).drop i = o :: (ops.toList.take n).drop (i + 1) := by
          rw [List.drop_eq_getElem_cons (by simp; omega)]; simp [hoo]
        rw [hdrop] at ht
        have hsel : ∀ cs b, o.op ≠ .select cs b := fun cs b => Region.noSelect_spec hS.sel i o cs b ho
        have hag : Agree (o.looksAt ops) (actN ops a0 r n) a := by
          refine (agree_text hS hin ho hr1 fun j hj => ?_).trans (agree_now hS I hin hn ho).symm
          obtain ⟨rj, h1⟩ := hw8 j (dep_lt hS hj) (dep_waits hj)
          rw [(hr3 j rj (dep_lt hS hj) h1).1, val, h1]; rfl
        -- the step, and that the world moves on
        have hstep : ∃ K : Act → World → Prop, stepG P ops R i o (actN ops a0 r n) w K ∧ ∀ a' w', K a' w' → M w w' := by
          rcases ht with ⟨v, h1, _⟩ | ⟨_, h1⟩
          · exact ⟨_, h1 w, fun a' w' hk => by rw [hk.2]; exact hrefl w⟩
          · refine ⟨_, h1 w I.now fun j hj hw => ?_, fun a' w' hk => hk.1⟩
            obtain ⟨rj, h2⟩ := hw8 j hj hw
            rcases (hr3 j rj hj h2).2 with ⟨e, _⟩ | ⟨e, _⟩
            · rw [e]; exact (I.begun j rj h2).2
            · rw [e]; exact I.now
        obtain ⟨K, hst, hK⟩ := hstep
        refine wpOp_mono (fun a' w' hk => ?_) (hst.wpOp (Q := Q) ho hsel hag)
        obtain ⟨v, rfl, hO⟩ := hk
        have hM : M w w' := hK _ _ (hst.use (hO.agree hsel hag.symm))
        exact ih _ _ _ _ (by have := cnt_set (lf := lf) (by rw [I.size]; exact his) hun n hin; omega) (I.step hS hrefl htr hin hi ho hw8 hO hM)
      · -- what is left of the head needs no memory: it is taken at once
        obtain ⟨i, hin, hi⟩ := hleast
        obtain ⟨hun, o, ho, hdep⟩ := mem_ready.1 hi
        have his := (Array.getElem?_eq_some_iff.1 ho).1
        have hZi : Z.getD i false = true := by
          cases hv : Z.getD i false with
          | true => rfl
          | false => exact absurd ⟨i, hin, hv, hun⟩ hnz
        have hn : h i = none := by
          have := I.listed i hin
          rw [hun] at this
          exact Option.not_isSome_iff_eq_none.1 (by rw [← this]; simp)
        have hw8 := have8 i o hin ho hi
        obtain ⟨r, E, S, z, hE, hSl, hr1, hr2, hr3, hz, hEz, ht⟩ := replay hS hrefl htr hT I i (by omega)
        have hoo : ops[i] = o := by rw [Array.getElem?_eq_getElem his] at ho; exact Option.some.inj ho
        have hdrop : (ops.toList.take n).drop i = o :: (ops.toList.take n).drop (i + 1) := by
          rw [List.drop_eq_getElem_cons (by simp; omega)]; simp [hoo]
        rw [hdrop] at ht
        have hsel : ∀ cs b, o.op ≠ .select cs b := fun cs b => Region.noSelect_spec hS.sel i o cs b ho
        have hag : Agree (o.looksAt ops) (actN ops a0 r n) a := by
          refine (agree_text hS hin ho hr1 fun j hj => ?_).trans (agree_now hS I hin hn ho).symm
          obtain ⟨rj, h1⟩ := hw8 j (dep_lt hS hj) (dep_waits hj)
          rw [(hr3 j rj (dep_lt hS hj) h1).1, val, h1]; rfl
        rcases ht with ⟨v, h1, hy, _⟩ | ⟨h2, _⟩
        · have hy' : Yields P ops o v a := (hy hZi).of_same (hag.exec hsel).symm hag.wanted.symm
          have hp : plainOp o.op = true := by
            have := hS.vop i o hin hZi ho
            revert this
            cases o.op <;> simp [vOp, plainOp]
          have hO : Out P ops R i o a w v w := by
            unfold Out
            rcases hy' with ⟨hw, hr⟩ | ⟨hw, rfl⟩
            · rw [if_pos hw, if_pos hp]; exact .inl (hr w)
            · rw [if_neg (by rw [hw]; simp)]; exact ⟨rfl, rfl⟩
          refine wpAny_first ho (Region.noSelect_spec hS.sel) (fun c a w => hQ c a o.dst v w) fuel lf a w (fun j oj hoj hji hju hno => ?_) hi hy' ?_
          · refine hS.lone i j o oj hin hZi ho hoj hji ?_ ?_
            rotate_left
            · rw [Bool.eq_false_iff]
              intro hd
              unfold depB at hd
              simp only [ho] at hd
              obtain ⟨e, he, hb⟩ := Array.any_eq_true'.1 hd
              simp only [Bool.and_eq_true, beq_iff_eq] at hb
              have h9 := hdep e he hb.1
              rw [hb.2, getT I.size (Array.getElem?_eq_some_iff.1 hoj).1, hju] at h9
              cases h9
            unfold depB
            simp only [hoj]
            rw [Bool.eq_false_iff]
            intro hd
            obtain ⟨e, he, hb⟩ := Array.any_eq_true'.1 hd
            simp only [Bool.and_eq_true, beq_iff_eq] at hb
            exact hno e he hb.1 hb.2
          · exact ih _ _ _ _ (by have := cnt_set (lf := lf) (by rw [I.size]; exact his) hun n hin; omega) (I.step hS hrefl htr hin hi ho hw8 hO (hrefl w))
        · rw [hZi] at h2; cases h2

theorem cnt_all (lf : Array Bool) : ∀ k, cnt lf k ≤ k
  | 0 => Nat.le_refl _
  | k + 1 => by have := cnt_all lf k; simp only [cnt]; split <;> omega

/-- **The region's law**, from a point where the operations of Y have come up. n: how many operations come ahead of the last ones. Z: those of them that need no memory and for which a last one need not wait. M: how the world may move on; R: what the calls give. -/
theorem wpAny_rg {a : Act} {w : World} {l : List Oper} {listed : Array Bool} {fuel : Nat} (n : Nat) (Z Y : Array Bool) (M : World → World → Prop) (R : Nat → Array Value → World → Value → World → Prop)
    (hB : rgB l.toArray n Z Y = true) (hl : ((List.range l.length).all fun j => listed.getD j true == (decide (n ≤ j) && Y.getD j false)) = true) (hsz : listed.size = l.length) (hcl : closedB l.toArray listed = true) (hf : n + (tailL Y n (l.drop n)).length ≤ fuel)
    (hrefl : ∀ w, M w w) (htr : ∀ a b c, M a b → M b c → M a c) (hQ : ∀ c (a : Act) (d : Tmp) v w, Q (.panic c) ⟨a.tmps.setIfInBounds d v, a.defers⟩ w → Q (.panic c) a w)
    (h : tree P l.toArray n Z M R w (fun a' w' => wpList P l.toArray Q (tailL Y n (l.drop n)) a' w') 0 (l.take n) a [] []) : wpAny P .any l.toArray Q fuel listed a w := by
  have hS := shape_of hB
  have hle : n ≤ l.toArray.size := hS.le
  have hls : ∀ j, j < l.toArray.size → listed.getD j true = (decide (n ≤ j) && Y.getD j false) := fun j hj => by
    have := List.all_eq_true.1 hl j (List.mem_range.2 (by simpa using hj))
    simpa using this
  refine rg_any (w0 := w) (a0 := a) (Y := Y) hS hrefl htr (fun c a d v w hq => by cases d with | none => exact hq | some d => exact hQ c a d v w hq) (by simpa using h) fuel listed a w (fun _ => none) ?_ ?_
  · have := cnt_all listed n
    simp only at hf ⊢
    omega
  · refine ⟨by simpa using hsz, fun j hj => ?_, fun j hj hjs => ?_, closed_of hcl, fun _ _ => rfl, ?_, hrefl _, fun j r hj => (by cases hj), fun j r hj => (by cases hj), fun j r hj => (by cases hj), fun i j ri rj hi => (by cases hi)⟩
    · rw [hls j (by omega)]; simp; omega
    · rw [hls j hjs]; simp [hj]
    · exact (actN_stop (h := val fun _ => none) (k := 0) (fun _ _ => rfl) n (by omega)).symm
theorem tailL_none : ∀ (k : Nat) (l : List Oper), tailL #[] k l = l
  | _, [] => rfl
  | k, o :: l => by simp [tailL, tailL_none (k + 1) l]
theorem wp_region_rgZ {id : Nat} {a : Act} {w : World} {l : List Oper} (n : Nat) (Z : Array Bool) (M : World → World → Prop) (R : Nat → Array Value → World → Value → World → Prop)
    (hm : P.follows .mixedOrders = true) (hB : rgB l.toArray n Z #[] = true) (hrefl : ∀ w, M w w) (htr : ∀ a b c, M a b → M b c → M a c) (hQ : ∀ c (a : Act) (d : Tmp) v w, Q (.panic c) ⟨a.tmps.setIfInBounds d v, a.defers⟩ w → Q (.panic c) a w)
    (h : tree P l.toArray n Z M R w.drew (fun a' w' => wpList P l.toArray Q (l.drop n) a' w') 0 (l.take n) a [] []) : (Code.region id l.toArray true).wp P Q a w := by
  have hS := shape_of hB
  have hle : n ≤ l.toArray.size := hS.le
  have hrep : ∀ j, j < l.length → (Array.replicate l.toArray.size false).getD j true = false := fun j hj => by
    simp [hj]
  refine wp_region_any hm (wpAny_rg (w := w.drew) n Z #[] M R hB ?_ (by simp) ?_ ?_ hrefl htr hQ ?_)
  · refine List.all_eq_true.2 fun j hj => ?_
    rw [hrep j (List.mem_range.1 hj)]
    simp
  · refine List.all_eq_true.2 fun j hj => ?_
    have : j < l.length := by simpa using hj
    split
    · rfl
    · simp [this]
  · rw [tailL_none]; simp; simp at hle; omega
  · simpa [tailL_none] using h

/-! ### The steps -/
variable {Qt : Act → World → Prop} {k : Nat} {o : Oper} {rest : List Oper} {E S : List World}
theorem tree_nil (h : ∀ w, M w0 w → RowKit.Hid (∀ j, j < n → M (E.getD j w0) w) → RowKit.Hid (∀ i j, i < n → j < n → i ≠ j → M (E.getD i w0) (S.getD j w0) ∨ M (E.getD j w0) (S.getD i w0)) → Qt a w) : tree P ops n Z M R w0 Qt k [] a E S :=
  fun w h0 h1 h2 => h w h0 (Lib.hid h1) (Lib.hid h2)
/-- An operation that reads or makes memory. -/
theorem tree_op (hZ : Z.getD k false = false) (hp : plainOp o.op = true) (h : ∀ w, M w0 w → RowKit.Hid (∀ j, j < k → waitsB ops 8 k j = true → M (E.getD j w0) w) →
    wpList P ops (fun e a' w' => e = .normal ∧ M w w' ∧ tree P ops n Z M R w0 Qt (k + 1) rest a' (E ++ [w']) (S ++ [w])) [o] a w) : tree P ops n Z M R w0 Qt k (o :: rest) a E S := by
  refine .inr ⟨hZ, fun w h0 h1 => ?_⟩
  have h2 := h w h0 (Lib.hid h1)
  unfold stepG
  unfold wpList at h2
  split
  · rename_i hw
    rw [if_pos hw] at h2
    rcases h2 with h2 | ⟨_, ⟨_, _, h3, _⟩⟩
    · obtain ⟨v, w', hg, hk⟩ := wp_gives hp (Oper.wp_mono (K' := fun a' w' => M w w' ∧ tree P ops n Z M R w0 Qt (k + 1) rest a' (E ++ [w']) (S ++ [w])) (fun a' w' hk => hk.2) (show o.wp P a w (wpList P ops (fun e a' w' => e = .normal ∧ M w w' ∧ tree P ops n Z M R w0 Qt (k + 1) rest a' (E ++ [w']) (S ++ [w])) []) (fun _ _ _ => False) from by
        have hv := plain_valued (P := P) hp a.eval w
        unfold Oper.wp at h2 ⊢
        generalize (execOp a.eval o).run P w = r at *
        cases r with
        | ok m w' => cases m <;> first | exact hv.elim | exact h2
        | halt x w' => cases x <;> first | exact h2.elim | exact (nomatch h2.1)))
      exact gives_wp hg hk
    · cases h3
  · rename_i hw
    rw [if_neg hw] at h2
    exact h2.2
/-- A call. -/
theorem tree_call (hZ : Z.getD k false = false) (hp : plainOp o.op = false) (hg : o.guard = none) (h : ∀ w, M w0 w → RowKit.Hid (∀ j, j < k → waitsB ops 8 k j = true → M (E.getD j w0) w) →
    callSpec P o a w (R k (argsOf o a) w) ∧ ∀ v w', R k (argsOf o a) w v w' → M w w' ∧ tree P ops n Z M R w0 Qt (k + 1) rest (a.put o.dst v) (E ++ [w']) (S ++ [w])) : tree P ops n Z M R w0 Qt k (o :: rest) a E S := by
  refine .inr ⟨hZ, fun w h0 h1 => ?_⟩
  unfold stepG
  rw [if_pos (by simp [Region.wanted, hg]), if_neg (by simp [hp])]
  exact h w h0 (Lib.hid h1)
/-- A call whose guard says yes. -/
theorem tree_callG (hZ : Z.getD k false = false) (hp : plainOp o.op = false) (hg : Region.wanted o (yielded ops a.tmps) = true) (h : ∀ w, M w0 w → RowKit.Hid (∀ j, j < k → waitsB ops 8 k j = true → M (E.getD j w0) w) →
    callSpec P o a w (R k (argsOf o a) w) ∧ ∀ v w', R k (argsOf o a) w v w' → M w w' ∧ tree P ops n Z M R w0 Qt (k + 1) rest (a.put o.dst v) (E ++ [w']) (S ++ [w])) : tree P ops n Z M R w0 Qt k (o :: rest) a E S := by
  refine .inr ⟨hZ, fun w h0 h1 => ?_⟩
  unfold stepG
  rw [if_pos hg, if_neg (by simp [hp])]
  exact h w h0 (Lib.hid h1)
/-- Operations that need no memory. -/
theorem tree_quiet : ∀ (m : Nat) {k : Nat} {l : List Oper} {a : Act} {E S : List World}, ((l.take m).all fun o => plainOp o.op) = true → (Z.size = 0 ∨ ((l.take m).all fun o => vOp o.op) = true) →
    wpQuiet P ops (fun _ => True) (fun a' => tree P ops n Z M R w0 Qt (k + (l.take m).length) (l.drop m) a' (E ++ List.replicate (l.take m).length w0) (S ++ List.replicate (l.take m).length w0)) (l.take m) a → tree P ops n Z M R w0 Qt k l a E S
  | 0, k, l, a, E, S, _, _, h => by simpa [wpQuiet] using h
  | m + 1, k, [], a, E, S, _, _, h => by simpa [wpQuiet] using h
  | m + 1, k, o :: l, a, E, S, hp, hvv, h => by
    simp only [List.take_succ_cons, List.all_cons, Bool.and_eq_true] at hp hvv
    have hE : ∀ X : List World, X ++ List.replicate ((l.take m).length + 1) w0 = (X ++ [w0]) ++ List.replicate (l.take m).length w0 := fun X => by
      rw [List.replicate_succ]; simp
    have hk : k + ((l.take m).length + 1) = (k + 1) + (l.take m).length := by omega
    simp only [List.take_succ_cons, List.drop_succ_cons, List.length_cons, hE, hk] at h
    have hZ0 : Z.getD k false = true → vOp o.op = true := fun hz => by
      rcases hvv with hv | hv
      · simp [hv] at hz
      · exact hv.1
    unfold wpQuiet at h
    split at h
    · rename_i hw
      obtain ⟨v, h1, h2⟩ := h
      have h4 : ∀ w, vOp o.op = true → (execOp a.eval o).run P w = .ok (.value v) w := fun w hvo => by
        have h3 := h1 w trivial
        have hv := plain_valued (P := P) hp.1 a.eval w
        have hns := noSkip (P := P) hvo a.eval w
        unfold Oper.quietAt at h3
        generalize (execOp a.eval o).run P w = r at *
        cases r with
        | ok mm w' =>
          cases mm <;> first | exact hv.elim | skip
          case value u => obtain ⟨rfl, rfl⟩ := h3; rfl
          case skip => exact absurd rfl (hns w')
        | halt x w' => exact (h3 : False).elim
      refine .inl ⟨v, fun w => ?_, fun hz => .inl ⟨hw, fun w => h4 w (hZ0 hz)⟩, tree_quiet m hp.2 (hvv.imp id fun x => x.2) h2⟩
      unfold stepG
      rw [if_pos hw, if_pos hp.1]
      have h3 := h1 w trivial
      have hv := plain_valued (P := P) hp.1 a.eval w
      unfold Oper.quietAt at h3
      unfold Oper.wp
      generalize (execOp a.eval o).run P w = r at *
      cases r with
      | ok mm w' =>
        cases mm <;> first | exact hv.elim | skip
        case value u => obtain ⟨rfl, rfl⟩ := h3; exact ⟨rfl, rfl⟩
        case skip => obtain ⟨rfl, rfl⟩ := h3; exact ⟨rfl, rfl⟩
      | halt x w' => exact (h3 : False).elim
    · rename_i hw
      refine .inl ⟨undef, fun w => ?_, fun _ => .inr ⟨by simpa using hw, rfl⟩, tree_quiet m hp.2 (hvv.imp id fun x => x.2) h⟩
      unfold stepG
      rw [if_neg hw]
      exact ⟨rfl, rfl⟩
end
end Rg

/-- How the world moves on while the deck at b is used. -/
def Mv (B b : Nat) (w w' : World) : Prop := w.grownBy w' (some b) ∧ (Deck B w b → Deck B w' b)
theorem Mv.refl (B b : Nat) (w : World) : Mv B b w w := ⟨grownBy_refl _ _, id⟩
theorem Mv.trans (B b : Nat) (w1 w2 w3 : World) (h : Mv B b w1 w2) (k : Mv B b w2 w3) : Mv B b w1 w3 := ⟨grownBy_trans h.1 k.1, fun d => k.2 (h.2 d)⟩
theorem Mv.of {B b : Nat} {w w' : World} (h : w.grownBy w' none) : Mv B b w w' := ⟨grownBy_some h _, fun d => d.kept h (by simp)⟩
theorem Mv.next {B b : Nat} {w w' : World} (h : w.grownBy w' (some b)) (d : Deck B w' b) : Mv B b w w' := ⟨h, fun _ => d⟩
end Go.Proofs.YtkdbapbmbhmaiaaGreat

/- append onto an empty literal: nothing that lies there is written. Insertion into a slice, made anew. -/
namespace Go.Proofs.YtkdbapbmbhmaiaaGreat
open Go.RowKit

/-- The slice lies in the literal's block or in a new one. -/
theorem run_app_lit {w : World} {st e ty : TypeId} {z : Value} {size bytes : Nat} (E : Elt st e z size bytes) {base g : Nat} (hown : w.ownsRow base e size (.slice (some ⟨g, 0, none⟩) 0 0) 0 [])
    {A : Option Addr} {m c : Nat} {news : List Value} (hr : Rd w size (.slice A m c) m news) (h1 : ∀ u ∈ news, u.oneCell' = true) (h63 : m ≤ maxLen) (hb : m * bytes ≤ 140737488355328) (hbase : base ≤ w.heap.size) :
    ∃ v' w', (Builtin.append_ #[st, st] ty #[.slice (some ⟨g, 0, none⟩) 0 0, .slice A m c]).run Tryz.prog w = .ok v' w' ∧ w'.ownsRow base e size v' m news ∧ w.grownBy w' none ∧ Lies (.slice (some ⟨g, 0, none⟩) 0 0) v' w.heap.size := by
  obtain ⟨i, hi, hz0, hz1, hz2⟩ := info_parts E.info
  rcases Nat.eq_zero_or_pos m with rfl | hm
  · have hn : news = [] := List.eq_nil_of_length_eq_zero (by simpa using hr.1)
    subst hn
    have key : ∀ ad : Addr, ∃ v' w', (Builtin.append_ #[st, st] ty #[.slice (some ⟨g, 0, none⟩) 0 0, .slice (some ad) 0 c]).run Tryz.prog w = .ok v' w' ∧ v' = .slice (some ⟨g, 0, none⟩) 0 0 ∧ w' = w := by
      intro ad
      refine ⟨_, _, ?_, rfl, rfl⟩
      simp [Builtin.append_, run_underlying E.ht, sizeOf, typeInfo, hi, Builtin.lenOf, Builtin.firstCells, storeCells, loadCells, loadCellsFrom]
    cases A with
    | none => exact ⟨_, w, run_app_nil E hown c, hown, World.grownBy.refl w _, .inl rfl⟩
    | some ad =>
      obtain ⟨v', w', h, rfl, rfl⟩ := key ad
      exact ⟨_, _, h, hown, World.grownBy.refl _ _, .inl rfl⟩
  · rcases hr.2.2 with ⟨rfl, _⟩ | ⟨g', off, cap, hv, _, hc⟩
    · omega
    · cases hv
      obtain ⟨v', w', hrun, h2, h3⟩ := run_append_arg_grows (P := Tryz.prog) w st ty e i z size bytes E.ht hi hz0 hz1 hz2 E.cells E.pos ⟨g, 0, none⟩ 0 0 [] (by simp) (by simp) ⟨g', off, none⟩ m c news hr.1 (fun j u hu => by
        have e : (⟨g', off, none⟩ : Addr).add j = ⟨g', off + j, none⟩ := by unfold Addr.add; split <;> simp_all
        rw [e]; exact hc j u hu) (by omega) (by simpa using h63) (by simpa using hb)
      simp only [Nat.zero_add, List.nil_append] at h2
      refine ⟨v', w', hrun, ⟨h2.1, h2.2.imp id fun ⟨g3, cap3, cur3, e1, e2, e3⟩ => ⟨g3, cap3, cur3, e1, Nat.le_trans hbase e2, e3⟩⟩, h3, ?_⟩
      rcases h2.2 with ⟨_, h0⟩ | ⟨g2, cap2, cur, rfl, hb2, _⟩
      · omega
      · exact .inr ⟨g2, rfl, hb2⟩
section
variable {α : Type} {f : α → List Value} {st e : TypeId} {z : Value} {size bytes : Nat} {w : World} {B : Nat} {g : Nat} {l2 : List α} {A : Option Addr} {m c : Nat}
variable {o : Oper} {a : Act} {ops : Array Oper} {rest : List Oper} {Q : Exit → Act → World → Prop}
theorem wp_app_lit (E : Elt st e z size bytes) (h1 : ∀ u ∈ cellsOf f l2, u.oneCell' = true) (hown : Own f size e B w (.slice (some ⟨g, 0, none⟩) 0 0) []) (hr : RdL f size w (.slice A m c) l2) (hm : m = l2.length) (hb : l2.length * bytes ≤ 140737488355328) (h63 : l2.length ≤ 9223372036854775807) (hbase : B ≤ w.heap.size)
    (s x : Operand) (ho : o.op = .call { callee := .builtin .append, args := #[s, x], argTypes := #[st, st] }) (hs : a.eval s = .slice (some ⟨g, 0, none⟩) 0 0) (hx : a.eval x = .slice A m c) {K : Act → World → Prop}
    (h : ∀ v' w', Own f size e B w' v' l2 → w.grownBy w' none → Lies (.slice (some ⟨g, 0, none⟩) 0 0) v' w.heap.size → K (a.put o.dst v') w') : o.wp Tryz.prog a w K Q := by
  subst hm
  obtain ⟨v', w', hrun, h2, h3, h4⟩ := run_app_lit (ty := o.type) E hown hr h1 (by unfold maxLen; exact h63) hb hbase
  unfold Oper.wp execOp
  simp only [ho, resolve, invoke, builtin, Sem.run_bind, Sem.run_pure, Result.andThen_ok, List.map_toArray, List.map_cons, List.map_nil, hs, hx, hrun]
  exact h v' w' h2 h3 h4
/-- append onto an empty literal, in a region that is carried out in order. -/
theorem app_litV (E : Elt st e z size bytes) (h1 : ∀ u ∈ cellsOf f l2, u.oneCell' = true) (hown : Own f size e B w (.slice (some ⟨g, 0, none⟩) 0 0) []) (hr : RdL f size w (.slice A m c) l2) (hm : m = l2.length) (hb : l2.length * bytes ≤ 140737488355328) (h63 : l2.length ≤ 9223372036854775807) (hbase : B ≤ w.heap.size)
    (hgd : o.guard = none) (s x : Operand) (ho : o.op = .call { callee := .builtin .append, args := #[s, x], argTypes := #[st, st] }) (hs : a.eval s = .slice (some ⟨g, 0, none⟩) 0 0) (hx : a.eval x = .slice A m c)
    (h : ∀ v' w', Own f size e B w' v' l2 → w.grownBy w' none → Lies (.slice (some ⟨g, 0, none⟩) 0 0) v' w.heap.size → wpList Tryz.prog ops Q rest (a.put o.dst v') w') : wpList Tryz.prog ops Q (o :: rest) a w :=
  wpList_plain hgd fun _ hK => wp_app_lit E h1 hown hr hm hb h63 hbase s x ho hs hx fun v' w' h2 h3 h4 => hK _ _ (h v' w' h2 h3 h4)
theorem app_lit (E : Elt st e z size bytes) (h1 : OneF f) (hown : Own f size e B w (.slice (some ⟨g, 0, none⟩) 0 0) []) (hr : RdL f size w (.slice A m c) l2) (hm : m = l2.length) (hb : l2.length * bytes ≤ 140737488355328) (h63 : l2.length ≤ 9223372036854775807) (hbase : B ≤ w.heap.size)
    (hgd : o.guard = none) (s x : Operand) (ho : o.op = .call { callee := .builtin .append, args := #[s, x], argTypes := #[st, st] }) (hs : a.eval s = .slice (some ⟨g, 0, none⟩) 0 0) (hx : a.eval x = .slice A m c)
    (h : ∀ v' w', Own f size e B w' v' l2 → w.grownBy w' none → Lies (.slice (some ⟨g, 0, none⟩) 0 0) v' w.heap.size → wpList Tryz.prog ops Q rest (a.put o.dst v') w') : wpList Tryz.prog ops Q (o :: rest) a w :=
  app_litV E (h1.cells l2) hown hr hm hb h63 hbase hgd s x ho hs hx h
end
/-- One element in a block of its own that is known whole. -/
theorem Blk.one {α : Type} {f : α → List Value} {size : Nat} {w : World} {g : Nat} {cs : Array Value} (h : Blk w g cs) (hf : ∀ x, (f x).length = size) (y : α) (hcs : cs.toList = f y) : RdL f size w (.slice (some ⟨g, 0, none⟩) 1 1) [y] := by
  refine ⟨by simp [cellsOf, hf], by simp, .inr ⟨g, 0, 1, rfl, h.lt, fun j u hu => ?_⟩⟩
  simp only [cellsOf, List.flatMap_cons, List.flatMap_nil, List.append_nil, ← hcs] at hu
  rw [Nat.zero_add, h.cell j]
  simpa using hu
end Go.Proofs.YtkdbapbmbhmaiaaGreat

/- What functions leave: a slice of their own. -/
namespace Go.Proofs.YtkdbapbmbhmaiaaGreat
open Go.RowKit

def RetOwn {α : Type} (f : α → List Value) (s : Nat) (e : TypeId) (l : List α) (w : World) (en : Ending) (w' : World) : Prop :=
  ∃ v, en = .returned v ∧ Own f s e w.heap.size w' v l ∧ w.grownBy w' none
end Go.Proofs.YtkdbapbmbhmaiaaGreat

/- Worlds that have changed in some blocks (S) and have grown. -/
namespace Go.Proofs.YtkdbapbmbhmaiaaGreat
open Go.RowKit

structure GrownS (S : Nat → Prop) (w w' : World) : Prop where
  os : w'.os = w.os
  tape : w'.tape = w.tape
  output : w'.output = w.output
  size : w.heap.size ≤ w'.heap.size
  block : ∀ i, i < w.heap.size → ¬ S i → w'.heap[i]? = w.heap[i]?
theorem GrownS.refl (S : Nat → Prop) (w : World) : GrownS S w w := ⟨rfl, rfl, rfl, Nat.le_refl _, fun _ _ _ => rfl⟩
/-- The second step may touch what the first has made. -/
theorem GrownS.trans {S T : Nat → Prop} {a b c : World} (h : GrownS S a b) (k : GrownS T b c) (hT : ∀ i, T i → i < a.heap.size → S i) : GrownS S a c :=
  ⟨k.os.trans h.os, k.tape.trans h.tape, k.output.trans h.output, Nat.le_trans h.size k.size, fun i hi hn => (k.block i (Nat.lt_of_lt_of_le hi h.size) (fun ht => hn (hT i ht hi))).trans (h.block i hi hn)⟩
theorem GrownS.mono {S T : Nat → Prop} {a b : World} (h : GrownS S a b) (hT : ∀ i, S i → i < a.heap.size → T i) : GrownS T a b := ⟨h.os, h.tape, h.output, h.size, fun i hi hn => h.block i hi (fun hs => hn (hT i hs hi))⟩
theorem GrownS.of {S : Nat → Prop} {w w' : World} {r : Option Nat} (h : w.grownBy w' r) (hr : ∀ k, r = some k → S k) : GrownS S w w' :=
  ⟨h.os, h.tape, h.output, h.size, fun i hi hn => h.block i hi (fun e => hn (hr i e.symm))⟩
theorem GrownS.none_ {S : Nat → Prop} {w w' : World} (h : w.grownBy w' none) : GrownS S w w' := GrownS.of h (by simp)
theorem GrownS.base {S : Nat → Prop} {w0 w w' : World} (h : w0.grownBy w none) (k : GrownS S w w') (hS : ∀ i, S i → w0.heap.size ≤ i) : w0.grownBy w' none :=
  ⟨k.os.trans h.os, k.tape.trans h.tape, k.output.trans h.output, Nat.le_trans h.size k.size, fun i hi hn => (k.block i (Nat.lt_of_lt_of_le hi h.size) (fun hs => by have := hS i hs; omega)).trans (h.block i hi hn)⟩
theorem GrownS.back {S : Nat → Prop} {w w' : World} (k : GrownS S w w') (hS : ∀ i, i < w.heap.size → ¬ S i) : w.grownBy w' none := ⟨k.os, k.tape, k.output, k.size, fun i hi _ => k.block i hi (hS i hi)⟩
theorem Blk.keptS {S : Nat → Prop} {w w' : World} {g : Nat} {cs : Array Value} (h : Blk w g cs) (k : GrownS S w w') (hS : ¬ S g) : Blk w' g cs := by
  have hl := h.lt
  obtain ⟨t, h⟩ := h.blk
  exact ⟨t, (k.block g hl hS).trans h⟩
theorem Own.keptS {α : Type} {f : α → List Value} {s : Nat} {e : TypeId} {B : Nat} {w w' : World} {v : Value} {l : List α} {S : Nat → Prop} (h : Own f s e B w v l) (k : GrownS S w w') (hS : ∀ g, v.ownBlock = some g → ¬ S g) : Own f s e B w' v l := by
  refine ⟨h.1, ?_⟩
  rcases h.2 with h0 | ⟨g, cap, cur, rfl, h1, h2, h3⟩
  · exact .inl h0
  · exact .inr ⟨g, cap, cur, rfl, h1, (k.block g (Array.getElem?_eq_some_iff.1 h2).1 (hS g rfl)).trans h2, h3⟩
theorem Rd.keptS {w w' : World} {size : Nat} {v : Value} {n : Nat} {xs : List Value} {S : Nat → Prop} (h : Rd w size v n xs) (k : GrownS S w w') (hS : 0 < n → ∀ a n' c, v = .slice (some a) n' c → ¬ S a.block) : Rd w' size v n xs := by
  obtain ⟨h1, h0, h2⟩ := h
  refine ⟨h1, h0, ?_⟩
  rcases h2 with h2 | ⟨g, off, cap, hv, hlt, hc⟩
  · exact .inl h2
  · rcases Nat.eq_zero_or_pos n with hn | hn
    · exact .inl ⟨hn, some ⟨g, off, none⟩, cap, by rw [hv, hn]⟩
    · refine .inr ⟨g, off, cap, hv, Nat.lt_of_lt_of_le hlt k.size, fun j u hu => ?_⟩
      rw [World.cell?_of_block (a := ⟨g, off + j, none⟩) (k.block g hlt (hS hn _ _ _ hv))]
      exact hc j u hu
theorem RdL.keptS {α : Type} {f : α → List Value} {s : Nat} {w w' : World} {v : Value} {l : List α} {S : Nat → Prop} (h : RdL f s w v l) (k : GrownS S w w') (hS : 0 < l.length → ∀ a n' c, v = .slice (some a) n' c → ¬ S a.block) : RdL f s w' v l := Rd.keptS h k hS
theorem ownsMap_keptS {H : Type} {P : Program} {kt : TypeId} {R : Value → Option (DataW H × List MemPlace)} {w w' : World} {b n : Nat} {D : DataW H} {S : Nat → Prop} (h : w.ownsMap P kt R b n D) (k : GrownS S w w') (hS : ¬ S b) : w'.ownsMap P kt R b n D := by
  have hl := h.lt
  obtain ⟨es, clock, hb, h⟩ := h
  exact ⟨es, clock, (k.block b hl hS).trans hb, h⟩
end Go.Proofs.YtkdbapbmbhmaiaaGreat
