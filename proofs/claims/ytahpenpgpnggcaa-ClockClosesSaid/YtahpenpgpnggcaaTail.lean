/- A region that draws its order: all operations but the last ones are quiet in a class of worlds (they read, or they call what only grows the memory), and each of the last ones waits for all before it. The quiet ones are walked once, in the order of the text; the last ones follow as a plain list. -/
import Derived.Test.YtahpenpgpnggcaaRows
import Derived.WalkKit
import Derived.Deep.Quiet
import Derived.BigQuiet
import Derived.Lib.QuietBelow
import Derived.Test.YtahpenpgpnggcaaDeck
namespace Go.Proofs.Ytahpenpgpnggcaa
namespace Tail

variable {n : Nat} {P : Program} {ops : Array Oper} {C : World → Prop} {Q : Exit → Act → World → Prop}

/-- Operation j waits for i, by itself or through others. -/
def waitsB (ops : Array Oper) : Nat → Nat → Nat → Bool
  | 0, _, _ => false
  | f + 1, j, i => match ops[j]? with
    | none => false
    | some o => o.after.any fun e => Region.binds .any e && (e.on == i || waitsB ops f e.on i)

/-- Edges go back; each operation from n on waits for all before it. -/
def okB (ops : Array Oper) (n : Nat) : Bool :=
  (List.range ops.size).all fun j => match ops[j]? with
    | none => true
    | some o => (o.after.all fun e => !Region.binds .any e || decide (e.on < j)) &&
        (decide (j < n) || (List.range j).all fun i => waitsB ops 4 j i)

theorem back (h : okB ops n = true) {j : Nat} {o : Oper} (hj : ops[j]? = some o) : ∀ e ∈ o.after, Region.binds .any e = true → e.on < j := by
  intro e he hb
  have h1 := List.all_eq_true.1 h j (List.mem_range.2 (Array.getElem?_eq_some_iff.1 hj).1)
  simp only [hj, Bool.and_eq_true] at h1
  have h2 := Array.all_eq_true_iff_forall_mem.1 h1.1 e he
  simpa [hb] using h2
/-- What has come up has all it waits for. -/
def Closed (ops : Array Oper) (listed : Array Bool) : Prop := ∀ (j : Nat) (o : Oper), ops[j]? = some o → listed.getD j true = true → ∀ e ∈ o.after, Region.binds .any e = true → listed.getD e.on false = true
theorem reach {listed : Array Bool} (hc : Closed ops listed) : ∀ (f j i : Nat) (o : Oper), ops[j]? = some o → (∀ e ∈ o.after, Region.binds .any e = true → listed.getD e.on false = true) → waitsB ops f j i = true → listed.getD i false = true
  | 0, _, _, _, _, _, h => by simp [waitsB] at h
  | f + 1, j, i, o, hj, hd, h => by
    simp only [waitsB, hj] at h
    obtain ⟨e, he, h4⟩ := Array.any_eq_true'.1 h
    simp only [Bool.and_eq_true, Bool.or_eq_true, beq_iff_eq] at h4
    have h5 := hd e he h4.1
    rcases h4.2 with h6 | h6
    · rw [← h6]; exact h5
    · cases ho : ops[e.on]? with
      | none => cases f <;> simp [waitsB, ho] at h6
      | some o' =>
        refine reach hc f e.on i o' ho (hc e.on o' ho ?_) h6
        have : e.on < listed.size := by
          rcases Nat.lt_or_ge e.on listed.size with h' | h'
          · exact h'
          · simp [Array.getElem?_eq_none h'] at h5
        simp [this] at h5 ⊢; exact h5
theorem waits (h : okB ops n = true) {listed : Array Bool} (hc : Closed ops listed) {j : Nat} {o : Oper} (hj : ops[j]? = some o) (hn : n ≤ j) {i : Nat} (hi : i < j)
    (hd : ∀ e ∈ o.after, Region.binds .any e = true → listed.getD e.on false = true) : listed.getD i false = true := by
  have h1 := List.all_eq_true.1 h j (List.mem_range.2 (Array.getElem?_eq_some_iff.1 hj).1)
  simp only [hj, Bool.and_eq_true, Bool.or_eq_true, decide_eq_true_eq] at h1
  rcases h1.2 with h2 | h2
  · omega
  · exact reach hc 4 j i o hj hd (List.all_eq_true.1 h2 i (List.mem_range.2 hi))

/-- The operations below m have come up, the others not. -/
def Upto (listed : Array Bool) (N m : Nat) : Prop := listed.size = N ∧ ∀ i, i < N → listed.getD i true = decide (i < m)
theorem Upto.getF {listed : Array Bool} {N m : Nat} (h : Upto listed N m) {i : Nat} (hi : i < N) : listed.getD i false = decide (i < m) := by
  rw [← h.2 i hi]
  have : i < listed.size := by rw [h.1]; exact hi
  simp [this]
theorem Upto.closed {listed : Array Bool} {m : Nat} (hok : okB ops n = true) (h : Upto listed ops.size m) : Closed ops listed := by
  intro j o hj hl e he hb
  have h1 := back hok hj e he hb
  have h2 := (Array.getElem?_eq_some_iff.1 hj).1
  rw [h.2 j h2] at hl
  simp only [decide_eq_true_eq] at hl
  rw [h.getF (by omega)]
  simp; omega
theorem Upto.next {listed : Array Bool} {N m : Nat} (h : Upto listed N m) (hm : m < N) : Upto (listed.setIfInBounds m true) N (m + 1) := by
  refine ⟨by simp [h.1], fun i hi => ?_⟩
  by_cases e : m = i
  · subst e
    have : m < listed.size := by rw [h.1]; exact hi
    simp [this]
  · rw [getD_set_ne true e, h.2 i hi]
    simp; omega

theorem tail_any (hok : okB ops n = true) : ∀ (k m : Nat) (listed : Array Bool) (a : Act) (w : World) (fuel : Nat), n ≤ m → m + k = ops.size → k ≤ fuel → Upto listed ops.size m →
    wpList P ops Q (ops.toList.drop m) a w → wpAny P .any ops Q fuel listed a w := by
  intro k
  induction k with
  | zero =>
    intro m listed a w fuel hn hm hf hu h
    have hr : Region.ready .any ops listed = [] := by
      rw [List.eq_nil_iff_forall_not_mem]
      intro i hi
      rw [mem_ready] at hi
      obtain ⟨h0, o, ho, _⟩ := hi
      have hi' := (Array.getElem?_eq_some_iff.1 ho).1
      rw [hu.2 i hi'] at h0
      simp at h0; omega
    have hd : ops.toList.drop m = [] := List.drop_eq_nil_of_le (by simp; omega)
    rw [hd] at h
    cases fuel with
    | zero => exact ⟨hr, h⟩
    | succ f => exact ⟨fun _ => h, by rw [hr]; simp⟩
  | succ k ih =>
    intro m listed a w fuel hn hm hf hu h
    have hlt : m < ops.size := by omega
    have ho : ops[m]? = some ops[m] := Array.getElem?_eq_getElem hlt
    have hin : m ∈ Region.ready .any ops listed := by
      rw [mem_ready]
      refine ⟨by rw [hu.2 m hlt]; simp, _, ho, fun e he hb => ?_⟩
      have := back hok ho e he hb
      rw [hu.getF (by omega)]; simpa using this
    have hall : ∀ i ∈ Region.ready .any ops listed, i = m := by
      intro i hi
      rw [mem_ready] at hi
      obtain ⟨h0, o, hoi, hdep⟩ := hi
      have hi' := (Array.getElem?_eq_some_iff.1 hoi).1
      rw [hu.2 i hi'] at h0
      simp at h0
      by_cases e : i = m
      · exact e
      · exfalso
        have := waits hok (hu.closed hok) hoi (by omega) (show m < i by omega) hdep
        rw [hu.getF hlt] at this
        simp at this
    cases fuel with
    | zero => omega
    | succ f =>
      refine ⟨fun h0 => (by rw [h0] at hin; cases hin), fun i hi => ?_⟩
      rw [hall i hi]
      have hd : ops.toList.drop m = ops[m] :: ops.toList.drop (m + 1) := by
        rw [List.drop_eq_getElem_cons (by simpa using hlt)]; simp
      rw [hd] at h
      have h' : wpOp P ops Q m (wpList P ops Q (ops.toList.drop (m + 1))) a w := by
        unfold wpOp; simp only [ho]; exact h
      exact wpOp_mono (fun a' w' hk => ih (m + 1) _ a' w' f (by omega) (by omega) (by omega) (hu.next hlt) hk) h'

/-- The two lists of what has come up: for the quiet walk the last ones count as done. -/
def Pair (n N : Nat) (lt lf : Array Bool) : Prop := lt.size = N ∧ lf.size = N ∧ ∀ i, i < N → (i < n → lt.getD i true = lf.getD i true) ∧ (n ≤ i → lt.getD i true = true ∧ lf.getD i true = false)

theorem getF_of {l : Array Bool} {N i : Nat} (h : l.size = N) (hi : i < N) : l.getD i false = l.getD i true := by
  have : i < l.size := by rw [h]; exact hi
  simp [this]

/-- A ready operation comes up. -/
theorem Closed.next {lf : Array Bool} (hc : Closed ops lf) (hok : okB ops n = true) {i : Nat} (hi : i ∈ Region.ready .any ops lf) : Closed ops (lf.setIfInBounds i true) := by
  obtain ⟨_, o, ho, hd⟩ := mem_ready.1 hi
  intro j o' hj hl e he hb
  refine getD_set_true ?_
  by_cases h : i = j
  · subst h; rw [ho] at hj; cases hj; exact hd e he hb
  · rw [getD_set_ne true h] at hl; exact hc j o' hj hl e he hb

theorem head_any (hn : n ≤ ops.size) (hok : okB ops n = true) {QQ : Act → Prop} (hQ : ∀ a w, C w → QQ a → wpList P ops Q (ops.toList.drop n) a w) :
    ∀ (fuel : Nat) (lt lf : Array Bool) (a : Act) (w : World) (fuel' : Nat), fuel + (ops.size - n) ≤ fuel' → Pair n ops.size lt lf → Closed ops lf → C w → wpAnyQ P .any ops C QQ fuel lt a → wpAny P .any ops Q fuel' lf a w := by
  intro fuel
  -- if nothing is ready in the quiet walk, all of the head has come up
  have done : ∀ (lt lf : Array Bool), Pair n ops.size lt lf → Region.ready .any ops lt = [] → Upto lf ops.size n := by
    intro lt lf hp hr
    refine ⟨hp.2.1, ?_⟩
    have key : ∀ i, i < n → lf.getD i true = true := by
      intro i
      induction i using Nat.strongRecOn with
      | _ i ih =>
        intro hi
        have hlt : i < ops.size := by omega
        cases hv : lf.getD i true with
        | true => rfl
        | false =>
          exfalso
          have hin : i ∈ Region.ready .any ops lt := by
            rw [mem_ready]
            refine ⟨by rw [(hp.2.2 i hlt).1 hi, hv], _, Array.getElem?_eq_getElem hlt, fun e he hb => ?_⟩
            have hb' := back hok (Array.getElem?_eq_getElem hlt) e he hb
            rw [getF_of hp.1 (show e.on < ops.size by omega), (hp.2.2 e.on (by omega)).1 (by omega)]
            exact ih e.on hb' (by omega)
          rw [hr] at hin; cases hin
    intro i hi
    by_cases h : i < n
    · rw [key i h]; simpa using h
    · rw [((hp.2.2 i hi).2 (by omega)).2]; simpa using h
  induction fuel with
  | zero =>
    intro lt lf a w fuel' hf hp hcl hC h
    exact tail_any hok (ops.size - n) n lf a w fuel' (Nat.le_refl _) (by omega) (by omega) (done lt lf hp h.1) (hQ a w hC h.2)
  | succ fuel ih =>
    intro lt lf a w fuel' hf hp hcl hC h
    by_cases hr : Region.ready .any ops lt = []
    · exact tail_any hok (ops.size - n) n lf a w fuel' (Nat.le_refl _) (by omega) (by omega) (done lt lf hp hr) (hQ a w hC (h.1 hr))
    · obtain ⟨i0, hi0⟩ := List.exists_mem_of_ne_nil _ hr
      have h0 := mem_ready.1 hi0
      obtain ⟨hun, o0, ho0, hd0⟩ := h0
      have hi0n : i0 < n := by
        rcases Nat.lt_or_ge i0 n with h' | h'
        · exact h'
        · have := ((hp.2.2 i0 (Array.getElem?_eq_some_iff.1 ho0).1).2 h').1
          rw [this] at hun; cases hun
      have hi0s := (Array.getElem?_eq_some_iff.1 ho0).1
      -- what is ready in the one is ready in the other
      have hsub : ∀ i ∈ Region.ready .any ops lf, i < n ∧ i ∈ Region.ready .any ops lt := by
        intro i hi
        obtain ⟨hu, o, ho, hd⟩ := mem_ready.1 hi
        have his := (Array.getElem?_eq_some_iff.1 ho).1
        rcases Nat.lt_or_ge i n with h' | h'
        · refine ⟨h', mem_ready.2 ⟨by rw [(hp.2.2 i his).1 h']; exact hu, o, ho, fun e he hb => ?_⟩⟩
          have hb' := back hok ho e he hb
          rw [getF_of hp.1 (by omega), (hp.2.2 e.on (by omega)).1 (by omega), ← getF_of hp.2.1 (by omega)]
          exact hd e he hb
        · exfalso
          have := waits hok hcl ho h' (show i0 < i by omega) hd
          rw [getF_of hp.2.1 hi0s, ← (hp.2.2 i0 hi0s).1 hi0n, hun] at this
          cases this
      have hrf : i0 ∈ Region.ready .any ops lf := by
        refine mem_ready.2 ⟨by rw [← (hp.2.2 i0 hi0s).1 hi0n]; exact hun, o0, ho0, fun e he hb => ?_⟩
        have hb' := back hok ho0 e he hb
        rw [getF_of hp.2.1 (by omega), ← (hp.2.2 e.on (by omega)).1 (by omega), ← getF_of hp.1 (by omega)]
        exact hd0 e he hb
      cases fuel' with
      | zero => omega
      | succ f =>
        refine ⟨fun h0 => (by rw [h0] at hrf; cases hrf), fun i hi => ?_⟩
        obtain ⟨hin, hil⟩ := hsub i hi
        refine wpOp_of_qOp (C := C) hC (fun a' w' hC' hk => ih _ _ a' w' f (by omega) ?_ (hcl.next hok hi) hC' hk) (h.2 i hil)
        refine ⟨by simp [hp.1], by simp [hp.2.1], fun j hj => ?_⟩
        by_cases e : i = j
        · subst e
          have q1 : i < lt.size := by rw [hp.1]; exact hj
          have q2 : i < lf.size := by rw [hp.2.1]; exact hj
          exact ⟨fun _ => by simp [q1, q2], fun h => by omega⟩
        · rw [getD_set_ne true e, getD_set_ne true e]; exact hp.2.2 j hj

theorem lexH (hs : Region.noSelect ops = true) {QQ : Act → Prop} : ∀ (l : List Oper) (k : Nat) (listed : Array Bool) (a : Act), (∀ j, j < l.length → l[j]? = ops[k + j]?) →
    Region.lexFrom .any ops l.length k listed = true → wpQuiet P ops C QQ l a → wpAnyQ P .any ops C QQ l.length listed a
  | [], _, _, _, _, hB, h => ⟨by simpa [Region.lexFrom] using hB, h⟩
  | o :: l, k, listed, a, hl, hB, h => by
    have h0 : ops[k]? = some o := by simpa using (hl 0 (by simp)).symm
    simp only [List.length_cons, Region.lexFrom, Bool.and_eq_true] at hB
    obtain ⟨⟨hr, hf⟩, hB'⟩ := hB
    obtain ⟨v, hy, hK⟩ := yieldsIn_of_qOp h0 (show qOp P ops C k (wpQuiet P ops C QQ l) a by unfold qOp; simp only [h0]; exact h)
    exact wpAnyQ_first h0 (Region.noSelect_spec hs) l.length listed a (Region.free_spec h0 hf) (by simpa using hr) hy
      (lexH hs l (k + 1) _ _ (fun j hj => by have := hl (j + 1) (by simpa using hj); simpa [Nat.add_assoc, Nat.add_comm 1 j] using this) hB' hK)

def tailB (ops : Array Oper) (n : Nat) : Bool :=
  decide (n ≤ ops.size) && okB ops n && Region.noSelect ops && Region.lexFrom .any ops n 0 (Array.replicate n false ++ Array.replicate (ops.size - n) true)

/-- The region's law. n: how many operations are quiet. -/
theorem wp_region_tail {id : Nat} {a : Act} {w : World} {l : List Oper} (n : Nat) (hm : P.follows .mixedOrders = true) (hB : tailB l.toArray n = true) (hC : C { w with drawn := w.drawn + 1 })
    (h : wpQuiet P l.toArray C (fun a' => ∀ w', C w' → wpList P l.toArray Q (l.drop n) a' w') (l.take n) a) : (Code.region id l.toArray true).wp P Q a w := by
  simp only [tailB, Bool.and_eq_true, decide_eq_true_eq] at hB
  obtain ⟨⟨⟨hn, hok⟩, hs⟩, hlex⟩ := hB
  have hn' : n ≤ l.length := by simpa using hn
  have hl : (l.take n).length = n := by simp; omega
  refine wp_region_any hm ?_
  refine head_any (C := C) (QQ := fun a' => ∀ w', C w' → wpList P l.toArray Q (l.drop n) a' w') hn hok (fun a w hC h => by simpa using h w hC) n
    (Array.replicate n false ++ Array.replicate (l.toArray.size - n) true) (Array.replicate l.toArray.size false) a _ l.toArray.size (by omega) ?_ ?_ hC ?_
  · refine ⟨by simp; omega, by simp, fun i hi => ⟨fun h => ?_, fun h => ?_⟩⟩
    · have hi' : i < l.length := by simpa using hi
      simp [Array.getElem?_append, h, hi', Array.getElem?_replicate]
    · have hi' : i < l.length := by simpa using hi
      have h1 : ¬ i < n := by omega
      have h2 : i - n < l.length - n := by omega
      simp [Array.getElem?_append, h1, h2, hi', Array.getElem?_replicate]
  · intro j o hj hl
    have hj' := (Array.getElem?_eq_some_iff.1 hj).1
    have hj2 : j < l.length := by simpa using hj'
    have hf : (Array.replicate l.toArray.size false).getD j true = false := by simp [hj2]
    rw [hf] at hl
    cases hl
  · have := lexH (P := P) (C := C) hs (QQ := fun a' => ∀ w', C w' → wpList P l.toArray Q (l.drop n) a' w') (l.take n) 0 (Array.replicate n false ++ Array.replicate (l.toArray.size - n) true) a
      (fun j hj => by rw [hl] at hj; simp [hj]) (by rw [hl]; exact hlex) h
    rw [hl] at this; exact this

open Go.RowKit Go.Sort
/-- The same at the class of all worlds that have grown out of this one. -/
theorem wp_region_tail_grown {id : Nat} {a : Act} {w : World} {l : List Oper} (n : Nat) (hm : P.follows .mixedOrders = true) (hB : tailB l.toArray n = true)
    (h : wpQuiet P l.toArray (fun w' => ∃ p : Regrown, w' = grow (redrawn w p.d) p.os) (fun a' => ∀ w', (∃ p : Regrown, w' = grow (redrawn w p.d) p.os) → wpList P l.toArray Q (l.drop n) a' w') (l.take n) a) : (Code.region id l.toArray true).wp P Q a w :=
  wp_region_tail (C := fun w' => ∃ p : Regrown, w' = grow (redrawn w p.d) p.os) n hm hB ⟨⟨w.drawn + 1, #[]⟩, by rw [grow_empty]; rfl⟩ h
end Tail

theorem below_of_grown' {a b : World} (h : a.grownBy b none) : Go.RowKit.Below a.heap.size a b := ⟨h.os, h.tape, h.output, h.size, fun i hi => h.block i hi (by simp)⟩

open Go.Sort in
theorem grown_re (w : World) (d : Nat) (os : Array Obj) : w.grownBy (grow (redrawn w d) os) none := by
  have h := below_regrown w d os
  exact ⟨h.os, h.tape, h.output, h.size, fun k hk _ => h.block k hk⟩
open Go.Sort in
/-- A callee whose contract gives one value and a grown world. -/
theorem call_re {P : Program} {f : FuncId} {args : Array Value} {w : World} {v : Value}
    (h : ∀ w', w.grownBy w' none → Calls P f args w' fun e w'' => e = .returned v ∧ w'.grownBy w'' none) (d : Nat) (os : Array Obj) :
    Calls P f args (grow (redrawn w d) os) fun e w'' => e = .returned v ∧ ∃ p : Regrown, w'' = grow (redrawn w p.d) p.os :=
  Calls.regrown_of ((h _ (grown_re w d os)).mono fun _ _ ⟨he, hg⟩ => ⟨he, below_of_grown' hg⟩)
end Go.Proofs.Ytahpenpgpnggcaa
