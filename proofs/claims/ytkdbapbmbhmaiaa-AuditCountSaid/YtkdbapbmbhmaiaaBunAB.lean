/- Several texts in one file; each begins with a comment that says what is proved in it. -/
import Derived.Test.YtkdbapbmbhmaiaaRows
import Derived.WalkKit
import Derived.Deep.Quiet
import Derived.BigQuiet
import Derived.Lib.QuietBelow
import Derived.Test.YtkdbapbmbhmaiaaBunAA

/- A region that draws its order: all operations but the last ones are quiet in a class of worlds (they read, or they call what only grows the memory), and each of the last ones waits for all before it. The quiet ones are walked once, in the order of the text; the last ones follow as a plain list. -/
namespace Go.Proofs.Ytkdbapbmbhmaiaa
namespace Tail

variable {n : Nat} {P : Program} {ops : Array Oper} {C : World → Prop} {Q : Exit → Act → World → Prop}

/-- Operation j waits for i, by itself or through others. -/
def waitsB (ops : Array Oper) : Nat → Nat → Nat → Bool
  | 0, _, _ => false
  | f + 1, j, i => match ops[j]? with
    | none => false
    | some o => o.after.any fun e => Region.binds .any e && (e.on == i || waitsB ops f e.on i)

/-- Edges go back; each operation from n on waits for all before it. -/
def okB (ops : Array Oper) (n : Nat) : Bool :=
  (List.range ops.size).all fun j => match ops[j]? with
    | none => true
    | some o => (o.after.all fun e => !Region.binds .any e || decide (e.on < j)) &&
        (decide (j < n) || (List.range j).all fun i => waitsB ops 4 j i)

theorem back (h : okB ops n = true) {j : Nat} {o : Oper} (hj : ops[j]? = some o) : ∀ e ∈ o.after, Region.binds .any e = true → e.on < j := by
  intro e he hb
  have h1 := List.all_eq_true.1 h j (List.mem_range.2 (Array.getElem?_eq_some_iff.1 hj).1)
  simp only [hj, Bool.and_eq_true] at h1
  have h2 := Array.all_eq_true_iff_forall_mem.1 h1.1 e he
  simpa [hb] using h2
/-- What has come up has all it waits for. -/
def Closed (ops : Array Oper) (listed : Array Bool) : Prop := ∀ (j : Nat) (o : Oper), ops[j]? = some o → listed.getD j true = true → ∀ e ∈ o.after, Region.binds .any e = true → listed.getD e.on false = true
theorem reach {listed : Array Bool} (hc : Closed ops listed) : ∀ (f j i : Nat) (o : Oper), ops[j]? = some o → (∀ e ∈ o.after, Region.binds .any e = true → listed.getD e.on false = true) → waitsB ops f j i = true → listed.getD i false = true
  | 0, _, _, _, _, _, h => by simp [waitsB] at h
  | f + 1, j, i, o, hj, hd, h => by
    simp only [waitsB, hj] at h
    obtain ⟨e, he, h4⟩ := Array.any_eq_true'.1 h
    simp only [Bool.and_eq_true, Bool.or_eq_true, beq_iff_eq] at h4
    have h5 := hd e he h4.1
    rcases h4.2 with h6 | h6
    · rw [← h6]; exact h5
    · cases ho : ops[e.on]? with
      | none => cases f <;> simp [waitsB, ho] at h6
      | some o' =>
        refine reach hc f e.on i o' ho (hc e.on o' ho ?_) h6
        have : e.on < listed.size := by
          rcases Nat.lt_or_ge e.on listed.size with h' | h'
          · exact h'
          · simp [Array.getElem?_eq_none h'] at h5
        simp [this] at h5 ⊢; exact h5
theorem waits (h : okB ops n = true) {listed : Array Bool} (hc : Closed ops listed) {j : Nat} {o : Oper} (hj : ops[j]? = some o) (hn : n ≤ j) {i : Nat} (hi : i < j)
    (hd : ∀ e ∈ o.after, Region.binds .any e = true → listed.getD e.on false = true) : listed.getD i false = true := by
  have h1 := List.all_eq_true.1 h j (List.mem_range.2 (Array.getElem?_eq_some_iff.1 hj).1)
  simp only [hj, Bool.and_eq_true, Bool.or_eq_true, decide_eq_true_eq] at h1
  rcases h1.2 with h2 | h2
  · omega
  · exact reach hc 4 j i o hj hd (List.all_eq_true.1 h2 i (List.mem_range.2 hi))

/-- The operations below m have come up, the others not. -/
def Upto (listed : Array Bool) (N m : Nat) : Prop := listed.size = N ∧ ∀ i, i < N → listed.getD i true = decide (i < m)
theorem Upto.getF {listed : Array Bool} {N m : Nat} (h : Upto listed N m) {i : Nat} (hi : i < N) : listed.getD i false = decide (i < m) := by
  rw [← h.2 i hi]
  have : i < listed.size := by rw [h.1]; exact hi
  simp [this]
theorem Upto.closed {listed : Array Bool} {m : Nat} (hok : okB ops n = true) (h : Upto listed ops.size m) : Closed ops listed := by
  intro j o hj hl e he hb
  have h1 := back hok hj e he hb
  have h2 := (Array.getElem?_eq_some_iff.1 hj).1
  rw [h.2 j h2] at hl
  simp only [decide_eq_true_eq] at hl
  rw [h.getF (by omega)]
  simp; omega
theorem Upto.next {listed : Array Bool} {N m : Nat} (h : Upto listed N m) (_ : m < N) : Upto (listed.setIfInBounds m true) N (m + 1) := by
  refine ⟨by simp [h.1], fun i hi => ?_⟩
  by_cases e : m = i
  · subst e
    have : m < listed.size := by rw [h.1]; exact hi
    simp [this]
  · rw [getD_set_ne true e, h.2 i hi]
    simp; omega

theorem tail_any (hok : okB ops n = true) : ∀ (k m : Nat) (listed : Array Bool) (a : Act) (w : World) (fuel : Nat), n ≤ m → m + k = ops.size → k ≤ fuel → Upto listed ops.size m →
    wpList P ops Q (ops.toList.drop m) a w → wpAny P .any ops Q fuel listed a w := by
  intro k
  induction k with
  | zero =>
    intro m listed a w fuel hn hm hf hu h
    have hr : Region.ready .any ops listed = [] := by
      rw [List.eq_nil_iff_forall_not_mem]
      intro i hi
      rw [mem_ready] at hi
      obtain ⟨h0, o, ho, _⟩ := hi
      have hi' := (Array.getElem?_eq_some_iff.1 ho).1
      rw [hu.2 i hi'] at h0
      simp at h0; omega
    have hd : ops.toList.drop m = [] := List.drop_eq_nil_of_le (by simp; omega)
    rw [hd] at h
    cases fuel with
    | zero => exact ⟨hr, h⟩
    | succ f => exact ⟨fun _ => h, by rw [hr]; simp⟩
  | succ k ih =>
    intro m listed a w fuel hn hm hf hu h
    have hlt : m < ops.size := by omega
    have ho : ops[m]? = some ops[m] := Array.getElem?_eq_getElem hlt
    have hin : m ∈ Region.ready .any ops listed := by
      rw [mem_ready]
      refine ⟨by rw [hu.2 m hlt]; simp, _, ho, fun e he hb => ?_⟩
      have := back hok ho e he hb
      rw [hu.getF (by omega)]; simpa using this
    have hall : ∀ i ∈ Region.ready .any ops listed, i = m := by
      intro i hi
      rw [mem_ready] at hi
      obtain ⟨h0, o, hoi, hdep⟩ := hi
      have hi' := (Array.getElem?_eq_some_iff.1 hoi).1
      rw [hu.2 i hi'] at h0
      simp at h0
      by_cases e : i = m
      · exact e
      · exfalso
        have := waits hok (hu.closed hok) hoi (by omega) (show m < i by omega) hdep
        rw [hu.getF hlt] at this
        simp at this
    cases fuel with
    | zero => omega
    | succ f =>
      refine ⟨fun h0 => (by rw [h0] at hin; cases hin), fun i hi => ?_⟩
      rw [hall i hi]
      have hd : ops.toList.drop m = ops[m] :: ops.toList.drop (m + 1) := by
        rw [List.drop_eq_getElem_cons (by simpa using hlt)]; simp
      rw [hd] at h
      have h' : wpOp P ops Q m (wpList P ops Q (ops.toList.drop (m + 1))) a w := by
        unfold wpOp; simp only [ho]; exact h
      exact wpOp_mono (fun a' w' hk => ih (m + 1) _ a' w' f (by omega) (by omega) (by omega) (hu.next hlt) hk) h'

/-- The two lists of what has come up: for the quiet walk the last ones count as done. -/
def Pair (n N : Nat) (lt lf : Array Bool) : Prop := lt.size = N ∧ lf.size = N ∧ ∀ i, i < N → (i < n → lt.getD i true = lf.getD i true) ∧ (n ≤ i → lt.getD i true = true ∧ lf.getD i true = false)

theorem getF_of {l : Array Bool} {N i : Nat} (h : l.size = N) (hi : i < N) : l.getD i false = l.getD i true := by
  have : i < l.size := by rw [h]; exact hi
  simp [this]

/-- A ready operation comes up. -/
theorem Closed.next {lf : Array Bool} (hc : Closed ops lf) (_ : okB ops n = true) {i : Nat} (hi : i ∈ Region.ready .any ops lf) : Closed ops (lf.setIfInBounds i true) := by
  obtain ⟨_, o, ho, hd⟩ := mem_ready.1 hi
  intro j o' hj hl e he hb
  refine getD_set_true ?_
  by_cases h : i = j
  · subst h; rw [ho] at hj; cases hj; exact hd e he hb
  · rw [getD_set_ne true h] at hl; exact hc j o' hj hl e he hb

theorem head_any (hn : n ≤ ops.size) (hok : okB ops n = true) {QQ : Act → Prop} (hQ : ∀ a w, C w → QQ a → wpList P ops Q (ops.toList.drop n) a w) :
    ∀ (fuel : Nat) (lt lf : Array Bool) (a : Act) (w : World) (fuel' : Nat), fuel + (ops.size - n) ≤ fuel' → Pair n ops.size lt lf → Closed ops lf → C w → wpAnyQ P .any ops C QQ fuel lt a → wpAny P .any ops Q fuel' lf a w := by
  intro fuel
  -- if nothing is ready in the quiet walk, all of the head has come up
  have done : ∀ (lt lf : Array Bool), Pair n ops.size lt lf → Region.ready .any ops lt = [] → Upto lf ops.size n := by
    intro lt lf hp hr
    refine ⟨hp.2.1, ?_⟩
    have key : ∀ i, i < n → lf.getD i true = true := by
      intro i
      induction i using Nat.strongRecOn with
      | _ i ih =>
        intro hi
        have hlt : i < ops.size := by omega
        cases hv : lf.getD i true with
        | true => rfl
        | false =>
          exfalso
          have hin : i ∈ Region.ready .any ops lt := by
            rw [mem_ready]
            refine ⟨by rw [(hp.2.2 i hlt).1 hi, hv], _, Array.getElem?_eq_getElem hlt, fun e he hb => ?_⟩
            have hb' := back hok (Array.getElem?_eq_getElem hlt) e he hb
            rw [getF_of hp.1 (show e.on < ops.size by omega), (hp.2.2 e.on (by omega)).1 (by omega)]
            exact ih e.on hb' (by omega)
          rw [hr] at hin; cases hin
    intro i hi
    by_cases h : i < n
    · rw [key i h]; simpa using h
    · rw [((hp.2.2 i hi).2 (by omega)).2]; simpa using h
  induction fuel with
  | zero =>
    intro lt lf a w fuel' hf hp hcl hC h
    exact tail_any hok (ops.size - n) n lf a w fuel' (Nat.le_refl _) (by omega) (by omega) (done lt lf hp h.1) (hQ a w hC h.2)
  | succ fuel ih =>
    intro lt lf a w fuel' hf hp hcl hC h
    by_cases hr : Region.ready .any ops lt = []
    · exact tail_any hok (ops.size - n) n lf a w fuel' (Nat.le_refl _) (by omega) (by omega) (done lt lf hp hr) (hQ a w hC (h.1 hr))
    · obtain ⟨i0, hi0⟩ := List.exists_mem_of_ne_nil _ hr
      have h0 := mem_ready.1 hi0
      obtain ⟨hun, o0, ho0, hd0⟩ := h0
      have hi0n : i0 < n := by
        rcases Nat.lt_or_ge i0 n with h' | h'
        · exact h'
        · have := ((hp.2.2 i0 (Array.getElem?_eq_some_iff.1 ho0).1).2 h').1
          rw [this] at hun; cases hun
      have hi0s := (Array.getElem?_eq_some_iff.1 ho0).1
      -- what is ready in the one is ready in the other
      have hsub : ∀ i ∈ Region.ready .any ops lf, i < n ∧ i ∈ Region.ready .any ops lt := by
        intro i hi
        obtain ⟨hu, o, ho, hd⟩ := mem_ready.1 hi
        have his := (Array.getElem?_eq_some_iff.1 ho).1
        rcases Nat.lt_or_ge i n with h' | h'
        · refine ⟨h', mem_ready.2 ⟨by rw [(hp.2.2 i his).1 h']; exact hu, o, ho, fun e he hb => ?_⟩⟩
          have hb' := back hok ho e he hb
          rw [getF_of hp.1 (by omega), (hp.2.2 e.on (by omega)).1 (by omega), ← getF_of hp.2.1 (by omega)]
          exact hd e he hb
        · exfalso
          have := waits hok hcl ho h' (show i0 < i by omega) hd
          rw [getF_of hp.2.1 hi0s, ← (hp.2.2 i0 hi0s).1 hi0n, hun] at this
          cases this
      have hrf : i0 ∈ Region.ready .any ops lf := by
        refine mem_ready.2 ⟨by rw [← (hp.2.2 i0 hi0s).1 hi0n]; exact hun, o0, ho0, fun e he hb => ?_⟩
        have hb' := back hok ho0 e he hb
        rw [getF_of hp.2.1 (by omega), ← (hp.2.2 e.on (by omega)).1 (by omega), ← getF_of hp.1 (by omega)]
        exact hd0 e he hb
      cases fuel' with
      | zero => omega
      | succ f =>
        refine ⟨fun h0 => (by rw [h0] at hrf; cases hrf), fun i hi => ?_⟩
        obtain ⟨hin, hil⟩ := hsub i hi
        refine wpOp_of_qOp (C := C) hC (fun a' w' hC' hk => ih _ _ a' w' f (by omega) ?_ (hcl.next hok hi) hC' hk) (h.2 i hil)
        refine ⟨by simp [hp.1], by simp [hp.2.1], fun j hj => ?_⟩
        by_cases e : i = j
        · subst e
          have q1 : i < lt.size := by rw [hp.1]; exact hj
          have q2 : i < lf.size := by rw [hp.2.1]; exact hj
          exact ⟨fun _ => by simp [q1, q2], fun h => by omega⟩
        · rw [getD_set_ne true e, getD_set_ne true e]; exact hp.2.2 j hj

theorem lexH (hs : Region.noSelect ops = true) {QQ : Act → Prop} : ∀ (l : List Oper) (k : Nat) (listed : Array Bool) (a : Act), (∀ j, j < l.length → l[j]? = ops[k + j]?) →
    Region.lexFrom .any ops l.length k listed = true → wpQuiet P ops C QQ l a → wpAnyQ P .any ops C QQ l.length listed a
  | [], _, _, _, _, hB, h => ⟨by simpa [Region.lexFrom] using hB, h⟩
  | o :: l, k, listed, a, hl, hB, h => by
    have h0 : ops[k]? = some o := by simpa using (hl 0 (by simp)).symm
    simp only [List.length_cons, Region.lexFrom, Bool.and_eq_true] at hB
    obtain ⟨⟨hr, hf⟩, hB'⟩ := hB
    obtain ⟨v, hy, hK⟩ := yieldsIn_of_qOp h0 (show qOp P ops C k (wpQuiet P ops C QQ l) a by unfold qOp; simp only [h0]; exact h)
    exact wpAnyQ_first h0 (Region.noSelect_spec hs) l.length listed a (Region.free_spec h0 hf) (by simpa using hr) hy
      (lexH hs l (k + 1) _ _ (fun j hj => by have := hl (j + 1) (by simpa using hj); simpa [Nat.add_assoc, Nat.add_comm 1 j] using this) hB' hK)

def tailB (ops : Array Oper) (n : Nat) : Bool :=
  decide (n ≤ ops.size) && okB ops n && Region.noSelect ops && Region.lexFrom .any ops n 0 (Array.replicate n false ++ Array.replicate (ops.size - n) true)

/-- The region's law. n: how many operations are quiet. -/
theorem wp_region_tail {id : Nat} {a : Act} {w : World} {l : List Oper} (n : Nat) (hm : P.follows .mixedOrders = true) (hB : tailB l.toArray n = true) (hC : C { w with drawn := w.drawn + 1 })
    (h : wpQuiet P l.toArray C (fun a' => ∀ w', C w' → wpList P l.toArray Q (l.drop n) a' w') (l.take n) a) : (Code.region id l.toArray true).wp P Q a w := by
  simp only [tailB, Bool.and_eq_true, decide_eq_true_eq] at hB
  obtain ⟨⟨⟨hn, hok⟩, hs⟩, hlex⟩ := hB
  have hn' : n ≤ l.length := by simpa using hn
  have hl : (l.take n).length = n := by simp; omega
  refine wp_region_any hm ?_
  refine head_any (C := C) (QQ := fun a' => ∀ w', C w' → wpList P l.toArray Q (l.drop n) a' w') hn hok (fun a w hC h => by simpa using h w hC) n
    (Array.replicate n false ++ Array.replicate (l.toArray.size - n) true) (Array.replicate l.toArray.size false) a _ l.toArray.size (by omega) ?_ ?_ hC ?_
  · refine ⟨by simp; omega, by simp, fun i hi => ⟨fun h => ?_, fun h => ?_⟩⟩
    · have hi' : i < l.length := by simpa using hi
      simp [Array.getElem?_append, h, hi']
    · have hi' : i < l.length := by simpa using hi
      have h1 : ¬ i < n := by omega
      have h2 : i - n < l.length - n := by omega
      simp [Array.getElem?_append, h1, h2, hi']
  · intro j o hj hl
    have hj' := (Array.getElem?_eq_some_iff.1 hj).1
    have hj2 : j < l.length := by simpa using hj'
    have hf : (Array.replicate l.toArray.size false).getD j true = false := by simp [hj2]
    rw [hf] at hl
    cases hl
  · have := lexH (P := P) (C := C) hs (QQ := fun a' => ∀ w', C w' → wpList P l.toArray Q (l.drop n) a' w') (l.take n) 0 (Array.replicate n false ++ Array.replicate (l.toArray.size - n) true) a
      (fun j hj => by rw [hl] at hj; simp [hj]) (by rw [hl]; exact hlex) h
    rw [hl] at this; exact this


/-! The same from a point where some operations, which need no memory, have come up already. -/
/-- Edges go back; each operation from n on waits for all before it that have not come up already. -/
def okP (ops : Array Oper) (n : Nat) (pre : Array Bool) : Bool :=
  (List.range ops.size).all fun j => match ops[j]? with
    | none => true
    | some o => (o.after.all fun e => !Region.binds .any e || decide (e.on < j)) &&
        (decide (j < n) || (List.range j).all fun i => (decide (i < n) && pre.getD i false) || waitsB ops 4 j i)
theorem backP {pre : Array Bool} (h : okP ops n pre = true) {j : Nat} {o : Oper} (hj : ops[j]? = some o) : ∀ e ∈ o.after, Region.binds .any e = true → e.on < j := by
  intro e he hb
  have h1 := List.all_eq_true.1 h j (List.mem_range.2 (Array.getElem?_eq_some_iff.1 hj).1)
  simp only [hj, Bool.and_eq_true] at h1
  have h2 := Array.all_eq_true_iff_forall_mem.1 h1.1 e he
  simpa [hb] using h2
theorem waitsP {pre : Array Bool} (h : okP ops n pre = true) {listed : Array Bool} (hc : Closed ops listed) {j : Nat} {o : Oper} (hj : ops[j]? = some o) (hn : n ≤ j) {i : Nat} (hi : i < j) (hp : i < n → pre.getD i false = false)
    (hd : ∀ e ∈ o.after, Region.binds .any e = true → listed.getD e.on false = true) : listed.getD i false = true := by
  have h1 := List.all_eq_true.1 h j (List.mem_range.2 (Array.getElem?_eq_some_iff.1 hj).1)
  simp only [hj, Bool.and_eq_true, Bool.or_eq_true, decide_eq_true_eq] at h1
  rcases h1.2 with h2 | h2
  · omega
  · have h3 := List.all_eq_true.1 h2 i (List.mem_range.2 hi)
    simp only [Bool.and_eq_true, Bool.or_eq_true, decide_eq_true_eq] at h3
    rcases h3 with ⟨h4, h5⟩ | h4
    · rw [hp h4] at h5; cases h5
    · exact reach hc 4 j i o hj hd h4
theorem Upto.closedP {listed pre : Array Bool} {m : Nat} (hok : okP ops n pre = true) (h : Upto listed ops.size m) : Closed ops listed := by
  intro j o hj hl e he hb
  have h1 := backP hok hj e he hb
  have h2 := (Array.getElem?_eq_some_iff.1 hj).1
  rw [h.2 j h2] at hl
  simp only [decide_eq_true_eq] at hl
  rw [h.getF (by omega)]
  simp; omega
theorem tail_anyP {pre : Array Bool} (hok : okP ops n pre = true) : ∀ (k m : Nat) (listed : Array Bool) (a : Act) (w : World) (fuel : Nat), n ≤ m → m + k = ops.size → k ≤ fuel → Upto listed ops.size m →
    wpList P ops Q (ops.toList.drop m) a w → wpAny P .any ops Q fuel listed a w := by
  intro k
  induction k with
  | zero =>
    intro m listed a w fuel hn hm hf hu h
    have hr : Region.ready .any ops listed = [] := by
      rw [List.eq_nil_iff_forall_not_mem]
      intro i hi
      rw [mem_ready] at hi
      obtain ⟨h0, o, ho, _⟩ := hi
      have hi' := (Array.getElem?_eq_some_iff.1 ho).1
      rw [hu.2 i hi'] at h0
      simp at h0; omega
    have hd : ops.toList.drop m = [] := List.drop_eq_nil_of_le (by simp; omega)
    rw [hd] at h
    cases fuel with
    | zero => exact ⟨hr, h⟩
    | succ f => exact ⟨fun _ => h, by rw [hr]; simp⟩
  | succ k ih =>
    intro m listed a w fuel hn hm hf hu h
    have hlt : m < ops.size := by omega
    have ho : ops[m]? = some ops[m] := Array.getElem?_eq_getElem hlt
    have hin : m ∈ Region.ready .any ops listed := by
      rw [mem_ready]
      refine ⟨by rw [hu.2 m hlt]; simp, _, ho, fun e he hb => ?_⟩
      have := backP hok ho e he hb
      rw [hu.getF (by omega)]; simpa using this
    have hall : ∀ i ∈ Region.ready .any ops listed, i = m := by
      intro i hi
      rw [mem_ready] at hi
      obtain ⟨h0, o, hoi, hdep⟩ := hi
      have hi' := (Array.getElem?_eq_some_iff.1 hoi).1
      rw [hu.2 i hi'] at h0
      simp at h0
      by_cases e : i = m
      · exact e
      · exfalso
        have := waitsP hok (hu.closedP hok) hoi (by omega) (show m < i by omega) (fun h => by omega) hdep
        rw [hu.getF hlt] at this
        simp at this
    cases fuel with
    | zero => omega
    | succ f =>
      refine ⟨fun h0 => (by rw [h0] at hin; cases hin), fun i hi => ?_⟩
      rw [hall i hi]
      have hd : ops.toList.drop m = ops[m] :: ops.toList.drop (m + 1) := by
        rw [List.drop_eq_getElem_cons (by simpa using hlt)]; simp
      rw [hd] at h
      have h' : wpOp P ops Q m (wpList P ops Q (ops.toList.drop (m + 1))) a w := by
        unfold wpOp; simp only [ho]; exact h
      exact wpOp_mono (fun a' w' hk => ih (m + 1) _ a' w' f (by omega) (by omega) (by omega) (hu.next hlt) hk) h'

theorem Closed.next' {lf : Array Bool} (hc : Closed ops lf) {i : Nat} (hi : i ∈ Region.ready .any ops lf) : Closed ops (lf.setIfInBounds i true) := by
  obtain ⟨_, o, ho, hd⟩ := mem_ready.1 hi
  intro j o' hj hl e he hb
  refine getD_set_true ?_
  by_cases h : i = j
  · subst h; rw [ho] at hj; cases hj; exact hd e he hb
  · rw [getD_set_ne true h] at hl; exact hc j o' hj hl e he hb
theorem head_anyP {pre : Array Bool} (hn : n ≤ ops.size) (hok : okP ops n pre = true) {QQ : Act → Prop} (hQ : ∀ a w, C w → QQ a → wpList P ops Q (ops.toList.drop n) a w) :
    ∀ (fuel : Nat) (lt lf : Array Bool) (a : Act) (w : World) (fuel' : Nat), fuel + (ops.size - n) ≤ fuel' → Pair n ops.size lt lf → Closed ops lf → (∀ i, i < n → pre.getD i false = true → lf.getD i true = true) → C w → wpAnyQ P .any ops C QQ fuel lt a → wpAny P .any ops Q fuel' lf a w := by
  intro fuel
  have done : ∀ (lt lf : Array Bool), Pair n ops.size lt lf → Region.ready .any ops lt = [] → Upto lf ops.size n := by
    intro lt lf hp hr
    refine ⟨hp.2.1, ?_⟩
    have key : ∀ i, i < n → lf.getD i true = true := by
      intro i
      induction i using Nat.strongRecOn with
      | _ i ih =>
        intro hi
        have hlt : i < ops.size := by omega
        cases hv : lf.getD i true with
        | true => rfl
        | false =>
          exfalso
          have hin : i ∈ Region.ready .any ops lt := by
            rw [mem_ready]
            refine ⟨by rw [(hp.2.2 i hlt).1 hi, hv], _, Array.getElem?_eq_getElem hlt, fun e he hb => ?_⟩
            have hb' := backP hok (Array.getElem?_eq_getElem hlt) e he hb
            rw [getF_of hp.1 (show e.on < ops.size by omega), (hp.2.2 e.on (by omega)).1 (by omega)]
            exact ih e.on hb' (by omega)
          rw [hr] at hin; cases hin
    intro i hi
    by_cases h : i < n
    · rw [key i h]; simpa using h
    · rw [((hp.2.2 i hi).2 (by omega)).2]; simpa using h
  induction fuel with
  | zero =>
    intro lt lf a w fuel' hf hp hcl hpre hC h
    exact tail_anyP hok (ops.size - n) n lf a w fuel' (Nat.le_refl _) (by omega) (by omega) (done lt lf hp h.1) (hQ a w hC h.2)
  | succ fuel ih =>
    intro lt lf a w fuel' hf hp hcl hpre hC h
    by_cases hr : Region.ready .any ops lt = []
    · exact tail_anyP hok (ops.size - n) n lf a w fuel' (Nat.le_refl _) (by omega) (by omega) (done lt lf hp hr) (hQ a w hC (h.1 hr))
    · obtain ⟨i0, hi0⟩ := List.exists_mem_of_ne_nil _ hr
      have h0 := mem_ready.1 hi0
      obtain ⟨hun, o0, ho0, hd0⟩ := h0
      have hi0n : i0 < n := by
        rcases Nat.lt_or_ge i0 n with h' | h'
        · exact h'
        · have := ((hp.2.2 i0 (Array.getElem?_eq_some_iff.1 ho0).1).2 h').1
          rw [this] at hun; cases hun
      have hi0s := (Array.getElem?_eq_some_iff.1 ho0).1
      have hp0 : pre.getD i0 false = false := by
        cases hv : pre.getD i0 false with
        | false => rfl
        | true =>
          have := hpre i0 hi0n hv
          rw [← (hp.2.2 i0 hi0s).1 hi0n, hun] at this; cases this
      have hsub : ∀ i ∈ Region.ready .any ops lf, i < n ∧ i ∈ Region.ready .any ops lt := by
        intro i hi
        obtain ⟨hu, o, ho, hd⟩ := mem_ready.1 hi
        have his := (Array.getElem?_eq_some_iff.1 ho).1
        rcases Nat.lt_or_ge i n with h' | h'
        · refine ⟨h', mem_ready.2 ⟨by rw [(hp.2.2 i his).1 h']; exact hu, o, ho, fun e he hb => ?_⟩⟩
          have hb' := backP hok ho e he hb
          rw [getF_of hp.1 (by omega), (hp.2.2 e.on (by omega)).1 (by omega), ← getF_of hp.2.1 (by omega)]
          exact hd e he hb
        · exfalso
          have := waitsP hok hcl ho h' (show i0 < i by omega) (fun _ => hp0) hd
          rw [getF_of hp.2.1 hi0s, ← (hp.2.2 i0 hi0s).1 hi0n, hun] at this
          cases this
      have hrf : i0 ∈ Region.ready .any ops lf := by
        refine mem_ready.2 ⟨by rw [← (hp.2.2 i0 hi0s).1 hi0n]; exact hun, o0, ho0, fun e he hb => ?_⟩
        have hb' := backP hok ho0 e he hb
        rw [getF_of hp.2.1 (by omega), ← (hp.2.2 e.on (by omega)).1 (by omega), ← getF_of hp.1 (by omega)]
        exact hd0 e he hb
      cases fuel' with
      | zero => omega
      | succ f =>
        refine ⟨fun h0 => (by rw [h0] at hrf; cases hrf), fun i hi => ?_⟩
        obtain ⟨hin, hil⟩ := hsub i hi
        refine wpOp_of_qOp (C := C) hC (fun a' w' hC' hk => ih _ _ a' w' f (by omega) ?_ (hcl.next' hi) ?_ hC' hk) (h.2 i hil)
        · refine ⟨by simp [hp.1], by simp [hp.2.1], fun j hj => ?_⟩
          by_cases e : i = j
          · subst e
            have q1 : i < lt.size := by rw [hp.1]; exact hj
            have q2 : i < lf.size := by rw [hp.2.1]; exact hj
            exact ⟨fun _ => by simp [q1, q2], fun h => by omega⟩
          · rw [getD_set_ne true e, getD_set_ne true e]; exact hp.2.2 j hj
        · intro j hj hpj
          by_cases e : i = j
          · subst e
            have q2 : i < lf.size := by rw [hp.2.1]; omega
            simp [q2]
          · rw [getD_set_ne true e]; exact hpre j hj hpj

/-- The operations at the places where the mask says so. -/
def pickL : List Oper → List Bool → List Oper
  | o :: l, true :: m => o :: pickL l m
  | _ :: l, false :: m => pickL l m
  | _, _ => []
def lexM (ops : Array Oper) : Nat → List Bool → Array Bool → Bool
  | _, [], listed => (Region.ready .any ops listed).isEmpty
  | k, true :: m, listed => (Region.ready .any ops listed).contains k && Region.free .any ops listed k && lexM ops (k + 1) m (listed.setIfInBounds k true)
  | k, false :: m, listed => lexM ops (k + 1) m listed
theorem lexP (hs : Region.noSelect ops = true) {QQ : Act → Prop} : ∀ (m : List Bool) (l : List Oper) (k : Nat) (listed : Array Bool) (a : Act), m.length = l.length → (∀ j, j < l.length → l[j]? = ops[k + j]?) →
    lexM ops k m listed = true → wpQuiet P ops C QQ (pickL l m) a → wpAnyQ P .any ops C QQ (pickL l m).length listed a
  | [], l, k, listed, a, hlen, _, hB, h => by
    have : l = [] := List.eq_nil_of_length_eq_zero (by simpa using hlen.symm)
    subst this
    exact ⟨by simpa [lexM] using hB, h⟩
  | b :: m, [], k, listed, a, hlen, _, _, _ => by simp at hlen
  | true :: m, o :: l, k, listed, a, hlen, hl, hB, h => by
    have h0 : ops[k]? = some o := by simpa using (hl 0 (by simp)).symm
    simp only [lexM, Bool.and_eq_true] at hB
    obtain ⟨⟨hr, hf⟩, hB'⟩ := hB
    simp only [pickL] at h ⊢
    obtain ⟨v, hy, hK⟩ := yieldsIn_of_qOp h0 (show qOp P ops C k (wpQuiet P ops C QQ (pickL l m)) a by unfold qOp; simp only [h0]; exact h)
    exact wpAnyQ_first h0 (Region.noSelect_spec hs) (pickL l m).length listed a (Region.free_spec h0 hf) (by simpa using hr) hy
      (lexP hs m l (k + 1) _ _ (by simpa using hlen) (fun j hj => by have := hl (j + 1) (by simpa using hj); simpa [Nat.add_assoc, Nat.add_comm 1 j] using this) hB' hK)
  | false :: m, o :: l, k, listed, a, hlen, hl, hB, h => by
    simp only [lexM] at hB
    simp only [pickL] at h ⊢
    exact lexP hs m l (k + 1) _ _ (by simpa using hlen) (fun j hj => by have := hl (j + 1) (by simpa using hj); simpa [Nat.add_assoc, Nat.add_comm 1 j] using this) hB h

/-- What has come up is closed. -/
def closedB (ops : Array Oper) (listed : Array Bool) : Bool :=
  (List.range ops.size).all fun j => match ops[j]? with
    | none => true
    | some o => !listed.getD j true || o.after.all fun e => !Region.binds .any e || listed.getD e.on false
theorem closed_of {listed : Array Bool} (h : closedB ops listed = true) : Closed ops listed := by
  intro j o hj hl e he hb
  have h1 := List.all_eq_true.1 h j (List.mem_range.2 (Array.getElem?_eq_some_iff.1 hj).1)
  simp only [hj, hl, Bool.not_true, Bool.false_or] at h1
  have h2 := Array.all_eq_true_iff_forall_mem.1 h1 e he
  simpa [hb] using h2
def preT (n N : Nat) (pre : Array Bool) : Array Bool := ((List.range N).map fun i => decide (n ≤ i) || pre.getD i true).toArray
def tailP (ops : Array Oper) (n : Nat) (m : List Bool) (listed : Array Bool) (fuel : Nat) : Bool :=
  decide (n ≤ ops.size) && okP ops n listed && Region.noSelect ops && lexM ops 0 m (preT n ops.size listed) && closedB ops listed && decide (m.length = n) && decide (listed.size = ops.size) &&
    (List.range ops.size).all (fun i => decide (i < n) || !listed.getD i true) && decide (m.count true + (ops.size - n) ≤ fuel)

theorem pickL_len : ∀ (l : List Oper) (m : List Bool), m.length ≤ l.length → (pickL l m).length = m.count true
  | _, [], _ => by cases ‹List Oper› <;> rfl
  | [], b :: m, h => by simp at h
  | o :: l, true :: m, h => by simp [pickL, pickL_len l m (by simpa using h)]
  | o :: l, false :: m, h => by simp [pickL, pickL_len l m (by simpa using h)]

/-- The law from a point where some operations have come up. m: which of the first n ones have not. -/
theorem wpAny_tailP {l : List Oper} {a : Act} {w : World} {listed : Array Bool} {fuel : Nat} (n : Nat) (m : List Bool) (hB : tailP l.toArray n m listed fuel = true) (hC : C w)
    (h : wpQuiet P l.toArray C (fun a' => ∀ w', C w' → wpList P l.toArray Q (l.drop n) a' w') (pickL (l.take n) m) a) : wpAny P .any l.toArray Q fuel listed a w := by
  simp only [tailP, Bool.and_eq_true, decide_eq_true_eq] at hB
  obtain ⟨⟨⟨⟨⟨⟨⟨⟨hn, hok⟩, hs⟩, hlex⟩, hcl⟩, hml⟩, hsz⟩, htl⟩, hf⟩ := hB
  have hn' : n ≤ l.length := by simpa using hn
  have hl : (l.take n).length = n := by simp; omega
  have hpl : (pickL (l.take n) m).length = m.count true := pickL_len _ _ (by omega)
  refine head_anyP (C := C) (QQ := fun a' => ∀ w', C w' → wpList P l.toArray Q (l.drop n) a' w') hn hok (fun a w hC h => by simpa using h w hC) (m.count true)
    (preT n l.toArray.size listed) listed a w fuel hf ?_ (closed_of hcl) ?_ hC ?_
  · refine ⟨by simp [preT], hsz, fun i hi => ?_⟩
    have e : (preT n l.toArray.size listed).getD i true = (decide (n ≤ i) || listed.getD i true) := by
      have hi' : i < l.length := by simpa using hi
      simp [preT, Array.getD_eq_getD_getElem?, List.getElem?_map, List.getElem?_range hi']
    refine ⟨fun h => ?_, fun h => ?_⟩
    · rw [e, decide_eq_false (by omega)]; rfl
    · have h1 := List.all_eq_true.1 htl i (List.mem_range.2 hi)
      simp only [Bool.or_eq_true, decide_eq_true_eq, Bool.not_eq_true'] at h1
      refine ⟨by rw [e, decide_eq_true h]; rfl, ?_⟩
      rcases h1 with h1 | h1
      · omega
      · exact h1
  · intro i hi hp
    have : i < listed.size := by rw [hsz]; omega
    simp [this] at hp ⊢; exact hp
  · have := lexP (P := P) (C := C) hs (QQ := fun a' => ∀ w', C w' → wpList P l.toArray Q (l.drop n) a' w') m (l.take n) 0 (preT n l.toArray.size listed) a (by omega)
      (fun j hj => by rw [hl] at hj; simp [hj]) hlex h
    rw [hpl] at this; exact this

/-- An operation that needs no memory comes up; the slot d that it writes is told. -/
theorem take_put {md : Region.Mode} (i d : Nat) (v : Value) {oi : Oper} {fuel : Nat} {listed : Array Bool} {a : Act} {w : World} (hi : ops[i]? = some oi) (hd : oi.dst = some d)
    (hs : Region.noSelect ops = true) (hf : Region.free md ops listed i = true) (hr : (Region.ready md ops listed).contains i = true)
    (hQ : ∀ c a w, Q (.panic c) (a.put oi.dst v) w → Q (.panic c) a w) (hy : Yields P ops oi v a)
    (h : wpAny P md ops Q fuel (listed.setIfInBounds i true) ⟨a.tmps.setIfInBounds d v, a.defers⟩ w) : wpAny P md ops Q (fuel + 1) listed a w :=
  wpAny_take hi hs hf hr hQ hy (by unfold Act.put; rw [hd]; exact h)

open Go.RowKit Go.Sort
/-- The same at the class of all worlds that have grown out of this one. -/
theorem wp_region_tail_grown {id : Nat} {a : Act} {w : World} {l : List Oper} (n : Nat) (hm : P.follows .mixedOrders = true) (hB : tailB l.toArray n = true)
    (h : wpQuiet P l.toArray (fun w' => ∃ p : Regrown, w' = grow (redrawn w p.d) p.os) (fun a' => ∀ w', (∃ p : Regrown, w' = grow (redrawn w p.d) p.os) → wpList P l.toArray Q (l.drop n) a' w') (l.take n) a) : (Code.region id l.toArray true).wp P Q a w :=
  wp_region_tail (C := fun w' => ∃ p : Regrown, w' = grow (redrawn w p.d) p.os) n hm hB ⟨⟨w.drawn + 1, #[]⟩, by rw [grow_empty]; rfl⟩ h
theorem wpAny_tail_grown {a : Act} {w : World} {l : List Oper} {listed : Array Bool} {fuel : Nat} (n : Nat) (m : List Bool) (hB : tailP l.toArray n m listed fuel = true)
    (h : wpQuiet P l.toArray (fun w' => ∃ p : Regrown, w' = grow (redrawn w p.d) p.os) (fun a' => ∀ w', (∃ p : Regrown, w' = grow (redrawn w p.d) p.os) → wpList P l.toArray Q (l.drop n) a' w') (pickL (l.take n) m) a) : wpAny P .any l.toArray Q fuel listed a { w with drawn := w.drawn + 1 } :=
  wpAny_tailP (C := fun w' => ∃ p : Regrown, w' = grow (redrawn w p.d) p.os) n m hB ⟨⟨w.drawn + 1, #[]⟩, by rw [grow_empty]; rfl⟩ h
/-- The same at the class of all worlds that are this one but for draws. -/
theorem wp_region_tail_drawn {id : Nat} {a : Act} {w : World} {l : List Oper} (n : Nat) (hm : P.follows .mixedOrders = true) (hB : tailB l.toArray n = true)
    (h : wpQuiet P l.toArray (fun w' => ∃ k, w' = w.drewN k) (fun a' => ∀ w', (∃ k, w' = w.drewN k) → wpList P l.toArray Q (l.drop n) a' w') (l.take n) a) : (Code.region id l.toArray true).wp P Q a w :=
  wp_region_tail (C := fun w' => ∃ k, w' = w.drewN k) n hm hB ⟨1, rfl⟩ h
end Tail

theorem below_of_grown' {a b : World} (h : a.grownBy b none) : Go.RowKit.Below a.heap.size a b := ⟨h.os, h.tape, h.output, h.size, fun i hi => h.block i hi (by simp)⟩

open Go.Sort in
theorem grown_re (w : World) (d : Nat) (os : Array Obj) : w.grownBy (grow (redrawn w d) os) none := by
  have h := below_regrown w d os
  exact ⟨h.os, h.tape, h.output, h.size, fun k hk _ => h.block k hk⟩
open Go.Sort in
/-- A callee whose contract gives one value and a grown world. -/
theorem call_re {P : Program} {f : FuncId} {args : Array Value} {w : World} {v : Value}
    (h : ∀ w', w.grownBy w' none → Calls P f args w' fun e w'' => e = .returned v ∧ w'.grownBy w'' none) (d : Nat) (os : Array Obj) :
    Calls P f args (grow (redrawn w d) os) fun e w'' => e = .returned v ∧ ∃ p : Regrown, w'' = grow (redrawn w p.d) p.os :=
  Calls.regrown_of ((h _ (grown_re w d os)).mono fun _ _ ⟨he, hg⟩ => ⟨he, below_of_grown' hg⟩)
end Go.Proofs.Ytkdbapbmbhmaiaa

/- A block of the call's own that is known whole. -/
namespace Go.Proofs.Ytkdbapbmbhmaiaa
open Go.RowKit

structure Blk (w : World) (g : Nat) (cs : Array Value) : Prop where
  blk : ∃ t, w.heap[g]? = some (.cells cs t (0, 0))
theorem Blk.lt {w : World} {g : Nat} {cs : Array Value} (h : Blk w g cs) : g < w.heap.size := by
  obtain ⟨t, h⟩ := h.blk; exact (Array.getElem?_eq_some_iff.1 h).1
theorem Blk.cell {w : World} {g : Nat} {cs : Array Value} (h : Blk w g cs) (i : Nat) : w.cell? ⟨g, i, none⟩ = cs[i]? := by
  obtain ⟨t, h⟩ := h.blk; simp [World.cell?, h]
theorem Blk.free {w : World} {g : Nat} {cs : Array Value} (h : Blk w g cs) (i : Nat) : w.frozen? ⟨g, i, none⟩ = false := by
  obtain ⟨t, h⟩ := h.blk; simp [World.frozen?, h]
theorem Blk.kept {w w' : World} {g : Nat} {cs : Array Value} {r : Option Nat} (h : Blk w g cs) (hg : w.grownBy w' r) (hr : r ≠ some g) : Blk w' g cs := by
  have hl := h.lt
  obtain ⟨t, h⟩ := h.blk
  exact ⟨t, (hg.block g hl (fun e => hr e.symm)).trans h⟩
theorem Blk.same {w w' : World} {g : Nat} {cs : Array Value} (h : Blk w g cs) (hg : w.grownBy w' none) : Blk w' g cs := h.kept hg (by simp)
theorem Blk.set {w : World} {g : Nat} {cs : Array Value} (h : Blk w g cs) (i : Nat) (v : Value) : Blk (w.setCell ⟨g, i, none⟩ v) g (cs.setIfInBounds i v) := by
  obtain ⟨t, h⟩ := h.blk
  exact ⟨t, heap_set v h⟩
theorem Blk.off {w : World} {g g' : Nat} {cs : Array Value} (h : Blk w g cs) (hne : g' ≠ g) (i : Nat) (v : Value) : Blk (w.setCell ⟨g', i, none⟩ v) g cs :=
  h.kept (grownBy_set (grownBy_refl w (some g')) i v) (by simpa using hne)
theorem Blk.drew {w : World} {g : Nat} {cs : Array Value} (h : Blk w g cs) (n : Nat) : Blk (w.drewN n) g cs := ⟨h.blk⟩
theorem Blk.drew1 {w : World} {g : Nat} {cs : Array Value} (h : Blk w g cs) : Blk w.drew g cs := ⟨h.blk⟩
theorem Blk.new (w : World) (cs : Array Value) (t : TypeId) : Blk (w.alloc (.cells cs t)) w.heap.size cs := ⟨t, heap_alloc_new w _⟩
theorem Blk.new' (w : World) (cs : Array Value) (t : TypeId) {g : Nat} (h : g = w.heap.size) : Blk (w.alloc (.cells cs t)) g cs := h ▸ Blk.new w cs t
theorem Blk.set_ {w : World} {g : Nat} {cs cs' : Array Value} (h : Blk w g cs) (i : Nat) (v : Value) (he : cs.setIfInBounds i v = cs') : Blk (w.setCell ⟨g, i, none⟩ v) g cs' := he ▸ h.set i v
open Go.Sort in
/-- What is known of the block in every world that has grown out of this one. -/
theorem Blk.re {w : World} {g : Nat} {cs : Array Value} (h : Blk w g cs) : ∀ d os i, (grow (redrawn w d) os).cell? ⟨g, i, none⟩ = cs[i]? :=
  fun d os i => (h.same (grown_re w d os)).cell i
end Go.Proofs.Ytkdbapbmbhmaiaa

/- Stores into slices of the call's own. -/
namespace Go.Proofs.Ytkdbapbmbhmaiaa
open Go.RowKit

theorem cellsOf_set {α : Type} {f : α → List Value} {s : Nat} (hs : ∀ x, (f x).length = s) : ∀ {l : List α} {i j : Nat} {u : Value} {y : α}, (hi : i < l.length) → j < s → f y = (f l[i]).set j u → cellsOf f (l.set i y) = (cellsOf f l).set (i * s + j) u
  | [], i, _, _, _, hi, _, _ => by simp at hi
  | a :: l, 0, j, u, y, _, hj, hy => by
    simp only [List.set_cons_zero, cellsOf, List.flatMap_cons, Nat.zero_mul, Nat.zero_add]
    rw [List.set_append_left _ _ (by rw [hs]; exact hj)]
    rw [hy]; rfl
  | a :: l, i + 1, j, u, y, hi, hj, hy => by
    have ih := cellsOf_set hs (l := l) (i := i) (j := j) (u := u) (y := y) (by simpa using hi) hj (by simpa using hy)
    simp only [List.set_cons_succ, cellsOf, List.flatMap_cons] at *
    rw [ih, List.set_append_right _ _ (by rw [hs, Nat.add_mul]; omega), hs]
    congr 2
    rw [Nat.add_mul]; omega
/-- One cell of an element is stored. -/
theorem Own.stored {α : Type} {f : α → List Value} {s : Nat} {e : TypeId} {B : Nat} {w : World} {g n cap : Nat} {l : List α} (h : Own f s e B w (.slice (some ⟨g, 0, none⟩) n cap) l) (hs : ∀ x, (f x).length = s) {i j : Nat} (hi : i < l.length) (hj : j < s) (u : Value) (y : α) (hy : f y = (f l[i]).set j u) :
    Own f s e B (w.setCell ⟨g, i * s + j, none⟩ u) (.slice (some ⟨g, 0, none⟩) n cap) (l.set i y) ∧ w.grownBy (w.setCell ⟨g, i * s + j, none⟩ u) (some g) := by
  obtain ⟨a, c, hv⟩ := h.shape
  cases hv
  have := World.ownsRow.stored (w := w) (base := B) (e := e) (size := s) (g := g) (n := l.length) (cap := cap) (xs := cellsOf f l) h (i * s + j) u
  refine ⟨?_, this.2⟩
  unfold Own
  rw [cellsOf_set hs hi hj hy, List.length_set]
  exact this.1
theorem Own.at_ {α : Type} {f : α → List Value} {s : Nat} {e : TypeId} {B : Nat} {w : World} {v : Value} {l : List α} (h : Own f s e B w v l) (hs : ∀ x, (f x).length = s) {i : Nat} (hi : i < l.length) :
    ∃ g cap, v = .slice (some ⟨g, 0, none⟩) l.length cap ∧ B ≤ g ∧ g < w.heap.size ∧ l.length ≤ cap ∧ (∀ j u, (f l[i])[j]? = some u → w.cell? ⟨g, i * s + j, none⟩ = some u) ∧ ∀ j, w.frozen? ⟨g, j, none⟩ = false := by
  have hR := h.rd
  have hlt := h.lt
  rcases h.2 with ⟨rfl, h0⟩ | ⟨g, cap, cur, rfl, hb, hg, h1, h2, _⟩
  · omega
  · obtain ⟨g', off, cap', hv, hg', hc⟩ := hR.at_ hs hi
    cases hv
    refine ⟨g, cap, rfl, hb, hg', h1, fun j u hu => by simpa using hc j u hu, fun j => World.ownsRow.frozenAt (n := l.length) (cap := cap) h j⟩
end Go.Proofs.Ytkdbapbmbhmaiaa
