/- The ledger: plain laws on lists of windows with their totals, and on maps that read so. -/
import Derived.Maps.Views
import Derived.Maps.OwnSet
import Derived.Lib.SlKeysI
namespace Go.Proofs.Ytniokdflljchgaa
open Go.RowKit Go.Maps

/-- The total of a window in a list. -/
def ldAt : List (Int × Int) → Int → Int
  | [], _ => 0
  | p :: L, w => if p.1 = w then p.2 else ldAt L w
def ldHas : List (Int × Int) → Int → Bool
  | [], _ => false
  | p :: L, w => decide (p.1 = w) || ldHas L w
/-- The place of a window. -/
def ldK : List (Int × Int) → Int → Nat
  | [], _ => 0
  | p :: L, w => if p.1 < w then ldK L w + 1 else 0
/-- A weight is added to a window. -/
def ldPut : List (Int × Int) → Int → Int → List (Int × Int)
  | [], w, n => [(w, n)]
  | p :: L, w, n => if p.1 < w then p :: ldPut L w n else if p.1 = w then (w, p.2 + n) :: L else (w, n) :: p :: L
def ldDel : List (Int × Int) → Int → List (Int × Int)
  | [], _ => []
  | p :: L, w => if p.1 = w then L else p :: ldDel L w
/-- The windows ascend. -/
def Asc (L : List (Int × Int)) : Prop := L.Pairwise (fun p q => p.1 < q.1)

theorem ldHas_gt {w : Int} : ∀ {L : List (Int × Int)}, (∀ q ∈ L, w < q.1) → ldHas L w = false
  | [], _ => rfl
  | p :: L, h => by
    have := h p (by simp)
    simp only [ldHas, ldHas_gt fun q hq => h q (List.mem_cons_of_mem p hq), Bool.or_false, decide_eq_false_iff_not]; omega
theorem ldAt_no {w : Int} : ∀ {L : List (Int × Int)}, ldHas L w = false → ldAt L w = 0
  | [], _ => rfl
  | p :: L, h => by
    simp only [ldHas, Bool.or_eq_false_iff, decide_eq_false_iff_not] at h
    simp only [ldAt]; rw [if_neg h.1]; exact ldAt_no h.2
theorem ldHas_iff {w : Int} : ∀ {L : List (Int × Int)}, ldHas L w = true ↔ w ∈ L.map (·.1)
  | [] => by simp [ldHas]
  | p :: L => by simp only [ldHas, Bool.or_eq_true, decide_eq_true_eq, ldHas_iff (L := L), List.map_cons, List.mem_cons]; constructor <;> (rintro (h | h) <;> simp_all)
theorem ldAt_gt {w : Int} {L : List (Int × Int)} (h : ∀ q ∈ L, w < q.1) : ldAt L w = 0 := ldAt_no (ldHas_gt h)
theorem asc_cons {p : Int × Int} {L : List (Int × Int)} (h : Asc (p :: L)) : (∀ q ∈ L, p.1 < q.1) ∧ Asc L := List.pairwise_cons.1 h
theorem ldAt_put {w n v : Int} : ∀ {L : List (Int × Int)}, Asc L → ldAt (ldPut L w n) v = if v = w then ldAt L w + n else ldAt L v
  | [], _ => by
    simp only [ldPut, ldAt]
    by_cases h : v = w
    · rw [if_pos h, if_pos h.symm]; omega
    · rw [if_neg h, if_neg fun e => h e.symm]
  | p :: L, hA => by
    obtain ⟨h1, h2⟩ := asc_cons hA
    simp only [ldPut]
    by_cases a : p.1 < w
    · rw [if_pos a]
      simp only [ldAt]
      rw [ldAt_put h2]
      by_cases b : v = w
      · rw [if_pos b, if_pos b, if_neg (by omega), if_neg (by omega)]
      · rw [if_neg b, if_neg b]
    · rw [if_neg a]
      by_cases c : p.1 = w
      · rw [if_pos c]
        simp only [ldAt]
        by_cases b : v = w
        · rw [if_pos b, if_pos b.symm, if_pos c]
        · rw [if_neg b, if_neg fun e => b e.symm, if_neg fun e => b (e.symm.trans c)]
      · rw [if_neg c]
        have hz : ldAt (p :: L) w = 0 := ldAt_gt fun q hq => by
          rcases List.mem_cons.1 hq with rfl | hq
          · omega
          · have := h1 q hq; omega
        by_cases b : v = w
        · rw [if_pos b, hz]; simp only [ldAt]; rw [if_pos b.symm]; omega
        · rw [if_neg b]
          show (if w = v then n else ldAt (p :: L) v) = _
          rw [if_neg fun e => b e.symm]
theorem ldHas_put {w n v : Int} : ∀ {L : List (Int × Int)}, ldHas (ldPut L w n) v = (decide (v = w) || ldHas L v)
  | [] => by
    have : (w = v) = (v = w) := propext ⟨Eq.symm, Eq.symm⟩
    simp only [ldPut, ldHas, this]
  | p :: L => by
    have e : (w = v) = (v = w) := propext ⟨Eq.symm, Eq.symm⟩
    simp only [ldPut]
    by_cases a : p.1 < w
    · rw [if_pos a]; simp only [ldHas, ldHas_put (L := L)]
      cases decide (p.1 = v) <;> cases decide (v = w) <;> rfl
    · rw [if_neg a]
      by_cases c : p.1 = w
      · rw [if_pos c]; simp only [ldHas, e, c]
        cases decide (v = w) <;> rfl
      · rw [if_neg c]; simp only [ldHas, e]
theorem mem_ldPut {w n : Int} {q : Int × Int} : ∀ {L : List (Int × Int)}, q ∈ ldPut L w n → q.1 = w ∨ q ∈ L
  | [], h => by simp [ldPut] at h; exact .inl (by rw [h])
  | p :: L, h => by
    simp only [ldPut] at h
    by_cases a : p.1 < w
    · rw [if_pos a] at h
      rcases List.mem_cons.1 h with rfl | h
      · exact .inr (by simp)
      · exact (mem_ldPut h).imp id fun h => List.mem_cons_of_mem p h
    · rw [if_neg a] at h
      by_cases c : p.1 = w
      · rw [if_pos c] at h
        rcases List.mem_cons.1 h with rfl | h
        · exact .inl rfl
        · exact .inr (List.mem_cons_of_mem p h)
      · rw [if_neg c] at h
        rcases List.mem_cons.1 h with rfl | h
        · exact .inl rfl
        · exact .inr h
theorem asc_put {w n : Int} : ∀ {L : List (Int × Int)}, Asc L → Asc (ldPut L w n)
  | [], _ => by simp [ldPut, Asc]
  | p :: L, hA => by
    obtain ⟨h1, h2⟩ := asc_cons hA
    simp only [ldPut]
    by_cases a : p.1 < w
    · rw [if_pos a]
      refine List.pairwise_cons.2 ⟨fun q hq => ?_, asc_put h2⟩
      rcases mem_ldPut hq with h | h
      · omega
      · exact h1 q h
    · rw [if_neg a]
      by_cases c : p.1 = w
      · rw [if_pos c]
        exact List.pairwise_cons.2 ⟨fun q hq => by have := h1 q hq; simp only; omega, h2⟩
      · rw [if_neg c]
        refine List.pairwise_cons.2 ⟨fun q hq => ?_, hA⟩
        rcases List.mem_cons.1 hq with rfl | hq
        · simp only; omega
        · have := h1 q hq; simp only; omega
theorem mem_ldDel {w : Int} {q : Int × Int} : ∀ {L : List (Int × Int)}, q ∈ ldDel L w → q ∈ L
  | [], h => by simp [ldDel] at h
  | p :: L, h => by
    simp only [ldDel] at h
    split at h
    · exact List.mem_cons_of_mem p h
    · rcases List.mem_cons.1 h with rfl | h
      · simp
      · exact List.mem_cons_of_mem p (mem_ldDel h)
theorem asc_del {w : Int} : ∀ {L : List (Int × Int)}, Asc L → Asc (ldDel L w)
  | [], _ => by simp [ldDel, Asc]
  | p :: L, hA => by
    obtain ⟨h1, h2⟩ := asc_cons hA
    simp only [ldDel]
    split
    · exact h2
    · exact List.pairwise_cons.2 ⟨fun q hq => h1 q (mem_ldDel hq), asc_del h2⟩
theorem ldHas_del {w v : Int} : ∀ {L : List (Int × Int)}, Asc L → ldHas (ldDel L w) v = (!decide (v = w) && ldHas L v)
  | [], _ => by simp [ldDel, ldHas]
  | p :: L, hA => by
    obtain ⟨h1, h2⟩ := asc_cons hA
    simp only [ldDel]
    by_cases a : p.1 = w
    · rw [if_pos a]
      simp only [ldHas]
      by_cases b : v = w
      · subst b
        rw [ldHas_gt fun q hq => by have := h1 q hq; omega]; simp
      · simp only [b, decide_false, Bool.not_false, Bool.true_and]
        rw [show decide (p.1 = v) = false from decide_eq_false fun e => b (e.symm.trans a)]; simp
    · rw [if_neg a]
      simp only [ldHas, ldHas_del h2]
      by_cases b : v = w
      · subst b
        simp [a]
      · simp [b]
theorem ldAt_del {w v : Int} : ∀ {L : List (Int × Int)}, Asc L → ldAt (ldDel L w) v = if v = w then 0 else ldAt L v
  | [], _ => by simp [ldDel, ldAt]
  | p :: L, hA => by
    obtain ⟨h1, h2⟩ := asc_cons hA
    simp only [ldDel]
    by_cases a : p.1 = w
    · rw [if_pos a]
      by_cases b : v = w
      · rw [if_pos b]; exact ldAt_gt fun q hq => by have := h1 q hq; omega
      · rw [if_neg b]; simp only [ldAt]; rw [if_neg fun e => b (e.symm.trans a)]
    · rw [if_neg a]
      simp only [ldAt, ldAt_del h2]
      by_cases b : v = w
      · rw [if_pos b, if_pos b, if_neg (by omega)]
      · rw [if_neg b, if_neg b]
theorem ldDel_no {w : Int} : ∀ {L : List (Int × Int)}, ldHas L w = false → ldDel L w = L
  | [], _ => rfl
  | p :: L, h => by
    simp only [ldHas, Bool.or_eq_false_iff, decide_eq_false_iff_not] at h
    simp only [ldDel]; rw [if_neg h.1, ldDel_no h.2]
theorem ldK_le {w : Int} : ∀ {L : List (Int × Int)}, ldK L w ≤ L.length
  | [] => Nat.le_refl _
  | p :: L => by
    simp only [ldK]; split
    · have := ldK_le (w := w) (L := L); simp; exact this
    · simp
/-- The place of a window, found by a loop. -/
theorem ldK_of {w : Int} : ∀ {L : List (Int × Int)} {k : Nat}, k ≤ L.length → (∀ (j : Nat) (p : Int × Int), j < k → L[j]? = some p → p.1 < w) → (∀ p : Int × Int, L[k]? = some p → ¬ p.1 < w) → ldK L w = k
  | [], k, hk, _, _ => by simp at hk; subst hk; rfl
  | p :: L, 0, _, _, h => by simp only [ldK]; rw [if_neg (h p rfl)]
  | p :: L, k + 1, hk, h1, h2 => by
    simp only [ldK]
    rw [if_pos (h1 0 p (by omega) rfl), ldK_of (L := L) (k := k) (by simpa using hk) (fun j q hj hq => h1 (j + 1) q (by omega) (by simpa using hq)) (fun q hq => h2 q (by simpa using hq))]
theorem ldK_lt {w : Int} : ∀ {L : List (Int × Int)} {j : Nat} {p : Int × Int}, j < ldK L w → L[j]? = some p → p.1 < w
  | [], j, p, h, _ => by simp [ldK] at h
  | q :: L, 0, p, h, hp => by
    simp at hp; subst hp
    simp only [ldK] at h; split at h
    · assumption
    · omega
  | q :: L, j + 1, p, h, hp => by
    simp only [ldK] at h; split at h
    · exact ldK_lt (L := L) (j := j) (by omega) (by simpa using hp)
    · omega
/-- The window is there just if it stands at its place. -/
theorem ldHas_at {w : Int} : ∀ {L : List (Int × Int)}, Asc L → (ldHas L w = true ↔ L[ldK L w]? = some (w, ldAt L w))
  | [], _ => by simp [ldHas]
  | p :: L, hA => by
    obtain ⟨h1, h2⟩ := asc_cons hA
    simp only [ldHas, ldK, ldAt]
    by_cases a : p.1 < w
    · rw [if_pos a, if_neg (by omega)]
      simp only [List.getElem?_cons_succ, ← ldHas_at h2, Bool.or_eq_true, decide_eq_true_eq]
      constructor
      · rintro (h | h)
        · omega
        · exact h
      · exact .inr
    · rw [if_neg a]
      by_cases c : p.1 = w
      · rw [if_pos c]
        simp only [c, decide_true, Bool.true_or, List.getElem?_cons_zero, true_iff, Option.some.injEq]
        rw [← c]
      · rw [if_neg c]
        rw [show decide (p.1 = w) = false from decide_eq_false c, ldHas_gt fun q hq => by have := h1 q hq; omega]
        simp only [Bool.or_self, Bool.false_eq_true, List.getElem?_cons_zero, Option.some.injEq, false_iff]
        intro e; exact c (by rw [e])
theorem ldHas_no {w : Int} {L : List (Int × Int)} (hA : Asc L) {p : Int × Int} (hp : L[ldK L w]? = some p) (hne : p.1 ≠ w) : ldHas L w = false := by
  cases h : ldHas L w with
  | false => rfl
  | true =>
    rw [(ldHas_at hA).1 h] at hp
    cases hp; exact absurd rfl hne
theorem ldHas_end {w : Int} {L : List (Int × Int)} (hA : Asc L) (hk : ldK L w = L.length) : ldHas L w = false := by
  cases h : ldHas L w with
  | false => rfl
  | true =>
    have := (ldHas_at hA).1 h
    rw [hk] at this; simp at this
theorem ldHas_yes {w : Int} : ∀ {L : List (Int × Int)} {k : Nat} {p : Int × Int}, L[k]? = some p → p.1 = w → ldHas L w = true := by
  intro L k p h e
  rw [ldHas_iff]
  exact List.mem_map.2 ⟨p, List.mem_of_getElem? h, e⟩
theorem ldPut_no {w n : Int} : ∀ {L : List (Int × Int)}, Asc L → ldHas L w = false → ldPut L w n = L.take (ldK L w) ++ [(w, n)] ++ L.drop (ldK L w)
  | [], _, _ => rfl
  | p :: L, hA, h => by
    obtain ⟨h1, h2⟩ := asc_cons hA
    simp only [ldHas, Bool.or_eq_false_iff, decide_eq_false_iff_not] at h
    simp only [ldPut, ldK]
    by_cases a : p.1 < w
    · rw [if_pos a, if_pos a, ldPut_no h2 h.2]; rfl
    · rw [if_neg a, if_neg a, if_neg h.1]; rfl
theorem ldPut_yes {w n : Int} : ∀ {L : List (Int × Int)}, Asc L → ldHas L w = true → ldPut L w n = L.set (ldK L w) (w, ldAt L w + n)
  | [], _, h => by simp [ldHas] at h
  | p :: L, hA, h => by
    obtain ⟨h1, h2⟩ := asc_cons hA
    simp only [ldPut, ldK, ldAt]
    by_cases a : p.1 < w
    · simp only [ldHas, show decide (p.1 = w) = false from decide_eq_false (by omega), Bool.false_or] at h
      rw [if_pos a, if_pos a, if_neg (by omega), ldPut_yes h2 h]; rfl
    · rw [if_neg a, if_neg a]
      by_cases c : p.1 = w
      · rw [if_pos c, if_pos c]; rfl
      · exfalso
        rw [ldHas_gt] at h
        · cases h
        · intro q hq
          rcases List.mem_cons.1 hq with rfl | hq
          · omega
          · have := h1 q hq; omega
theorem ldDel_yes {w : Int} : ∀ {L : List (Int × Int)}, Asc L → ldHas L w = true → ldDel L w = L.take (ldK L w) ++ L.drop (ldK L w + 1)
  | [], _, h => by simp [ldHas] at h
  | p :: L, hA, h => by
    obtain ⟨h1, h2⟩ := asc_cons hA
    simp only [ldDel, ldK]
    by_cases a : p.1 < w
    · simp only [ldHas, show decide (p.1 = w) = false from decide_eq_false (by omega), Bool.false_or] at h
      rw [if_pos a, if_neg (by omega), ldDel_yes h2 h]; rfl
    · rw [if_neg a]
      by_cases c : p.1 = w
      · rw [if_pos c]; rfl
      · exfalso
        rw [ldHas_gt] at h
        · cases h
        · intro q hq
          rcases List.mem_cons.1 hq with rfl | hq
          · omega
          · have := h1 q hq; omega

/-! ### The map -/
structure LedD {H : Type} (D : DataW H) (L : List (Int × Int)) : Prop where
  has : ∀ k : Int, Maps.has D (.int .i64 k) = ldHas L k
  at_ : ∀ k : Int, D.atKey (.int .i64 k) (.lit (.int .u64 0)) = .lit (.int .u64 (ldAt L k))
variable {H : Type} {D : DataW H} {L : List (Int × Int)}
theorem LedD.nil : LedD (.map [] : DataW H) [] := ⟨fun _ => rfl, fun _ => rfl⟩
theorem lit_ne {k v : Int} (h : k ≠ v) : (Lit.int .i64 k) ≠ .int .i64 v := fun e => by cases e; exact h rfl
theorem LedD.put (h : LedD D L) (hA : Asc L) (hD : IsMap D) {w n : Int} (hk : WideAt.IsKeyLit (.int .i64 w)) : LedD (D.put (.int .i64 w) (.lit (.int .u64 (ldAt L w + n)))) (ldPut L w n) := by
  constructor
  · intro k
    rw [ldHas_put]
    by_cases e : k = w
    · subst e; rw [has_put_same hD hk]; simp
    · rw [has_put_other (lit_ne e), h.has]; simp [e]
  · intro k
    rw [ldAt_put hA]
    by_cases e : k = w
    · subst e; rw [atKey_put_same hD hk, if_pos rfl]
    · rw [atKey_put_other (lit_ne e), h.at_, if_neg e]
theorem LedD.del (h : LedD D L) (hA : Asc L) {w : Int} : LedD (D.del (.int .i64 w)) (ldDel L w) := by
  constructor
  · intro k
    rw [ldHas_del hA]
    by_cases e : k = w
    · subst e; rw [has_del_same]; simp
    · rw [has_del_other (lit_ne e), h.has]; simp [e]
  · intro k
    rw [ldAt_del hA]
    by_cases e : k = w
    · subst e; rw [atKey_del_same, if_pos rfl]
    · rw [atKey_del_other (lit_ne e), h.at_, if_neg e]
theorem asc_nodup : ∀ {L : List (Int × Int)}, Asc L → (L.map (·.1)).Nodup := by
  intro L h
  unfold List.Nodup
  rw [List.pairwise_map]
  exact h.imp fun h e => by omega
theorem asc_sorted {L : List (Int × Int)} (h : Asc L) : (L.map (·.1)).Pairwise (fun x y : Int => decide (x ≤ y) = true) := by
  rw [List.pairwise_map]
  exact h.imp fun h => by simp; omega
/-- The keys, sorted. -/
theorem LedD.sorted (h : LedD D L) (hA : Asc L) {P : Program} {k : TypeId} {R : Value → Option (DataW H × List MemPlace)} {w : World} {b n : Nat} (hown : w.ownsMap P k R b n D) (hk : P.underlying k = some (.int .i64)) {ss : List Int} (hp : ss.Perm (intKeys D)) :
    ss.mergeSort (fun x y => decide (x ≤ y)) = L.map (·.1) := by
  have h2 : (L.map (·.1)).Perm (intKeys D) := CollectedI.perm (left := fun _ => false) ⟨asc_nodup hA, fun x => by rw [h.has, ldHas_iff]; simp⟩ hown (int_keyed hk) hk (fun _ => rfl)
  have h3 : (ss.mergeSort (fun x y => decide (x ≤ y))).Perm (L.map (·.1)) := (List.mergeSort_perm _ _).trans (hp.trans h2.symm)
  refine List.Perm.eq_of_pairwise (le := fun x y : Int => decide (x ≤ y) = true) (fun a b _ _ h1 h2 => ?_) (List.pairwise_mergeSort (fun a b c h1 h2 => ?_) (fun a b => ?_) ss) (asc_sorted hA) h3
  · simp only [decide_eq_true_eq] at h1 h2; omega
  · simp only [decide_eq_true_eq] at *; omega
  · simp only [Bool.or_eq_true, decide_eq_true_eq]; omega
end Go.Proofs.Ytniokdflljchgaa
