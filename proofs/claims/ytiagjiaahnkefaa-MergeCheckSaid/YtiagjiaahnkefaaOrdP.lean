/- The order that picks determine: plain. -/
namespace Go.Proofs.Ytiagjiaahnkefaa

/-- The place that a pick chooses among n. -/
def pickAt (picks : List Int) (i n : Nat) : Nat := if i < picks.length then (picks.getD i 0 % (n : Int)).toNat else 0
theorem pickAt_lt (picks : List Int) (i n : Nat) (h : 0 < n) : pickAt picks i n < n := by
  unfold pickAt
  split
  · have a := Int.emod_nonneg (picks.getD i 0) (show (n : Int) ≠ 0 by omega)
    have b := Int.emod_lt_of_pos (picks.getD i 0) (show (0 : Int) < n by omega)
    omega
  · exact h
theorem pickAt_in (picks : List Int) (i n : Nat) (h : i < picks.length) (h0 : 0 < n) : ((pickAt picks i n : Nat) : Int) = picks.getD i 0 % (n : Int) := by
  unfold pickAt
  rw [if_pos h]
  have a := Int.emod_nonneg (picks.getD i 0) (show (n : Int) ≠ 0 by omega)
  omega
theorem pickAt_out (picks : List Int) (i n : Nat) (h : ¬ i < picks.length) : pickAt picks i n = 0 := by
  unfold pickAt; rw [if_neg h]
def ordGo (picks : List Int) : Nat → Nat → List Int → List Int
  | 0, _, _ => []
  | f + 1, i, L => L.getD (pickAt picks i L.length) 0 :: ordGo picks f (i + 1) (L.eraseIdx (pickAt picks i L.length))
def rangeI (n : Nat) : List Int := (List.range n).map (fun i : Nat => (i : Int))
theorem rangeI_len (n : Nat) : (rangeI n).length = n := by simp [rangeI]
theorem rangeI_succ (n : Nat) : rangeI (n + 1) = rangeI n ++ [(n : Int)] := by simp [rangeI, List.range_succ]
def order (picks : List Int) (n : Nat) : List Int := ordGo picks n 0 (rangeI n)
theorem ordGo_step (picks : List Int) (i : Nat) (L : List Int) (h : 0 < L.length) (O : List Int) :
    O ++ ordGo picks L.length i L = (O ++ [L.getD (pickAt picks i L.length) 0]) ++ ordGo picks (L.eraseIdx (pickAt picks i L.length)).length (i + 1) (L.eraseIdx (pickAt picks i L.length)) := by
  have hp := pickAt_lt picks i L.length h
  obtain ⟨f, hf⟩ : ∃ f, L.length = f + 1 := ⟨L.length - 1, by omega⟩
  have hl : (L.eraseIdx (pickAt picks i L.length)).length = f := by rw [List.length_eraseIdx]; rw [if_pos hp]; omega
  have e : ordGo picks L.length i L = L.getD (pickAt picks i L.length) 0 :: ordGo picks f (i + 1) (L.eraseIdx (pickAt picks i L.length)) := by
    conv => lhs; rw [hf]
    rfl
  rw [e, hl]; simp
theorem perm_eraseIdx : ∀ (L : List Int) (k : Nat) (h : k < L.length), (L[k] :: L.eraseIdx k).Perm L
  | x :: L, 0, _ => List.Perm.refl _
  | x :: L, k + 1, h => by
    simp only [List.getElem_cons_succ, List.eraseIdx_cons_succ]
    have hk : k < L.length := by simpa using h
    exact (List.Perm.swap x L[k] _).trans ((perm_eraseIdx L k (by simpa using h)).cons x)
theorem ordGo_perm (picks : List Int) : ∀ (n i : Nat) (L : List Int), L.length = n → (ordGo picks n i L).Perm L
  | 0, _, L, h => by rw [List.length_eq_zero_iff.1 h]; exact List.Perm.refl _
  | n + 1, i, L, h => by
    have hp := pickAt_lt picks i L.length (by omega)
    have h1 := ordGo_perm picks n (i + 1) (L.eraseIdx (pickAt picks i L.length)) (by rw [List.length_eraseIdx, if_pos hp]; omega)
    have h2 := perm_eraseIdx L _ hp
    refine List.Perm.trans ?_ h2
    have e : L.getD (pickAt picks i L.length) 0 = L[pickAt picks i L.length] := by simp [List.getD_eq_getElem?_getD, List.getElem?_eq_getElem hp]
    show (L.getD (pickAt picks i L.length) 0 :: _).Perm _
    rw [e]
    exact h1.cons _
theorem order_perm (picks : List Int) (n : Nat) : (order picks n).Perm (rangeI n) := ordGo_perm picks n 0 _ (rangeI_len n)
theorem order_len (picks : List Int) (n : Nat) : (order picks n).length = n := by rw [(order_perm picks n).length_eq, rangeI_len]
theorem order_count (picks : List Int) (n i : Nat) (h : i < n) : (order picks n).count (i : Int) = 1 := by
  rw [(order_perm picks n).count_eq, rangeI]
  have hn : (List.map (fun i : Nat => (i : Int)) (List.range n)).Nodup := by
    exact List.pairwise_map.2 (List.nodup_range.imp fun h e => h (Int.ofNat.inj e))
  rw [List.Nodup.count hn, if_pos]
  exact List.mem_map.2 ⟨i, List.mem_range.2 h, rfl⟩
end Go.Proofs.Ytiagjiaahnkefaa
