/- Several texts in one file; each begins with a comment that says what is proved in it. -/
import Derived.Test.YtiagjiaahnkefaaGreatBunAI
import Derived.Test.YtiagjiaahnkefaaGreatBunAH
import Derived.Test.YtiagjiaahnkefaaGreatBunAL
import Derived.Test.YtiagjiaahnkefaaGreatBunAK

/- The built report is accepted: plain laws. The lower bounds of all lines add up to the total at most; the listed lines stand in their order. -/
namespace Go.Proofs.YtiagjiaahnkefaaGreat
open Go.RowKit Go.Sort

/-! ### The order -/
theorem bef_trans {x y z : Ln} (h1 : befB x y = true) (h2 : befB y z = true) : befB x z = true := by
  simp only [befB, Bool.or_eq_true, Bool.and_eq_true, decide_eq_true_eq] at h1 h2 ⊢
  rcases h1 with h1 | ⟨h1, k1⟩ <;> rcases h2 with h2 | ⟨h2, k2⟩
  · left; omega
  · left; omega
  · left; omega
  · exact .inr ⟨by omega, List.lt_trans k1 k2⟩
theorem bef_total {x y : Ln} (hk : x.key.data.toList ≠ y.key.data.toList) (h : befB x y = false) : befB y x = true := by
  by_cases e : x.hi < y.hi
  · simp [befB, e]
  · by_cases e2 : y.hi < x.hi
    · simp [befB, e2] at h
    · have e3 : x.hi = y.hi := by omega
      by_cases e4 : x.key.data.toList < y.key.data.toList
      · simp [befB, e3, e4] at h
      · have e5 : y.key.data.toList < x.key.data.toList := by
          by_cases e6 : y.key.data.toList < x.key.data.toList
          · exact e6
          · exact absurd (List.le_antisymm (List.not_lt.1 e6) (List.not_lt.1 e4)) hk
        simp [befB, e3, e5]
theorem insK_spec (x : Ln) (L : List Ln) : ∀ k, k ≤ L.length → (∀ j (hj : j < L.length), insK x L k ≤ j → j < k → befB x L[j] = true) ∧ ∀ m (hm : m < L.length), insK x L k = m + 1 → befB x L[m] = false
  | 0, _ => ⟨fun j _ _ h => absurd h (by omega), fun m _ h => by simp [insK] at h⟩
  | k + 1, hk => by
    have hlt : k < L.length := by omega
    obtain ⟨h1, h2⟩ := insK_spec x L k (by omega)
    have e : insK x L (k + 1) = if befB x L[k] = true then insK x L k else k + 1 := by
      rw [insK, List.getElem?_eq_getElem hlt]; rfl
    by_cases hb : befB x L[k] = true
    · rw [e, if_pos hb]
      refine ⟨fun j hj ha hjk => ?_, h2⟩
      by_cases hjk2 : j < k
      · exact h1 j hj ha hjk2
      · obtain rfl : j = k := by omega
        exact hb
    · rw [e, if_neg hb]
      refine ⟨fun j hj ha hjk => absurd ha (by omega), fun m hm hme => ?_⟩
      obtain rfl : m = k := by omega
      simpa using hb
theorem insL_sorted {L : List Ln} {x : Ln} (h : L.Pairwise fun a b => befB a b = true) (hk : ∀ y ∈ L, x.key.data.toList ≠ y.key.data.toList) : (insL L x).Pairwise fun a b => befB a b = true := by
  obtain ⟨h1, h2⟩ := insK_spec x L L.length (Nat.le_refl _)
  have hle := insK_le x L L.length
  unfold insL
  generalize insK x L L.length = p at *
  have hpre : ∀ j (hj : j < L.length), j < p → befB L[j] x = true := by
    intro j hj hjp
    obtain ⟨m, rfl⟩ : ∃ m, p = m + 1 := ⟨p - 1, by omega⟩
    have hm : m < L.length := by omega
    have hx := bef_total (hk _ (List.getElem_mem hm)) (h2 m hm rfl)
    by_cases e : j = m
    · subst e; exact hx
    · exact bef_trans (List.pairwise_iff_getElem.1 h j m hj hm (by omega)) hx
  have htd : L.take p ++ L.drop p = L := List.take_append_drop p L
  have h' := h
  rw [← htd, List.pairwise_append] at h'
  obtain ⟨a1, a2, a3⟩ := h'
  rw [List.append_assoc, List.pairwise_append]
  refine ⟨a1, ?_, ?_⟩
  · rw [List.singleton_append, List.pairwise_cons]
    refine ⟨fun y hy => ?_, a2⟩
    obtain ⟨i, hi, rfl⟩ := List.getElem_of_mem hy
    rw [List.getElem_drop]
    rw [List.length_drop] at hi
    exact h1 (p + i) (by omega) (by omega) (by omega)
  · intro a ha b hb
    rw [List.singleton_append, List.mem_cons] at hb
    rcases hb with rfl | hb
    · obtain ⟨i, hi, rfl⟩ := List.getElem_of_mem ha
      rw [List.getElem_take]
      rw [List.length_take] at hi
      exact hpre i (by omega) (by omega)
    · exact a3 a ha b hb
theorem sortLn_sorted {l : List Ln} (h : (keysN l).Nodup) : (sortLn l).Pairwise fun a b => befB a b = true := by
  have : ∀ (l a : List Ln), (a.Pairwise fun x y => befB x y = true) → (keysN (a ++ l)).Nodup → ((l.foldl insL a).Pairwise fun x y => befB x y = true) := by
    intro l
    induction l with
    | nil => intro a ha _; exact ha
    | cons x l ih =>
      intro a ha hn
      simp only [List.foldl_cons]
      refine ih _ (insL_sorted ha fun y hy e => ?_) ?_
      · unfold keysN at hn
        rw [List.map_append, List.nodup_append] at hn
        exact hn.2.2 _ (List.mem_map.2 ⟨y, hy, rfl⟩) _ (List.mem_map.2 ⟨x, by simp, rfl⟩) e.symm
      · have hp : (keysN (insL a x ++ l)).Perm (keysN (a ++ x :: l)) := by
          unfold keysN
          refine List.Perm.map _ ?_
          have := (insL_perm a x).append_right l
          simpa using this
        exact hp.nodup_iff.2 hn
  exact this l [] (by simp) (by simpa using h)

/-! ### The sums -/
def sumB (g : Bytes → Int) (K : List Bytes) : Int := (K.map g).foldl (· + ·) 0
theorem sumB_cons (g : Bytes → Int) (b : Bytes) (K : List Bytes) : sumB g (b :: K) = g b + sumB g K := by
  have : ∀ (l : List Int) (a : Int), l.foldl (· + ·) a = a + l.foldl (· + ·) 0 := by
    intro l
    induction l with
    | nil => intro a; simp
    | cons x l ih => intro a; simp only [List.foldl_cons]; rw [ih (a + x), ih (0 + x)]; omega
  unfold sumB
  simp only [List.map_cons, List.foldl_cons]
  rw [this]; omega
theorem sumB_nil (g : Bytes → Int) : sumB g [] = 0 := rfl
theorem sumB_le {f g : Bytes → Int} : ∀ {K : List Bytes}, (∀ b ∈ K, f b ≤ g b) → sumB f K ≤ sumB g K
  | [], _ => Int.le_refl _
  | b :: K, h => by
    rw [sumB_cons, sumB_cons]
    have := sumB_le fun x hx => h x (List.mem_cons_of_mem b hx)
    have := h b (by simp)
    omega
theorem sumB_add (f g : Bytes → Int) : ∀ K : List Bytes, sumB (fun b => f b + g b) K = sumB f K + sumB g K
  | [] => rfl
  | b :: K => by rw [sumB_cons, sumB_cons, sumB_cons, sumB_add f g K]; omega
theorem sumI_add (f g : Int → Int) : ∀ is : List Int, sumI (fun i => f i + g i) is = sumI f is + sumI g is
  | [] => rfl
  | i :: is => by rw [sumI_cons, sumI_cons, sumI_cons, sumI_add f g is]; omega
theorem sumI_zero : ∀ is : List Int, sumI (fun _ => 0) is = 0
  | [] => rfl
  | i :: is => by rw [sumI_cons, sumI_zero is]; omega
theorem sum_swap (f : Bytes → Int → Int) (is : List Int) : ∀ K : List Bytes, sumB (fun b => sumI (f b) is) K = sumI (fun i => sumB (fun b => f b i) K) is
  | [] => (sumI_zero is).symm
  | b :: K => by
    rw [sumB_cons, sum_swap f is K, ← sumI_add]
    congr 1
    funext i
    rw [sumB_cons]
theorem sumB_zero {g : Bytes → Int} : ∀ {K : List Bytes}, (∀ b ∈ K, g b = 0) → sumB g K = 0
  | [], _ => rfl
  | b :: K, h => by rw [sumB_cons, sumB_zero fun x hx => h x (List.mem_cons_of_mem b hx), h b (by simp)]; rfl
theorem loSum_all (c : Cfg) (t : List Int) (l : List Summ) : ∀ K : List Bytes, loSum (K.map (lnOf c t l)) = sumB (fun b => (lineF c t l (bA b)).1) K
  | [] => rfl
  | b :: K => by rw [List.map_cons, loSum_cons, loSum_all c t l K, sumB_cons]; rfl
theorem loSum_perm {l l' : List Ln} (h : l.Perm l') : loSum l = loSum l' := by
  induction h with
  | nil => rfl
  | cons x _ ih => rw [loSum_cons, loSum_cons, ih]
  | swap x y l => rw [loSum_cons, loSum_cons, loSum_cons, loSum_cons]; omega
  | trans _ _ ih1 ih2 => exact ih1.trans ih2

def ownSum (es : List Ent) : Int := es.foldl (fun a e => a + e.own) 0
theorem ownSum_from : ∀ (es : List Ent) (a : Int), es.foldl (fun a e => a + e.own) a = a + ownSum es
  | [], a => by simp [ownSum]
  | e :: es, a => by
    unfold ownSum
    simp only [List.foldl_cons]
    rw [ownSum_from es (a + e.own), ownSum_from es (0 + e.own)]
    omega
theorem ownSum_cons (e : Ent) (es : List Ent) : ownSum (e :: es) = e.own + ownSum es := by
  show (e :: es).foldl (fun a e => a + e.own) 0 = _
  simp only [List.foldl_cons]
  rw [ownSum_from]; omega
theorem ownF_min : ∀ (es : List Ent) (a : Int), (∀ e ∈ es, 0 ≤ e.own) → a ≤ 18446744073709551615 → es.foldl (fun n e => satA n e.own) a = min (a + ownSum es) 18446744073709551615
  | [], a, _, ha => by simp [ownSum]; omega
  | e :: es, a, h, ha => by
    have h0 := h e (by simp)
    simp only [List.foldl_cons]
    have hs : 0 ≤ ownSum es := by
      have : ∀ es : List Ent, (∀ e ∈ es, 0 ≤ e.own) → 0 ≤ ownSum es := by
        intro es
        induction es with
        | nil => intro _; simp [ownSum]
        | cons x es ih =>
          intro h
          rw [ownSum_cons]
          have := ih fun y hy => h y (List.mem_cons_of_mem x hy)
          have := h x (by simp)
          omega
      exact this es fun y hy => h y (List.mem_cons_of_mem e hy)
    rw [ownF_min es _ (fun y hy => h y (List.mem_cons_of_mem e hy)) (by unfold satA; split <;> omega), ownSum_cons]
    unfold satA
    split <;> omega
theorem keyEq_iff (b : Bytes) (e : Ent) : keyEq (bA b) e = true ↔ b = entK e := by
  unfold keyEq entK bA
  rw [beq_iff_eq, ByteArray.toList_eq, ByteArray.toList_eq]
  exact eq_comm
/-- Over different keys, each entry counts once at most. -/
theorem own_once (un : Int) : ∀ (es : List Ent) (K : List Bytes), K.Nodup → (∀ e ∈ es, 0 ≤ e.own) → sumB (fun b => (bndE es un (bA b)).1) K ≤ ownSum es
  | [], K, _, _ => by
    exact Int.le_of_eq ((sumB_zero fun b _ => rfl).trans rfl)
  | e :: es, K, hK, h => by
    have h0 := h e (by simp)
    have hr := own_once un es K hK fun y hy => h y (List.mem_cons_of_mem e hy)
    have hp : ∀ k, 0 ≤ (bndE es un k).1 := by
      intro k
      unfold bndE
      split
      · rename_i x hx
        exact h x (List.mem_cons_of_mem e (List.mem_of_find?_eq_some hx))
      · exact Int.le_refl _
    have h1 : sumB (fun b => (bndE (e :: es) un (bA b)).1) K ≤ sumB (fun b => (if b = entK e then e.own else 0) + (bndE es un (bA b)).1) K := by
      refine sumB_le fun b _ => ?_
      by_cases hb : b = entK e
      · rw [if_pos hb]
        have : (bndE (e :: es) un (bA b)).1 = e.own := by
          unfold bndE
          rw [List.find?_cons_of_pos ((keyEq_iff b e).2 hb)]
        have := hp (bA b)
        omega
      · rw [if_neg hb]
        have : (bndE (e :: es) un (bA b)).1 = (bndE es un (bA b)).1 := by
          unfold bndE
          rw [List.find?_cons_of_neg (fun hq => hb ((keyEq_iff b e).1 hq))]
        omega
    rw [sumB_add] at h1
    have h2 : sumB (fun b => if b = entK e then e.own else 0) K ≤ e.own := by
      have : ∀ K : List Bytes, K.Nodup → sumB (fun b => if b = entK e then e.own else 0) K ≤ e.own := by
        intro K
        induction K with
        | nil => intro _; exact h0
        | cons b K ih =>
          intro hn
          rw [List.nodup_cons] at hn
          rw [sumB_cons]
          by_cases hb : b = entK e
          · rw [if_pos hb, sumB_zero fun x hx => if_neg fun he => hn.1 (by rw [hb, ← he]; exact hx)]
            omega
          · rw [if_neg hb]
            have := ih hn.2
            omega
      exact this K hK
    rw [ownSum_cons]
    omega

section
variable {c : Cfg} {lc : List (Int × Int)} {t : List Int} {lv : Value} {l : List Summ} {w : World}
def ownAt (l : List Summ) (k : ByteArray) (i : Int) : Int := match l[i.toNat]? with
  | some s => (bndE s.es s.untr k).1
  | none => 0
theorem own_tot {s : Summ} (h : SummG c s) : ownSum s.es ≤ s.total ∧ ∀ e ∈ s.es, 0 ≤ e.own := by
  have h1 : ∀ e ∈ s.es, 0 ≤ e.own := fun e he => (h.num.es e he).1.1
  refine ⟨?_, h1⟩
  have h2 : ownF s.es ≤ s.total := by
    have he := h.err
    unfold sumErr at he
    by_cases a1 : 9223372036854775808 < s.total ∨ s.total < s.untr
    · rw [if_pos a1] at he; cases he
    rw [if_neg a1] at he
    by_cases a2 : 96 < s.es.length
    · rw [if_pos a2] at he; cases he
    rw [if_neg a2] at he
    by_cases a3 : entsErr s.total s.es ≠ 0
    · rw [if_pos a3] at he; exact absurd he a3
    rw [if_neg a3] at he
    by_cases a4 : s.total < ownF s.es
    · rw [if_pos a4] at he; cases he
    · omega
  have h3 : s.total ≤ 9223372036854775808 := by
    have he := h.err
    unfold sumErr at he
    by_cases a1 : 9223372036854775808 < s.total ∨ s.total < s.untr
    · rw [if_pos a1] at he; cases he
    · omega
  have h4 : ownF s.es = min (0 + ownSum s.es) 18446744073709551615 := ownF_min s.es 0 h1 (by omega)
  omega
theorem bP_12 (h : Few c lc t lv l w) (k : ByteArray) (i : Int) : (bP c t l k i).1 ≤ (bP c t l k i).2 ∧ (bP c t l k i).1 ≤ ownAt l k i := by
  have e : bP c t l k i = bP c t l k (i.toNat : Int) := by unfold bP; rw [Int.toNat_natCast]
  have e2 : ownAt l k i = ownAt l k (i.toNat : Int) := by unfold ownAt; rw [Int.toNat_natCast]
  rw [e, e2]
  by_cases hi : i.toNat < l.length
  · refine ⟨(bP_cap (t := t) (k := k) hi (h.good _ (List.getElem_mem hi)) h.nums.shards.1).1, ?_⟩
    rw [bP_get hi]
    unfold ownAt
    rw [Int.toNat_natCast, List.getElem?_eq_getElem hi]
    exact Int.min_le_left _ _
  · have hn : l[i.toNat]? = none := by simp; omega
    unfold bP ownAt
    rw [Int.toNat_natCast, hn]
    exact ⟨Int.le_refl _, Int.le_refl _⟩
theorem ownAt_pos (h : Few c lc t lv l w) (k : ByteArray) (i : Int) : 0 ≤ ownAt l k i := by
  have := (bP_w (c := c) (t := t) h.ok k i).1.1
  have := (bP_12 (t := t) h k i).2
  omega
theorem line_own (h : Few c lc t lv l w) (k : ByteArray) : (lineF c t l k).1 ≤ sumI (ownAt l k) (rangeI l.length) := by
  have hs := h.nums.shards
  have hp := h.nums.spread
  have hl := h.len
  obtain ⟨h1, h2⟩ := homeF_bd c t k hs.1
  rw [lineF_all hs.1 h.len, (foldB_2 k _).1]
  have hb : ∀ i, 0 ≤ (bP c t l k i).1 := fun i => (bP_w (c := c) (t := t) h.ok k i).1.1
  obtain ⟨h3, _⟩ := few_set h (f := fun i => (bP c t l k i).1) (fun i => ⟨hb i, Int.le_trans (bP_12 (t := t) h k i).1 (bP_tot (t := t) h k i).2⟩) h1 h2
  have h3' : (setF c t k).foldl (fun a i => satA a (bP c t l k i).1) 0 = sumI (fun i => (bP c t l k i).1) (setN (homeF c t k) c.Shards c.Spread.toNat) := h3
  rw [h3']
  have hn : (setN (homeF c t k) c.Shards c.Spread.toNat).Nodup := setN_nodup h1 h2 (by omega) (by omega)
  refine Int.le_trans (sumI_le (n := l.length) hn (fun i hi => by have := setN_in hs.1 i hi; omega) fun i _ => hb i) ?_
  exact sumI_mono fun i _ => (bP_12 (t := t) h k i).2
/-- The lower bounds of all lines. -/
theorem lo_total (h : Few c lc t lv l w) : loSum (allF c t l) ≤ totalF l := by
  unfold allF
  rw [loSum_all]
  refine Int.le_trans (sumB_le fun b _ => line_own h (bA b)) ?_
  rw [sum_swap (fun b => ownAt l (bA b)), (few_sum h).1]
  refine sumI_mono fun i _ => ?_
  unfold ownAt totAt
  cases e : l[i.toNat]? with
  | none =>
    show sumB (fun _ => 0) _ ≤ _
    rw [sumB_zero fun _ _ => rfl]
    exact Int.le_refl _
  | some s =>
    have hg := h.good s (List.mem_of_getElem? e)
    obtain ⟨h1, h2⟩ := own_tot hg
    exact Int.le_trans (own_once s.untr s.es (keysF l) (keysF_nodup l) h2) h1
theorem keysN_all (c : Cfg) (t : List Int) (l : List Summ) : keysN (allF c t l) = keysF l := by
  unfold keysN allF
  rw [List.map_map]
  exact List.map_id'' (fun b => rfl) _
theorem keys_sorted (c : Cfg) (t : List Int) (l : List Summ) : (keysN (sortLn (allF c t l))).Nodup := by
  have : (keysN (sortLn (allF c t l))).Perm (keysN (allF c t l)) := (sortLn_perm _).map _
  rw [this.nodup_iff, keysN_all]
  exact keysF_nodup l
theorem mem_all (h : Few c lc t lv l w) {x : Ln} (hx : x ∈ allF c t l) : x.key.size = 1 ∧ x.lo ≤ x.hi ∧ x.hi ≤ totalF l ∧ 0 ≤ x.lo := by
  obtain ⟨b, hb, rfl⟩ := List.mem_map.1 hx
  refine ⟨?_, ?_, line_tot h (bA b), (allF_w h _ hx).lo.1⟩
  · obtain ⟨s, hs, e, he, rfl⟩ := mem_keysF hb
    obtain ⟨n, hn, _⟩ := (h.good s hs).keys e he
    show (entK e).toArray.size = 1
    unfold entK
    rw [hn]; rfl
  · have hs := h.nums.shards
    show (lineF c t l (bA b)).1 ≤ (lineF c t l (bA b)).2
    rw [lineF_all hs.1 h.len, (foldB_2 _ _).1, (foldB_2 _ _).2]
    have : ∀ (is : List Int) (a a' : Int), a ≤ a' → is.foldl (fun a i => satA a (bP c t l (bA b) i).1) a ≤ is.foldl (fun a i => satA a (bP c t l (bA b) i).2) a' := by
      intro is
      induction is with
      | nil => intro a a' h; exact h
      | cons i is ih =>
        intro a a' haa
        simp only [List.foldl_cons]
        refine ih _ _ ?_
        have := (bP_12 (t := t) h (bA b) i).1
        unfold satA
        split <;> split <;> omega
    exact this _ 0 0 (Int.le_refl _)
theorem hiMax_le {ls : List Ln} {un M : Int} (h : ∀ x ∈ ls, x.hi ≤ M) (hu : un ≤ M) : hiMax ls un ≤ M := by
  have : ∀ (ls : List Int) (a : Int), (∀ x ∈ ls, x ≤ M) → a ≤ M → ls.foldl max a ≤ M := by
    intro ls
    induction ls with
    | nil => intro a _ h; exact h
    | cons x ls ih => intro a h ha; simp only [List.foldl_cons]; exact ih _ (fun y hy => h y (List.mem_cons_of_mem x hy)) (by have := h x (by simp); omega)
  exact this _ _ (fun x hx => by obtain ⟨y, hy, rfl⟩ := List.mem_map.1 hx; exact h y hy) hu
theorem hiMax_ge (ls : List Ln) (un : Int) : un ≤ hiMax ls un ∧ ∀ x ∈ ls, x.hi ≤ hiMax ls un := by
  have : ∀ (ls : List Int) (a : Int), a ≤ ls.foldl max a ∧ ∀ x ∈ ls, x ≤ ls.foldl max a := by
    intro ls
    induction ls with
    | nil => intro a; exact ⟨Int.le_refl _, by simp⟩
    | cons x ls ih =>
      intro a
      simp only [List.foldl_cons]
      obtain ⟨h1, h2⟩ := ih (max a x)
      exact ⟨by omega, fun y hy => by
        rcases List.mem_cons.1 hy with rfl | hy
        · omega
        · exact h2 y hy⟩
  obtain ⟨h1, h2⟩ := this (ls.map (·.hi)) un
  exact ⟨h1, fun x hx => h2 _ (List.mem_map.2 ⟨x, hx, rfl⟩)⟩
theorem restI_pos (m : Int) (n : Nat) (l : List Summ) : ∀ k, 0 ≤ restI m n l k
  | 0 => Int.le_refl _
  | k + 1 => by rw [restI_succ]; have := restI_pos m n l k; omega
theorem rest_pos (h : Few c lc t lv l w) : 0 ≤ restF c l := by
  rw [few_rest h]
  exact restI_pos _ _ _ _
theorem mem_bLs {x : Ln} (h : x ∈ bLs c t l) : x ∈ allF c t l := mem_sortLn (List.mem_of_mem_take h)
theorem mem_bOm {x : Ln} (h : x ∈ bOm c t l) : x ∈ allF c t l := mem_sortLn (List.mem_of_mem_drop h)
theorem bRest_bd (h : Few c lc t lv l w) : 0 ≤ bRest c t l ∧ bRest c t l ≤ totalF l ∧ restF c l ≤ bRest c t l := by
  have h1 := hiMax_ge (bOm c t l) (restF c l)
  have h2 := rest_pos h
  refine ⟨by unfold bRest; omega, hiMax_le (fun x hx => (mem_all h (mem_bOm hx)).2.2.1) (rest_tot h), h1.1⟩
theorem bLs_len (h : Few c lc t lv l w) : ((bLs c t l).length : Int) = min c.Top (keysF l).length := by
  have := h.nums.top
  unfold bLs selN
  rw [List.length_take, sortLn_len, allF_len]
  omega
theorem bLs_lo (h : Few c lc t lv l w) : 0 ≤ loSum (bLs c t l) ∧ loSum (bLs c t l) ≤ totalF l := by
  have hp : ∀ x ∈ sortLn (allF c t l), 0 ≤ x.lo := fun x hx => (mem_all h (mem_sortLn hx)).2.2.2
  have h1 := loSum_take_le hp (selN c.Top (allF c t l))
  rw [loSum_perm (sortLn_perm (allF c t l))] at h1
  have h2 := lo_total (t := t) h
  exact ⟨loSum_pos fun x hx => (mem_all h (mem_bLs hx)).2.2.2, Int.le_trans h1 h2⟩
theorem bOver_eq (h : Few c lc t lv l w) : bOver c t l + loSum (bLs c t l) = totalF l ∧ 0 ≤ bOver c t l := by
  obtain ⟨h1, h2⟩ := bLs_lo (t := t) h
  have h3 := (few_sum h).2
  have e : satL (loSum (bLs c t l)) = loSum (bLs c t l) := by unfold satL; rw [if_pos (by omega)]
  unfold bOver
  rw [e]
  unfold subF
  rw [if_neg (by omega)]
  omega
/-- The built report passes the check. -/
theorem built_ok (h : Few c lc t lv l w) {win : Int} (hw : 0 ≤ win ∧ win ≤ 1099511627776) {rej : List Int} (hr : rej.length = 7) (hr0 : rej[0]? = some 0) (vl vr : Value) :
    repErr ⟨win, totalF l, vl, bOver c t l, (keysF l).length, bRest c t l, vr, bLs c t l, rej⟩ = 0 := by
  have ht := (few_sum h).2
  obtain ⟨hb0, hb1, _⟩ := bRest_bd (t := t) h
  have hl := bLs_len (t := t) h
  have hk := keysF_few h
  have htop := h.nums.top
  obtain ⟨ho, _⟩ := bOver_eq (t := t) h
  have hsort := sortLn_sorted (l := allF c t l) (by rw [keysN_all]; exact keysF_nodup l)
  have hs2 : (bLs c t l).Pairwise fun a b => befB a b = true := List.Pairwise.sublist (List.take_sublist _ _) hsort
  have hkn : (keysN (bLs c t l)).Nodup := by
    have := keys_sorted c t l
    unfold keysN bLs at *
    rw [List.map_take]
    exact List.Nodup.sublist (List.take_sublist _ _) this
  have hln : linesErr (totalF l) (bLs c t l) = 0 := by
    refine lines_no fun i hi => ?_
    unfold lnErrAt
    rw [List.getElem?_eq_getElem hi]
    obtain ⟨m1, m2, m3, m4⟩ := mem_all h (mem_bLs (List.getElem_mem hi))
    show lnErr (totalF l) (prevL (bLs c t l) i) (bLs c t l)[i] = 0
    unfold lnErr
    rw [if_neg (by omega), if_neg (by omega), if_neg (by omega)]
    cases i with
    | zero => rfl
    | succ m =>
      have hm : m < (bLs c t l).length := by omega
      have := List.pairwise_iff_getElem.1 hs2 m (m + 1) hm hi (by omega)
      simp [prevL, List.getElem?_eq_getElem hm, this]
  unfold repErr
  simp only
  rw [if_neg (by omega), if_neg (by omega), if_neg (by rw [hln]; simp), if_neg (by simpa using hkn), if_neg (by omega), if_neg (by rw [hr, hr0]; simp)]
/-- The numbers of the built report fit. -/
theorem built_w (h : Few c lc t lv l w) {win : Int} (hw : 0 ≤ win ∧ win ≤ 1099511627776) {rej : List Int} (hr : ∀ n ∈ rej, W64 n) (vl vr : Value) :
    RepW ⟨win, totalF l, vl, bOver c t l, (keysF l).length, bRest c t l, vr, bLs c t l, rej⟩ := by
  have ht := (few_sum h).2
  have ht0 := (totalF_w h).1
  obtain ⟨hb0, hb1, _⟩ := bRest_bd (t := t) h
  have hk := keysF_few h
  obtain ⟨ho, ho2⟩ := bOver_eq (t := t) h
  have := (bLs_lo (t := t) h).1
  exact ⟨show I64 win from ⟨by omega, by omega⟩, totalF_w h, show W64 (bOver c t l) from ⟨ho2, by omega⟩, show I64 ((keysF l).length : Int) from ⟨by omega, by omega⟩, show W64 (bRest c t l) from ⟨by omega, by omega⟩, bLs_w h, hr⟩
/-- A key that is not listed weighs at most the rest. -/
theorem rest_law (h : Few c lc t lv l w) {k : ByteArray} (hn : ∀ x ∈ bLs c t l, x.key ≠ k) : (lineF c t l k).2 ≤ bRest c t l := by
  by_cases hk : k.data.toList ∈ keysL l
  · have h1 : k.data.toList ∈ keysF l := ((ascF_ok _).2 _).2 hk
    have e : bA k.data.toList = k := by unfold bA; simp
    have h2 : lnOf c t l k.data.toList ∈ sortLn (allF c t l) := (sortLn_perm _).mem_iff.2 (List.mem_map.2 ⟨_, h1, rfl⟩)
    rw [← List.take_append_drop (selN c.Top (allF c t l)) (sortLn (allF c t l)), List.mem_append] at h2
    rcases h2 with h2 | h2
    · exact absurd e (hn _ h2)
    · have := (hiMax_ge (bOm c t l) (restF c l)).2 _ h2
      have e2 : (lnOf c t l k.data.toList).hi = (lineF c t l k).2 := by show (lineF c t l (bA k.data.toList)).2 = _; rw [e]
      rw [e2] at this
      exact this
  · exact Int.le_trans (line_rest h hk).2 (hiMax_ge (bOm c t l) (restF c l)).1
end
end Go.Proofs.YtiagjiaahnkefaaGreat

/- The walk of the law ReportSums. -/
namespace Go.Proofs.YtiagjiaahnkefaaGreat
open Go.RowKit Go.Sort
attribute [local go_sem ↓] exec_load_cfg
attribute [local go_sem] run_loadCfgS

theorem zeros7 : ∃ Z : List Int, (∀ w, (Instr.makeSlice 23 (.int .i64 7) (.int .i64 7)).run Tryz.prog w = .ok (.slice (some ⟨w.heap.size, 0, none⟩) 7 7) (w.alloc (.cells (wordCells Z) 25))) ∧ Z.length = 7 ∧ Z[0]? = some 0 ∧ ∀ n ∈ Z, W64 n := ⟨List.replicate 7 0, fun w => make_words 7 (by omega) w, rfl, rfl, fun n hn => by rw [List.eq_of_mem_replicate hn]; exact w64_0⟩

set_option maxHeartbeats 1600000 in
set_option maxRecDepth 100000 in
theorem sums_w (sv pv : Value) (xs P : List Int) (n : Nat) (w : World) (hsv : Rd w 1 sv n (xs.map (fun x => Value.int .i64 x))) (hpv : RdL intF 1 w pv P) :
    Calls Tryz.prog 4 #[sv, pv] w (RetBool true w) := by
  obtain ⟨Z, hmk, hz1, hz2, hz3⟩ := zeros7
  have Hmk := Lib.hid hmk
  have HZ := Lib.hid (And.intro hz1 (And.intro hz2 hz3))
  clear hmk hz1 hz2 hz3
  have HS := Lib.hid hsv
  have HP := Lib.hid hpv
  obtain ⟨sa, sc, rfl⟩ := hsv.shape
  obtain ⟨pa, pc, rfl⟩ := hpv.shape
  clear hsv hpv
  go_enter Tryz.func4, Tryz.ntmps4
  go_upto_region 2 with (first | (go_at_call 7; refine (few24_c _ xs _ _ HS.out).mono ?_; rintro e w1 ⟨c, lc, t, lv, l, win0, rej0, vl0, vr0, rfl, F1, P1, P2, P3, P4, P5, P6, P7, P8, G1⟩; (obtain ⟨la, lcp, rfl⟩ := F1.sums.rd.shape); (obtain ⟨a0, k0, rfl⟩ := P1.shape); (obtain ⟨b0, j0, rfl⟩ := P2.shape); have oc1 := F1.mem.one1; have oc2 := F1.mem.one2) | (refine alloc_cfg rfl rfl ?_; intro w2 B2 G2 z2) | (refine alloc_rep rfl rfl ?_; intro w3 A3 G3 z3; have B3 := B2.same G3) | (refine store_cfg rfl _ _ rfl _ rfl c rfl oc1 oc2 Cfg.zero (by assumption) ?_; intro w4 B4 G4; have A4 := A3.kept G4 (by simp; omega)) | (refine store_rep rfl _ _ rfl _ rfl rfl rfl rfl _ rfl (by assumption) ?_; intro w5 A5 G5; have B5 := B4.kept G5 (by simp; omega); have K5 := grownBy_new (grownBy_new (grownBy_trans G2 G3) G4 (Nat.le_refl _)) G5 (Nat.le_of_lt z2)))
  simp only [Act.put, List.setIfInBounds_toArray, List.set_cons_zero, List.set_cons_succ]
  clear P1 P2 P3 P4 P5 P6 P7 P8
  have KW := grownBy_trans G1 K5
  have F5 := Lib.hid (F1.same K5)
  have PV := Lib.hid (RdL.same HP.out KW)
  clear A5 G5 A4 G4 A3 G3 z3 B4 B3 B2 G2 z2 F1 HS HP
  have Hc1 := Lib.hid (p := ∀ w' rv, World.grownBy w5 w' none → RdL wordF 1 w' rv Z → Calls Tryz.prog 9 #[c.val, .int .i64 7, .slice la l.length lcp, rv, .slice pa P.length pc] w' (fun e w2 => (∃ vl vr, e = .returned (repV 7 (totalF l) vl (bOver c t l) ((keysF l).length : Int) (bRest c t l) vr) ∧ RdL lnF 3 w2 vl (bLs c t l) ∧ RdL wordF 1 w2 vr Z ∧ CapOk vl ∧ CapOk vr ∧ From w'.heap.size vl ∧ From w'.heap.size vr) ∧ w'.grownBy w2 none)) (fun w' rv h hr => (build_c c lc t _ l _ P _ Z 7 w' (F5.out.same h) (RdL.same PV.out h) hr (by have := HZ.out.1; omega)).mono fun e w2 ⟨vl, vr, h1, h2, h3, h4, h5, h6, h7, h8⟩ => ⟨⟨vl, vr, h1, h2, h3, h4, h5, h6, h7⟩, h8⟩)
  have Hc2 := Lib.hid (p := ∀ w' vl vr, RdL lnF 3 w' vl (bLs c t l) → RdL wordF 1 w' vr Z → CapOk vl → CapOk vr → Calls Tryz.prog 11 #[repV 7 (totalF l) vl (bOver c t l) ((keysF l).length : Int) (bRest c t l) vr] w' (RetInt 0 w')) (fun w' vl vr h1 h2 h3 h4 => by
    have := repcheck_c ⟨7, totalF l, vl, bOver c t l, (keysF l).length, bRest c t l, vr, bLs c t l, Z⟩ w' ⟨h1, h2, h3, h4⟩ (built_w F5.out (by omega) HZ.out.2.2 vl vr)
    rw [built_ok F5.out (by omega) HZ.out.1 HZ.out.2.1 vl vr] at this
    exact this)
  have Hc3 := Lib.hid fun w' (h : World.grownBy w5 w' none) => mtotal_c _ l w' (F5.out.same h).sums
  have Hc4 := Lib.hid (p := ∀ w' , World.grownBy w5 w' none → Calls Tryz.prog 13 #[.slice la l.length lcp] w' (fun e w2 => (∃ a cp, e = .returned (.slice a (keysF l).length cp)) ∧ w'.grownBy w2 none)) (fun w' h => (mkeys_c _ l w' (F5.out.same h).sums (by have := keysL_few F5.out; omega)).mono fun e w2 ⟨v, h1, h2, h3⟩ => by obtain ⟨a, cp, hv⟩ := h2.shape; exact ⟨⟨a, cp, hv ▸ h1⟩, h3⟩)
  have hov := bOver_eq (t := t) F5.out
  have hlo := bLs_lo (t := t) F5.out
  have Hll := Lib.hid (bLs_len (t := t) F5.out)
  have htt := (few_sum F5.out).2
  have Hlo := Lib.hid (p := ∀ x ∈ bLs c t l, 0 ≤ x.lo) (fun x hx => (mem_all F5.out (mem_bLs hx)).2.2.2)
  clear F5 PV
  generalize bLs c t l = Ls at *
  generalize bOver c t l = ov at *
  generalize bRest c t l = rst at *
  generalize totalF l = tot at *
  generalize (keysF l).length = K at *
  have B6 := B5.same (w' := w5.drew) (by (repeat (first | exact grownBy_refl _ _ | assumption | refine grownBy_new_block ?_ _ | refine grownBy_drew ?_ | refine grownBy_drewN ?_ _ | refine grownBy_setNew ?_ (by first | (simp; done) | omega | (simp; omega)) _)))
  have K6 : World.grownBy w5 w5.drew none := (by (repeat (first | exact grownBy_refl _ _ | assumption | refine grownBy_new_block ?_ _ | refine grownBy_drew ?_ | refine grownBy_drewN ?_ _ | refine grownBy_setNew ?_ (by first | (simp; done) | omega | (simp; omega)) _)))
  (refine Rg.wp_region_rgZ 6 #[] (fun w w' => World.grownBy w w' none) (fun k _ w v w' => match k with | 4 => (∃ vl vr, v = repV 7 tot vl ov K rst vr ∧ RdL lnF 3 w' vl Ls ∧ RdL wordF 1 w' vr Z ∧ CapOk vl ∧ CapOk vr ∧ From w.heap.size vl ∧ From w.heap.size vr) ∧ World.grownBy w w' none | _ => False) (by kernel_rfl) (by kernel_rfl) (fun w => grownBy_refl w none) (fun _ _ _ h k => grownBy_trans h k) (fun _ _ _ _ _ h => h) ?_; simp only [List.take, List.drop])
  generalize w5.drew = w6 at *
  ((refine Rg.tree_op rfl rfl ?_; intro x0 mx0 dx0); clear dx0; have BX := B6.same mx0; go_wp2_with (refine load_cfg rfl _ rfl _ rfl c (by assumption) ?_); refine ⟨grownBy_refl _ _, ?_⟩; clear BX)
  (refine Rg.tree_quiet 1 rfl (by first | exact Or.inl rfl | exact Or.inr rfl) ?_; simp only [List.take, List.drop, List.length_cons, List.length_nil, List.replicate, Nat.reduceAdd]; (try simp only [List.cons_append]); (try simp only [List.nil_append]); (repeat (go_big_quiet_step (fail))); refine wpQuiet_nil ?_)
  (refine Rg.tree_op rfl rfl ?_; intro x2 mx2 dx2)
  clear dx2
  have hmk := Hmk.out
  go_wp2_with fail
  refine ⟨World.grownBy_alloc _ _ _, ?_⟩
  clear hmk
  have Z2 := Blk.new x2 (wordCells Z) 25
  generalize x2.alloc (.cells (wordCells Z) 25) = e2 at *
  generalize x2.heap.size = zb at *
  (refine Rg.tree_quiet 1 rfl (by first | exact Or.inl rfl | exact Or.inr rfl) ?_; simp only [List.take, List.drop, List.length_cons, List.length_nil, List.replicate, Nat.reduceAdd]; (try simp only [List.cons_append]); (try simp only [List.nil_append]); (repeat (go_big_quiet_step (fail))); refine wpQuiet_nil ?_)
  (refine Rg.tree_call rfl rfl rfl ?_; intro x4 mx4 dx4; refine ⟨?_, ?_⟩; · (unfold Rg.callSpec; go_simp; (refine (Hc1.out x4 _ (grownBy_trans K6 mx4) ((Z2.same (dx4.out 2 (by omega) (by kernel_rfl))).words7 HZ.out.1)).mono ?_; rintro e w' ⟨⟨vl, vr, rfl, h⟩, g⟩; exact ⟨_, rfl, ⟨vl, vr, rfl, h⟩, g⟩)))
  clear dx4
  rintro v4 y4 ⟨⟨vl, vr, rfl, R1, R2, hc1, hc2, hf1, hf2⟩, g4⟩
  refine ⟨g4, ?_⟩
  simp only [Act.put, List.setIfInBounds_toArray, List.set_cons_zero, List.set_cons_succ]
  (refine Rg.tree_op rfl rfl ?_; intro x5 mx5 dx5)
  clear dx5
  go_wp2_with (refine alloc_rep rfl rfl ?_; intro e5 A5 G5 z5)
  have hx5 : x5.heap.size < e5.heap.size := A5.lt
  obtain ⟨bs, hbs⟩ : ∃ bs, x5.heap.size = bs := ⟨_, rfl⟩
  have hzx4 : w5.heap.size ≤ x4.heap.size := (grownBy_trans K6 mx4).size
  intro wz mwz dwz0 cwz0
  have q1 : y4.grownBy x5 none ∨ e5.grownBy x4 none := cwz0 4 5 (by omega) (by omega) (by omega)
  have qy : y4.grownBy wz none := dwz0 4 (by omega)
  have Az := A5.same (dwz0 5 (by omega) : e5.grownBy wz none)
  have Bz := B6.same mwz
  have Kz := grownBy_trans K6 mwz
  have hbr5 : w5.heap.size ≤ x5.heap.size := (grownBy_trans K6 mx5).size
  obtain ⟨a1, k1, rfl⟩ := R1.shape
  obtain ⟨a2, k2, e2'⟩ := R2.shape
  rw [HZ.out.1] at e2'
  subst e2'
  clear dwz0 cwz0 mx0 mx2 mx4 g4 mx5 mwz A5 G5 z5 Z2 B6 K6
  have hy5 : y4.grownBy x5 none → y4.heap.size ≤ bs := fun h => hbs ▸ h.size
  rw [hbs] at Az hx5 hbr5 ⊢
  have Hbs := Lib.hid hbs
  clear hbs
  go_upto_region 3 with (refine store_rep rfl _ _ rfl _ rfl rfl rfl rfl _ rfl (by assumption) ?_; intro w7 A7 G7)
  simp only [Act.put, List.setIfInBounds_toArray, List.set_cons_zero, List.set_cons_succ]
  have R17 : RdL lnF 3 w7 (.slice a1 Ls.length k1) Ls ∧ RdL wordF 1 w7 (.slice a2 7 k2) Z := by
    rcases q1 with h | h
    · have h2 := h.size
      have h3 := grownBy_new qy G7 (hy5 h)
      exact ⟨RdL.same R1 h3, RdL.same R2 h3⟩
    · have h2 := h.size
      exact ⟨(RdL.same R1 qy).keptFrom hf1 G7 (by omega), (RdL.same R2 qy).keptFrom hf2 G7 (by omega)⟩
  obtain ⟨R7, S7⟩ := R17
  have K7 := grownBy_new Kz G7 hbr5
  have hb5 := B5.lt
  have B7 := Bz.kept G7 (by simp; omega)
  clear q1 qy Az Bz Kz R1 R2 hy5 Hbs G7 hf1 hf2 B5
  have a7 := A7.cell
  go_upto_region 5 with fail
  clear a7
  have h0s : loSum (Ls.take 0) = 0 := rfl
  go_loopw [9, 28] (fun s9 s28 wk => ∃ k : Nat, k ≤ Ls.length ∧ s28 = .int .i64 k ∧ s9 = .int .u64 (ov + loSum (Ls.take k)) ∧ w7.grownBy wk none) (fun _ s28 _ => Ls.length - (intOf s28).toNat)
  case atStart => exact ⟨0, Nat.zero_le _, rfl, by rw [h0s, Int.add_zero], grownBy_refl _ _⟩
  case round =>
    obtain ⟨k, hk, rfl, rfl, hg⟩ := hrel
    clear h0s
    by_cases hlt : k < Ls.length
    · obtain ⟨g, off, cap, hv, hgl, hc⟩ := (R7.same hg).at_ lnF_len hlt
      cases hv
      have c0 := hc 0 _ rfl
      have c1 := hc 1 _ rfl
      have c2 := hc 2 _ rfl
      rw [Nat.add_zero] at c0
      clear hc
      have hx := Hlo.out Ls[k] (List.getElem_mem hlt)
      have hps : 0 ≤ loSum (Ls.take k) := loSum_pos fun x hx => Hlo.out x (List.mem_of_mem_take hx)
      have hs1 : loSum (Ls.take (k + 1)) = loSum (Ls.take k) + Ls[k].lo := by rw [List.take_succ_eq_append_getElem hlt, loSum_snoc]
      have hs2 : loSum (Ls.take (k + 1)) ≤ loSum Ls := loSum_take_le Hlo.out _
      have hm := R7.2.1
      have hwr : IntKind.u64.wrap (ov + loSum (Ls.take k) + Ls[k].lo) = ov + loSum (Ls.take k) + Ls[k].lo := IntWalk.u64_in _ (by omega)
      have HS := Lib.hid (show ov + loSum (Ls.take (k + 1)) = ov + loSum (Ls.take k) + Ls[k].lo by omega)
      clear hx hps hs1 hs2
      generalize loSum (Ls.take k) = T at *
      generalize Ls[k] = x at *
      have G2 := grownBy_new_block hg (.cells #[.string x.key, .int .u64 x.lo, .int .u64 x.hi] 40)
      have A2 := (Blk.new wr #[.string x.key, .int .u64 x.lo, .int .u64 x.hi] 40).cell
      go_wp2_with fail
      exact ⟨⟨k + 1, by omega, by go_num, by rw [HS.out], G2⟩, by simp [intOf]; omega⟩
    · have hl : Ls.take k = Ls := List.take_of_length_le (by omega)
      rw [hl, hov.1]
      go_upto_region 9 with fail
      have A8 := A7.same (grownBy_trans hg (show World.grownBy wr wr.drew none from (by (repeat (first | exact grownBy_refl _ _ | assumption | refine grownBy_new_block ?_ _ | refine grownBy_drew ?_ | refine grownBy_drewN ?_ _ | refine grownBy_setNew ?_ (by first | (simp; done) | omega | (simp; omega)) _)))))
      have B6 := B7.same (grownBy_trans hg (show World.grownBy wr wr.drew none from (by (repeat (first | exact grownBy_refl _ _ | assumption | refine grownBy_new_block ?_ _ | refine grownBy_drew ?_ | refine grownBy_drewN ?_ _ | refine grownBy_setNew ?_ (by first | (simp; done) | omega | (simp; omega)) _)))))
      have R8 := R7.same (grownBy_trans hg (show World.grownBy wr wr.drew none from (by (repeat (first | exact grownBy_refl _ _ | assumption | refine grownBy_new_block ?_ _ | refine grownBy_drew ?_ | refine grownBy_drewN ?_ _ | refine grownBy_setNew ?_ (by first | (simp; done) | omega | (simp; omega)) _)))))
      have S8 := S7.same (grownBy_trans hg (show World.grownBy wr wr.drew none from (by (repeat (first | exact grownBy_refl _ _ | assumption | refine grownBy_new_block ?_ _ | refine grownBy_drew ?_ | refine grownBy_drewN ?_ _ | refine grownBy_setNew ?_ (by first | (simp; done) | omega | (simp; omega)) _)))))
      have K6 := grownBy_trans K7 (grownBy_trans hg (show World.grownBy wr wr.drew none from (by (repeat (first | exact grownBy_refl _ _ | assumption | refine grownBy_new_block ?_ _ | refine grownBy_drew ?_ | refine grownBy_drewN ?_ _ | refine grownBy_setNew ?_ (by first | (simp; done) | omega | (simp; omega)) _)))))
      have heq : ((Ls.length : Int) == min c.Top (K : Int)) = true := by rw [Hll.out]; simp
      (refine Rg.wp_region_rgZ 39 #[] (fun w w' => World.grownBy w w' none) (fun k _ w v w' => match k with | 1 => v = .int .i64 0 ∧ World.grownBy w w' none | 13 => v = .int .u64 tot ∧ World.grownBy w w' none | 20 => (∃ a cp, v = .slice a K cp) ∧ World.grownBy w w' none | 36 => v = .bool true ∧ World.grownBy w w' none | _ => False) (by kernel_rfl) (by kernel_rfl) (fun w => grownBy_refl w none) (fun _ _ _ h k => grownBy_trans h k) (fun _ _ _ _ _ h => h) ?_; simp only [List.take, List.drop])
      generalize wr.drew = w8 at *
      clear A7 B7 R7 S7 K7 hg
      (refine Rg.tree_op rfl rfl ?_; intro x0 mx0 dx0)
      clear dx0
      have AX := A8.same mx0
      go_wp2_with (refine load_rep rfl _ rfl _ rfl AX ?_)
      refine ⟨grownBy_refl _ _, ?_⟩
      clear AX
      (refine Rg.tree_call rfl rfl rfl ?_; intro x1 mx1 dx1; refine ⟨?_, ?_⟩; · (unfold Rg.callSpec; go_simp; (refine (Hc2.out x1 _ _ (R8.same mx1) (S8.same mx1) hc1 hc2).mono ?_; rintro e w' ⟨rfl, g⟩; exact ⟨_, rfl, rfl, g⟩)))
      clear dx1
      rintro v1 y1 ⟨rfl, g1⟩
      refine ⟨g1, ?_⟩
      simp only [Act.put, List.setIfInBounds_toArray, List.set_cons_zero, List.set_cons_succ]
      (refine Rg.tree_quiet 4 rfl (by first | exact Or.inl rfl | exact Or.inr rfl) ?_; simp only [List.take, List.drop, List.length_cons, List.length_nil, List.replicate, Nat.reduceAdd]; (try simp only [List.cons_append]); (try simp only [List.nil_append]); (repeat (go_big_quiet_step (fail))); refine wpQuiet_nil ?_)
      (refine Rg.tree_op rfl rfl ?_; intro x6 mx6 dx6)
      clear dx6
      have ax := (A8.same mx6).cell
      go_wp2_with fail
      refine ⟨grownBy_refl _ _, ?_⟩
      clear ax
      (refine Rg.tree_quiet 4 rfl (by first | exact Or.inl rfl | exact Or.inr rfl) ?_; simp only [List.take, List.drop, List.length_cons, List.length_nil, List.replicate, Nat.reduceAdd]; (try simp only [List.cons_append]); (try simp only [List.nil_append]); (repeat (go_big_quiet_step (fail))); refine wpQuiet_nil ?_)
      (refine Rg.tree_op rfl rfl ?_; intro x11 mx11 dx11)
      clear dx11
      have ax := (A8.same mx11).cell
      go_wp2_with fail
      refine ⟨grownBy_refl _ _, ?_⟩
      clear ax
      (refine Rg.tree_quiet 1 rfl (by first | exact Or.inl rfl | exact Or.inr rfl) ?_; simp only [List.take, List.drop, List.length_cons, List.length_nil, List.replicate, Nat.reduceAdd]; (try simp only [List.cons_append]); (try simp only [List.nil_append]); (repeat (go_big_quiet_step (fail))); refine wpQuiet_nil ?_)
      (refine Rg.tree_callG rfl rfl rfl ?_; intro x13 mx13 dx13; refine ⟨?_, ?_⟩; · (unfold Rg.callSpec; go_simp; (refine (Hc3.out x13 (grownBy_trans K6 mx13)).mono ?_; rintro e w' ⟨rfl, g⟩; exact ⟨_, rfl, rfl, g⟩)))
      clear dx13
      rintro v y ⟨rfl, g⟩
      refine ⟨g, ?_⟩
      clear g
      simp only [Act.put, List.setIfInBounds_toArray, List.set_cons_zero, List.set_cons_succ]
      (refine Rg.tree_quiet 4 rfl (by first | exact Or.inl rfl | exact Or.inr rfl) ?_; simp only [List.take, List.drop, List.length_cons, List.length_nil, List.replicate, Nat.reduceAdd]; (try simp only [List.cons_append]); (try simp only [List.nil_append]); (repeat (go_big_quiet_step (fail))); refine wpQuiet_nil ?_)
      (refine Rg.tree_op rfl rfl ?_; intro x18 mx18 dx18)
      clear dx18
      have ax := (A8.same mx18).cell
      go_wp2_with fail
      refine ⟨grownBy_refl _ _, ?_⟩
      clear ax
      (refine Rg.tree_quiet 1 rfl (by first | exact Or.inl rfl | exact Or.inr rfl) ?_; simp only [List.take, List.drop, List.length_cons, List.length_nil, List.replicate, Nat.reduceAdd]; (try simp only [List.cons_append]); (try simp only [List.nil_append]); (repeat (go_big_quiet_step (fail))); refine wpQuiet_nil ?_)
      (refine Rg.tree_callG rfl rfl rfl ?_; intro x20 mx20 dx20; refine ⟨?_, ?_⟩; · (unfold Rg.callSpec; go_simp; (refine (Hc4.out x20 (grownBy_trans K6 mx20)).mono ?_; rintro e w' ⟨⟨a, cp, rfl⟩, g⟩; exact ⟨_, rfl, ⟨a, cp, rfl⟩, g⟩)))
      clear dx20
      rintro v y ⟨⟨ka, kc, rfl⟩, g⟩
      refine ⟨g, ?_⟩
      clear g
      simp only [Act.put, List.setIfInBounds_toArray, List.set_cons_zero, List.set_cons_succ]
      (refine Rg.tree_quiet 5 rfl (by first | exact Or.inl rfl | exact Or.inr rfl) ?_; simp only [List.take, List.drop, List.length_cons, List.length_nil, List.replicate, Nat.reduceAdd]; (try simp only [List.cons_append]); (try simp only [List.nil_append]); (repeat (go_big_quiet_step (fail))); refine wpQuiet_nil ?_)
      (refine Rg.tree_op rfl rfl ?_; intro x26 mx26 dx26)
      clear dx26
      have ax := (A8.same mx26).cell
      go_wp2_with fail
      refine ⟨grownBy_refl _ _, ?_⟩
      clear ax
      (refine Rg.tree_quiet 2 rfl (by first | exact Or.inl rfl | exact Or.inr rfl) ?_; simp only [List.take, List.drop, List.length_cons, List.length_nil, List.replicate, Nat.reduceAdd]; (try simp only [List.cons_append]); (try simp only [List.nil_append]); (repeat (go_big_quiet_step (fail))); refine wpQuiet_nil ?_)
      (refine Rg.tree_op rfl rfl ?_; intro x29 mx29 dx29)
      clear dx29
      have ax := (B6.same mx29).cell
      go_wp2_with fail
      refine ⟨grownBy_refl _ _, ?_⟩
      clear ax
      (refine Rg.tree_quiet 1 rfl (by first | exact Or.inl rfl | exact Or.inr rfl) ?_; simp only [List.take, List.drop, List.length_cons, List.length_nil, List.replicate, Nat.reduceAdd]; (try simp only [List.cons_append]); (try simp only [List.nil_append]); (repeat (go_big_quiet_step (fail))); refine wpQuiet_nil ?_)
      (refine Rg.tree_op rfl rfl ?_; intro x31 mx31 dx31)
      clear dx31
      have ax := (A8.same mx31).cell
      go_wp2_with fail
      refine ⟨grownBy_refl _ _, ?_⟩
      clear ax
      (refine Rg.tree_quiet 4 rfl (by first | exact Or.inl rfl | exact Or.inr rfl) ?_; simp only [List.take, List.drop, List.length_cons, List.length_nil, List.replicate, Nat.reduceAdd]; (try simp only [List.cons_append]); (try simp only [List.nil_append]); (repeat (go_big_quiet_step (fail))); refine wpQuiet_nil ?_)
      (refine Rg.tree_callG rfl rfl rfl ?_; intro x36 mx36 dx36; refine ⟨?_, ?_⟩; · (unfold Rg.callSpec; go_simp; (refine (awake24_c x36).mono ?_; rintro e w' ⟨rfl, g⟩; exact ⟨_, rfl, rfl, g⟩)))
      clear dx36
      rintro v y ⟨rfl, g⟩
      refine ⟨g, ?_⟩
      clear g
      simp only [Act.put, List.setIfInBounds_toArray, List.set_cons_zero, List.set_cons_succ]
      (refine Rg.tree_quiet 2 rfl (by first | exact Or.inl rfl | exact Or.inr rfl) ?_; simp only [List.take, List.drop, List.length_cons, List.length_nil, List.replicate, Nat.reduceAdd]; (try simp only [List.cons_append]); (try simp only [List.nil_append]); (repeat (go_big_quiet_step (fail))); refine wpQuiet_nil ?_)
      (refine Rg.tree_nil ?_; intro wy mwy dwy cwy)
      have KK := grownBy_trans KW (grownBy_trans K6 mwy)
      clear dwy cwy A8 B6 R8 S8
      go_wp2_with fail
      go_ret
      exact retBool rfl KK
end Go.Proofs.YtiagjiaahnkefaaGreat
