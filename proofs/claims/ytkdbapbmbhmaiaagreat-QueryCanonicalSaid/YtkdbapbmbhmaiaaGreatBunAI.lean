/- Several texts in one file; each begins with a comment that says what is proved in it. -/
import Derived.Test.YtkdbapbmbhmaiaaGreatBunAH
import Derived.StillTailTactics
import Derived.Test.YtkdbapbmbhmaiaaGreatBunAE
import Derived.Laws.BytesString
import Derived.OwnWalk
import Derived.Test.YtkdbapbmbhmaiaaGreatBunAD
import Derived.Lib.AppendStr
import Derived.Test.YtkdbapbmbhmaiaaGreatBunAC
import Derived.Laws.BitsAllLaws

/- Tags put in order by the library's insertion sort (at most 8 tags); plain: the order is the reference's. -/
namespace Go.Proofs.YtkdbapbmbhmaiaaGreat
open Go.RowKit Go.Sort

theorem cbT_lt : ∀ a b : List UInt8, Lib.compareBytes a b < 0 ↔ a < b
  | [], [] => by simp [Lib.compareBytes]
  | [], _ :: _ => by simp [Lib.compareBytes]
  | _ :: _, [] => by simp [Lib.compareBytes]
  | a :: r, b :: bs => by
    rw [List.cons_lt_cons_iff]
    unfold Lib.compareBytes
    by_cases h1 : a < b
    · simp [h1]
    · rw [if_neg h1]
      by_cases h2 : b < a
      · rw [if_pos h2]
        refine ⟨fun h => absurd h (by omega), ?_⟩
        rintro (h | ⟨rfl, _⟩)
        · exact absurd h h1
        · exact absurd h2 h1
      · rw [if_neg h2, cbT_lt r bs]
        have e : a = b := UInt8.le_antisymm (UInt8.not_lt.1 h2) (UInt8.not_lt.1 h1)
        exact ⟨fun h => .inr ⟨e, h⟩, fun h => h.elim (fun h => absurd h h1) fun h => h.2⟩
def befT (x y : TagR) : Bool := decide (nmB x < nmB y)
theorem cmpT_neg (x y : TagR) : decide (cmpT x y < 0) = befT x y := by
  unfold cmpT befT
  rw [Bool.eq_iff_iff]
  simp only [decide_eq_true_eq]
  exact cbT_lt _ _
/-- Where a tag goes: behind the last of the first k that it does not come before. -/
def insKT (x : TagR) (L : List TagR) : Nat → Nat
  | 0 => 0
  | k + 1 => if ((L[k]?).map (befT x)).getD false then insKT x L k else k + 1
theorem insKT_le (x : TagR) (L : List TagR) : ∀ k, insKT x L k ≤ k
  | 0 => Nat.le_refl _
  | k + 1 => by
    unfold insKT
    split
    · exact Nat.le_succ_of_le (insKT_le x L k)
    · exact Nat.le_refl _
def insLT (L : List TagR) (x : TagR) : List TagR := L.take (insKT x L L.length) ++ [x] ++ L.drop (insKT x L L.length)
theorem insLT_len (L : List TagR) (x : TagR) : (insLT L x).length = L.length + 1 := by
  have := insKT_le x L L.length
  unfold insLT
  simp; omega
def sortS (l : List TagR) : List TagR := l.foldl insLT []
theorem sortS_snoc (l : List TagR) (x : TagR) : sortS (l ++ [x]) = insLT (sortS l) x := by simp [sortS]
theorem sortS_len (l : List TagR) : (sortS l).length = l.length := by
  have : ∀ (l a : List TagR), (l.foldl insLT a).length = a.length + l.length := by
    intro l
    induction l with
    | nil => simp
    | cons x l ih => intro a; simp only [List.foldl_cons, ih, insLT_len, List.length_cons]; omega
  simpa [sortS] using this l []
/-- All from the place on, up to k, come after the tag; the one ahead of it does not. -/
theorem insKT_after (x : TagR) (L : List TagR) : ∀ {k j : Nat} (_ : insKT x L k ≤ j) (_ : j < k) (h : j < L.length), nmB x < nmB L[j]
  | 0, _, _, h2, _ => absurd h2 (by omega)
  | k + 1, j, h1, h2, h3 => by
    unfold insKT at h1
    by_cases hc : ((L[k]?).map (befT x)).getD false = true
    · rw [if_pos hc] at h1
      by_cases hj : j < k
      · exact insKT_after x L h1 hj h3
      · obtain rfl : j = k := by omega
        rw [List.getElem?_eq_getElem h3] at hc
        simpa [befT] using hc
    · rw [if_neg hc] at h1; omega
theorem insKT_ahead (x : TagR) (L : List TagR) : ∀ {k j : Nat} (_ : insKT x L k = j + 1) (h : j < L.length), ¬ nmB x < nmB L[j]
  | 0, _, h1, _ => absurd h1 (by simp [insKT])
  | k + 1, j, h1, h3 => by
    unfold insKT at h1
    by_cases hc : ((L[k]?).map (befT x)).getD false = true
    · rw [if_pos hc] at h1
      exact insKT_ahead x L h1 h3
    · rw [if_neg hc] at h1
      obtain rfl : k = j := by omega
      rw [List.getElem?_eq_getElem h3] at hc
      simpa [befT] using hc
theorem lessT_eq {L : List TagR} {x : TagR} {p : Nat} (hp : p ≤ L.length) (h1 : ∀ j (hj : j < L.length), j < p → nmB L[j] < nmB x) (h2 : ∀ (hj : p < L.length), ¬ nmB L[p] < nmB x) : lessT L x = p := by
  rcases Nat.lt_trichotomy (lessT L x) p with h | h | h
  · exact absurd (h1 _ (by omega) h) (lessT_at (L := L) (k := x) (by omega))
  · exact h
  · have := lessT_le L x
    exact absurd (lessT_lt h (by omega)) (h2 (by omega))
theorem insLT_eq {L : List TagR} {x : TagR} (h : AscT L) (hx : ∀ y ∈ L, nmB y ≠ nmB x) : insLT L x = insT L x := by
  have hle := insKT_le x L L.length
  have e : lessT L x = insKT x L L.length := by
    refine lessT_eq hle (fun j hj hjp => ?_) (fun hj => ?_)
    · have h1 := insKT_ahead x L (k := L.length) (j := insKT x L L.length - 1) (by omega) (by omega)
      have h2 : nmB L[insKT x L L.length - 1] < nmB x := lt_of_not h1 fun e => hx _ (List.getElem_mem _) e.symm
      by_cases hjj : j = insKT x L L.length - 1
      · subst hjj; exact h2
      · exact List.lt_trans (List.pairwise_iff_getElem.1 h j (insKT x L L.length - 1) hj (by omega) (by omega)) h2
    · exact fun h3 => List.lt_irrefl _ (List.lt_trans h3 (insKT_after x L (k := L.length) (Nat.le_refl _) hj hj))
  unfold insLT insT
  rw [e]
/-- Two next to each other have the same name. -/
def AdjEq (S : List TagR) : Prop := ∃ i, ∃ h : i + 1 < S.length, nmB S[i] = nmB S[i + 1]
theorem ins_lo {L : List TagR} {x : TagR} {p i : Nat} (hp : p ≤ L.length) (hi : i < p) : (L.take p ++ [x] ++ L.drop p)[i]? = L[i]? := by
  have e : (L.take p).length = p := by simp; omega
  rw [List.append_assoc, List.getElem?_append_left (by omega), List.getElem?_take, if_pos hi]
theorem ins_mid {L : List TagR} {x : TagR} {p : Nat} (hp : p ≤ L.length) : (L.take p ++ [x] ++ L.drop p)[p]? = some x := by
  have e : (L.take p).length = p := by simp; omega
  rw [List.append_assoc, List.getElem?_append_right (by omega), e]; simp
theorem ins_hi {L : List TagR} {x : TagR} {p i : Nat} (hp : p ≤ L.length) (hi : p ≤ i) : (L.take p ++ [x] ++ L.drop p)[i + 1]? = L[i]? := by
  have e : (L.take p).length = p := by simp; omega
  rw [List.append_assoc, List.getElem?_append_right (by omega), e, show i + 1 - p = (i - p) + 1 by omega, List.singleton_append, List.getElem?_cons_succ, List.getElem?_drop, show p + (i - p) = i by omega]
theorem adj_of {S : List TagR} {i : Nat} {x y : TagR} (h1 : S[i]? = some x) (h2 : S[i + 1]? = some y) (h : nmB x = nmB y) : AdjEq S := by
  obtain ⟨a, rfl⟩ := List.getElem?_eq_some_iff.1 h1
  obtain ⟨b, rfl⟩ := List.getElem?_eq_some_iff.1 h2
  exact ⟨i, b, h⟩
theorem adj_ins {L : List TagR} {x : TagR} (h : AdjEq L) : AdjEq (insLT L x) := by
  obtain ⟨i, hi, e⟩ := h
  have hle := insKT_le x L L.length
  unfold insLT
  by_cases h1 : insKT x L L.length ≤ i
  · refine adj_of (i := i + 1) (x := L[i]) (y := L[i + 1]) ?_ ?_ e
    · rw [ins_hi hle h1, List.getElem?_eq_getElem]
    · rw [ins_hi hle (by omega), List.getElem?_eq_getElem]
  · by_cases h2 : i + 1 < insKT x L L.length
    · refine adj_of (i := i) (x := L[i]) (y := L[i + 1]) ?_ ?_ e
      · rw [ins_lo hle (by omega), List.getElem?_eq_getElem]
      · rw [ins_lo hle h2, List.getElem?_eq_getElem]
    · have h3 : insKT x L L.length = i + 1 := by omega
      have h4 := insKT_ahead x L h3 (by omega)
      have h5 := insKT_after x L (k := L.length) (j := i + 1) (by omega) hi hi
      rw [← e] at h5
      exact absurd h5 h4
theorem adj_new {L : List TagR} {x y : TagR} (h : AscT L) (hy : y ∈ L) (e : nmB y = nmB x) : AdjEq (insLT L x) := by
  obtain ⟨i, hi, rfl⟩ := List.getElem_of_mem hy
  have hle := insKT_le x L L.length
  have h1 : i < insKT x L L.length := by
    refine Nat.lt_of_not_le fun h1 => ?_
    have := insKT_after x L (k := L.length) h1 hi hi
    rw [e] at this
    exact List.lt_irrefl _ this
  have h2 : ¬ i + 1 < insKT x L L.length := fun h2 => by
    have h3 := insKT_ahead x L (k := L.length) (j := insKT x L L.length - 1) (by omega) (by omega)
    have h4 := List.pairwise_iff_getElem.1 h i (insKT x L L.length - 1) hi (by omega) (by omega)
    rw [e] at h4
    exact h3 h4
  unfold insLT
  refine adj_of (i := i) (x := L[i]) (y := x) ?_ ?_ e
  · rw [ins_lo hle h1, List.getElem?_eq_getElem]
  · rw [show i + 1 = insKT x L L.length by omega]; exact ins_mid hle
/-- The library's order is the reference's, where the names differ; else two next to each other are the same. -/
theorem sortS_is : ∀ (l : List TagR), (Dif l → sortS l = sortT l) ∧ (¬ Dif l → AdjEq (sortS l)) := by
  intro l
  have key : ∀ k, k ≤ l.length → (Dif (l.take k) → sortS (l.take k) = sortT (l.take k)) ∧ (¬ Dif (l.take k) → AdjEq (sortS (l.take k))) := by
    intro k
    induction k with
    | zero => intro _; exact ⟨fun _ => by simp [sortS, sortT], fun h => absurd (by simp [Dif]) h⟩
    | succ k ih =>
      intro hk
      obtain ⟨i1, i2⟩ := ih (by omega)
      rw [List.take_succ_eq_append_getElem (by omega), sortS_snoc, sortT_snoc]
      by_cases hd : Dif (l.take k)
      · rw [i1 hd]
        have ha := sortT_asc hd
        constructor
        · intro h
          exact insLT_eq ha fun y hy => (dif_snoc.1 h).2 y ((sortT_mem _ _).1 hy)
        · intro h
          have : ∃ y ∈ l.take k, nmB y = nmB l[k] := by
            refine Decidable.byContradiction fun hn => h (dif_snoc.2 ⟨hd, fun y hy e => hn ⟨y, hy, e⟩⟩)
          obtain ⟨y, hy, e⟩ := this
          exact adj_new ha ((sortT_mem _ _).2 hy) e
      · exact ⟨fun h => absurd (dif_snoc.1 h).1 hd, fun _ => adj_ins (i2 hd)⟩
  have := key l.length (Nat.le_refl _)
  rwa [List.take_of_length_le (Nat.le_refl _)] at this
theorem asc_no_adj {S : List TagR} (h : AscT S) : ¬ AdjEq S := by
  rintro ⟨i, hi, e⟩
  have := List.pairwise_iff_getElem.1 h i (i + 1) (by omega) hi (by omega)
  rw [e] at this
  exact List.lt_irrefl _ this
theorem mid_atT (S R : List TagR) (x : TagR) {j : Nat} (hj : j ≤ S.length) : (S.take j ++ [x] ++ S.drop j ++ R)[j]? = some x := by
  have e : (S.take j).length = j := by simp; omega
  rw [List.append_assoc, List.append_assoc, List.getElem?_append_right (by omega), e]; simp
theorem mid_beforeT (S R : List TagR) (x : TagR) {j k : Nat} (hj : j ≤ S.length) (hk : k < j) : (S.take j ++ [x] ++ S.drop j ++ R)[k]? = S[k]? := by
  have e : (S.take j).length = j := by simp; omega
  rw [List.append_assoc, List.append_assoc, List.getElem?_append_left (by omega), List.getElem?_take, if_pos hk]
theorem mid_lenT (S R : List TagR) (x : TagR) (j : Nat) : (S.take j ++ [x] ++ S.drop j ++ R).length = S.length + 1 + R.length := by
  simp; omega
theorem mid_swapT (S R : List TagR) (x : TagR) {j : Nat} (hj : j + 1 ≤ S.length) : ((S.take (j + 1) ++ [x] ++ S.drop (j + 1) ++ R).set (j + 1) S[j]).set j x = S.take j ++ [x] ++ S.drop j ++ R := by
  have e1 : (S.take (j + 1)).length = j + 1 := by simp; omega
  have e2 : (S.take j).length = j := by simp; omega
  have e3 : S.take (j + 1) = S.take j ++ [S[j]] := List.take_succ_eq_append_getElem (by omega)
  have e4 : S.drop j = S[j] :: S.drop (j + 1) := List.drop_eq_getElem_cons (by omega)
  rw [List.append_assoc, List.append_assoc, List.set_append_right _ _ (by omega), e1, Nat.sub_self, e3]
  simp only [List.cons_append, List.nil_append, List.set_cons_zero, List.append_assoc]
  rw [List.set_append_right _ _ (by omega), e2, Nat.sub_self]
  simp only [List.set_cons_zero]
  rw [e4, List.cons_append]
/-- A whole tag is stored. -/
theorem Own.storeT2 {B : Nat} {w : World} {g n cap : Nat} {l : List TagR} (h : Own tagF 2 76 B w (.slice (some ⟨g, 0, none⟩) n cap) l) {i : Nat} (hi : i < l.length) (y : TagR) :
    Own tagF 2 76 B ((w.setCell ⟨g, i * 2, none⟩ (.string y.name)).setCell ⟨g, i * 2 + 1, none⟩ (.string y.value)) (.slice (some ⟨g, 0, none⟩) n cap) (l.set i y) ∧
      w.grownBy ((w.setCell ⟨g, i * 2, none⟩ (.string y.name)).setCell ⟨g, i * 2 + 1, none⟩ (.string y.value)) (some g) := by
  have h1 := h.stored tagF_len hi (show 0 < 2 by omega) (.string y.name) ⟨y.name, l[i].value⟩ rfl
  have h2 := h1.1.stored tagF_len (i := i) (by simpa using hi) (show 1 < 2 by omega) (.string y.value) y (by simp [tagF])
  refine ⟨?_, grownBy_trans h1.2 h2.2⟩
  have := h2.1
  rw [List.set_set] at this
  simpa using this

/-! ### The insertion sort -/
abbrev sortTFn : Value := .func (Fn.func 72) #[] #[]
theorem sorted_oneT (l : List TagR) : sortS (l.take 1) ++ l.drop 1 = l := by
  cases l with
  | nil => rfl
  | cons x l => simp [sortS, insLT, insKT]

set_option maxHeartbeats 1000000 in
set_option maxRecDepth 100000 in
theorem isort_cT (B : Nat) (a : Option Addr) (c : Nat) (l : List TagR) (w : World) (h : Own tagF 2 76 B w (.slice a l.length c) l) (hl : l.length ≤ 1000000) :
    Calls Tryz.prog 91 #[.slice a l.length c, .int .i64 0, .int .i64 l.length, sortTFn] w fun e w' =>
      e = .returned (.tuple #[]) ∧ Own tagF 2 76 B w' (.slice a l.length c) (sortS l) ∧ w.grownBy w' (Value.ownBlock (.slice a l.length c)) := by
  have hm := h.len
  have H := Lib.hid h
  have hll : (l.length : Int) ≤ 1000000 := by omega
  clear h
  generalize hV : (Value.slice a l.length c).ownBlock = rb
  have HV := Lib.hid hV
  clear hV
  go_enter Tryz.func91, Tryz.ntmps91
  go_wp2_with fail
  go_loopw [8, 9, 18, 19] (fun s8 _ _ _ wk => ∃ (i : Nat), 1 ≤ i ∧ s8 = .int .i64 i ∧ Own tagF 2 76 B wk (.slice a l.length c) (sortS (l.take i) ++ l.drop i) ∧ w.grownBy wk rb) (fun s8 _ _ _ _ => l.length + 1 - (RowKit.intOf s8).toNat)
  case atStart => exact ⟨1, by omega, rfl, by rw [sorted_oneT]; exact H.out, grownBy_refl _ _⟩
  case round =>
    obtain ⟨i, hi, rfl, hO, hg⟩ := hrel
    by_cases hil : i < l.length
    · have hdr : l.drop i = l[i] :: l.drop (i + 1) := List.drop_eq_getElem_cons hil
      have HS := Lib.hid (show insLT (sortS (l.take i)) l[i] = sortS (l.take (i + 1)) by rw [List.take_succ_eq_append_getElem hil, sortS_snoc])
      have hSl : (sortS (l.take i)).length = i := by rw [sortS_len, List.length_take]; omega
      have hO2 : Own tagF 2 76 B wr (.slice a l.length c) ((sortS (l.take i)).take i ++ [l[i]] ++ (sortS (l.take i)).drop i ++ l.drop (i + 1)) := by
        rw [List.take_of_length_le (by omega), List.drop_of_length_le (by omega), List.append_nil, List.append_assoc]
        rw [hdr] at hO
        exact hO
      have hRl : (l.drop (i + 1)).length = l.length - (i + 1) := by simp
      have HO := Lib.hid hO2
      clear hO hO2 hdr
      generalize sortS (l.take i) = S at *
      obtain ⟨R, hR⟩ : ∃ R, l.drop (i + 1) = R := ⟨_, rfl⟩
      have HR := Lib.hid hR
      rw [hR] at hRl HO
      clear hR
      generalize l[i] = x at *
      subst hSl
      have HK := Lib.hid (show insLT S x = S.take (insKT x S S.length) ++ [x] ++ S.drop (insKT x S S.length) from rfl)
      obtain ⟨P, hP⟩ : ∃ P, insKT x S S.length = P := ⟨_, rfl⟩
      have Hst := Lib.hid hP
      rw [hP] at HK
      clear hP
      have HRl := Lib.hid hRl
      clear hRl
      go_wp2_with fail
      go_loopw [9, 18, 19] (fun s9 _ _ wk => ∃ j : Nat, j ≤ S.length ∧ s9 = .int .i64 j ∧ insKT x S j = P ∧ Own tagF 2 76 B wk (.slice a l.length c) (S.take j ++ [x] ++ S.drop j ++ R) ∧ w.grownBy wk rb) (fun s9 _ _ _ => (RowKit.intOf s9).toNat)
      case atStart => exact ⟨S.length, Nat.le_refl _, rfl, Hst.out, HO.out, hg⟩
      case round =>
        clear HO hg
        obtain ⟨j, hj, rfl, hik, hO, hg⟩ := hrel
        have Hik := Lib.hid hik
        clear hik
        have hML := mid_lenT S R x j
        have hmj := mid_atT S R x hj
        obtain ⟨gv, cv, hv, hBg, hgv, hcv, hcx, hfz⟩ := hO.at_ tagF_len (i := j) (by omega)
        obtain ⟨rfl, -, rfl⟩ : a = some ⟨gv, 0, none⟩ ∧ l.length = (S.take j ++ [x] ++ S.drop j ++ R).length ∧ c = cv := by simpa only [Value.slice.injEq] using hv
        clear hv
        have ex : (S.take j ++ [x] ++ S.drop j ++ R)[j]'(by omega) = x := by
          have := List.getElem?_eq_getElem (l := S.take j ++ [x] ++ S.drop j ++ R) (i := j) (by omega)
          rw [hmj] at this; exact (Option.some.inj this).symm
        rw [ex] at hcx
        have c0 := hcx 0 _ rfl
        have c1 := hcx 1 _ rfl
        rw [Nat.add_zero] at c0
        clear hcx hmj ex
        by_cases hj0 : 0 < j
        · have hd : decide ((0 : Int) < (j : Int)) = true := decide_eq_true (by omega)
          obtain ⟨k, hk⟩ : ∃ k, j = k + 1 := ⟨j - 1, by omega⟩
          have hkS : k < S.length := by omega
          have hmk := mid_beforeT S R x hj (k := k) (by omega)
          rw [List.getElem?_eq_getElem hkS] at hmk
          obtain ⟨gv', cv', hv', -, -, -, hcy, -⟩ := hO.at_ tagF_len (i := k) (by omega)
          obtain ⟨hg', -, -⟩ : some ⟨gv, 0, none⟩ = some (⟨gv', 0, none⟩ : Addr) ∧ l.length = (S.take j ++ [x] ++ S.drop j ++ R).length ∧ c = cv' := by simpa only [Value.slice.injEq] using hv'
          cases hg'
          clear hv'
          have ey : (S.take j ++ [x] ++ S.drop j ++ R)[k]'(by omega) = S[k] := by
            have := List.getElem?_eq_getElem (l := S.take j ++ [x] ++ S.drop j ++ R) (i := k) (by omega)
            rw [hmk] at this; exact (Option.some.inj this).symm
          rw [ey] at hcy
          have d0 := hcy 0 _ rfl
          have d1 := hcy 1 _ rfl
          rw [Nat.add_zero] at d0
          clear hcy hmk ey
          have hst := Lib.hid (show insKT x S j = if befT x S[k] then insKT x S k else j by rw [hk, insKT, List.getElem?_eq_getElem hkS]; rfl)
          have hms := Lib.hid (mid_swapT S R x (j := k) (by omega))
          generalize S[k] = y at *
          have hcn := cmpT_neg x y
          have hjl : (j : Int) < (l.length : Int) := by omega
          have hkl : (k : Int) < (l.length : Int) := by omega
          have hk0 : (0 : Int) ≤ (k : Int) := by omega
          have hs1 : IntKind.i64.wrap ((j : Int) - 1) = (k : Int) := by rw [IntWalk.i64_in _ (by omega)]; omega
          have hs4 : (j : Int) - 1 = (k : Int) := by omega
          have r0 := cell_regrown c0
          have r1 := cell_regrown c1
          have p0 := cell_regrown d0
          have p1 := cell_regrown d1
          have r4 := call_re (w := wr) fun w' hg => sortTFn_c x y w'
          have HC := Lib.hid fun w' (h : World.grownBy wr w' none) => And.intro (((grownBy_cells h).1 gv _ hgv (by simp)).trans c0) (And.intro (((grownBy_cells h).1 gv _ hgv (by simp)).trans c1) (And.intro (((grownBy_cells h).1 gv _ hgv (by simp)).trans d0) (((grownBy_cells h).1 gv _ hgv (by simp)).trans d1)))
          have HFz := Lib.hid fun w' (h : World.grownBy wr w' none) o => ((grownBy_cells h).2 gv o hgv (by simp)).trans (hfz o)
          have Hk := Lib.hid hk
          have HML := Lib.hid hML
          clear hk hML hfz c0 c1 d0 d1
          generalize cmpT x y = q at *
          generalize befT x y = bb at *
          go_wp2_with fail
          (refine Tail.wp_region_tail_grown 17 (by kernel_rfl) (by kernel_rfl) ?_; simp only [List.take, List.drop]; (repeat (go_big_quiet_step (with_reducible exact r4 _ _))); refine wpQuiet_nil ?_; rintro _ ⟨⟨d5, os5⟩, rfl⟩)
          have K3 := grownBy_trans hg (grownBy_some (grown_re wr d5 os5) rb)
          have O3 := hO.same (grown_re wr d5 os5)
          have G3 := grown_re wr d5 os5
          generalize grow (redrawn wr d5) os5 = w3 at *
          clear r0 r1 p0 p1 r4 hs1
          cases bb
          · have Hst2 := Lib.hid (hst.out.trans (if_neg (by simp)))
            clear hst
            go_wp2_with fail
            exact ⟨⟨S.length + 1, by omega, by go_num, by rw [← HS.out, HK.out, ← Hik.out, Hst2.out, HR.out]; exact O3, K3⟩, by simp [RowKit.intOf]; omega⟩
          · have Hst2 := Lib.hid (hst.out.trans (if_pos rfl))
            clear hst
            go_wp2_with fail
            have Gd : wr.grownBy w3.drew none := grownBy_trans G3 (by (repeat (first | exact grownBy_refl _ _ | assumption | refine grownBy_new_block ?_ _ | refine grownBy_drew ?_ | refine grownBy_drewN ?_ _ | refine grownBy_setNew ?_ (by first | (simp; done) | omega | (simp; omega)) _)))
            (refine Rg.wp_region_rgZ 14 #[false, false, true, true, true, false, false, false, false, false, false, false, false, false] (fun w w' => World.grownBy w w' none) (fun _ _ _ _ _ => False) (by kernel_rfl) (by kernel_rfl) (fun w => grownBy_refl w none) (fun _ _ _ h k => grownBy_trans h k) (fun _ _ _ _ _ h => h) ?_; simp only [List.take, List.drop])
            (refine Rg.tree_quiet 9 rfl (by first | exact Or.inl rfl | exact Or.inr rfl) ?_; simp only [List.take, List.drop, List.length_cons, List.length_nil, List.replicate, Nat.reduceAdd]; (try simp only [List.cons_append]); (try simp only [List.nil_append]); (repeat (go_big_quiet_step (fail))); refine wpQuiet_nil ?_)
            (refine Rg.tree_op rfl rfl ?_; intro y9 my9 dy9)
            clear dy9
            obtain ⟨_, _, d0, d1⟩ := HC.out y9 (grownBy_trans Gd my9)
            go_wp2_with fail
            refine ⟨grownBy_refl _ _, ?_⟩
            clear d0 d1
            (refine Rg.tree_quiet 3 rfl (by first | exact Or.inl rfl | exact Or.inr rfl) ?_; simp only [List.take, List.drop, List.length_cons, List.length_nil, List.replicate, Nat.reduceAdd]; (try simp only [List.cons_append]); (try simp only [List.nil_append]); (repeat (go_big_quiet_step (fail))); refine wpQuiet_nil ?_)
            (refine Rg.tree_op rfl rfl ?_; intro y13 my13 dy13)
            clear dy13
            obtain ⟨c0, c1, _, _⟩ := HC.out y13 (grownBy_trans Gd my13)
            go_wp2_with fail
            refine ⟨grownBy_refl _ _, ?_⟩
            clear c0 c1
            (refine Rg.tree_nil ?_; intro z mz dz cz)
            clear dz cz
            have hfz := HFz.out z (grownBy_trans Gd mz)
            obtain ⟨c0, c1, d0, d1⟩ := HC.out z (grownBy_trans Gd mz)
            have n0 : ¬ (k * 2 = j * 2) := by have := Hk.out; omega
            have n1 : ¬ (j * 2 = k * 2) := by have := Hk.out; omega
            have n2 : ¬ (k * 2 = j * 2 + 1) := by have := Hk.out; omega
            have n3 : ¬ (j * 2 + 1 = k * 2) := by have := Hk.out; omega
            have n4 : ¬ (k * 2 + 1 = j * 2) := by have := Hk.out; omega
            have n5 : ¬ (j * 2 = k * 2 + 1) := by have := Hk.out; omega
            have n6 : ¬ (k * 2 + 1 = j * 2 + 1) := by have := Hk.out; omega
            have n7 : ¬ (j * 2 + 1 = k * 2 + 1) := by have := Hk.out; omega
            go_wp2_with fail
            obtain rfl := Hk.out
            have Oz := O3.same (grownBy_trans (show World.grownBy w3 w3.drew none from (by (repeat (first | exact grownBy_refl _ _ | assumption | refine grownBy_new_block ?_ _ | refine grownBy_drew ?_ | refine grownBy_drewN ?_ _ | refine grownBy_setNew ?_ (by first | (simp; done) | omega | (simp; omega)) _)))) mz)
            have hlt1 : k + 1 < (S.take (k + 1) ++ [x] ++ S.drop (k + 1) ++ R).length := by rw [mid_lenT]; omega
            have s1 := Oz.storeT2 hlt1 y
            have s2 := s1.1.storeT2 (i := k) (by rw [List.length_set]; omega) x
            have hrb : some gv = rb := HV.out
            have s3 := s2.1
            rw [hms.out] at s3
            exact ⟨⟨k, by omega, rfl, by rw [← Hik.out, Hst2.out], s3, grownBy_trans K3 (grownBy_trans (grownBy_some (grownBy_trans (show World.grownBy w3 w3.drew none from (by (repeat (first | exact grownBy_refl _ _ | assumption | refine grownBy_new_block ?_ _ | refine grownBy_drew ?_ | refine grownBy_drewN ?_ _ | refine grownBy_setNew ?_ (by first | (simp; done) | omega | (simp; omega)) _)))) mz) rb) (hrb ▸ grownBy_trans s1.2 s2.2))⟩, by simp [RowKit.intOf]⟩
        · obtain rfl : j = 0 := by omega
          have hd : decide ((0 : Int) < ((0 : Nat) : Int)) = false := rfl
          clear c0 c1
          go_wp2_with fail
          go_quiet (fail)
          go_wp2_with fail
          have hik2 : P = 0 := by rw [← Hik.out]; rfl
          exact ⟨⟨S.length + 1, by omega, by go_num, by rw [← HS.out, HK.out, HR.out, hik2]; exact hO.same (grownBy_drewN (grownBy_refl _ _) _), grownBy_drewN hg _⟩, by simp [RowKit.intOf]; omega⟩
    · have e1 : sortS (l.take i) ++ l.drop i = sortS l := by rw [List.take_of_length_le (by omega), List.drop_of_length_le (by omega), List.append_nil]
      rw [e1] at hO
      go_wp2_with fail
      go_end0
      exact ⟨rfl, hO, hg⟩

/-! ### The library's sort, for a few tags: the insertion sort -/
set_option maxHeartbeats 400000 in
theorem pdqT_c (B : Nat) (a : Option Addr) (c : Nat) (l : List TagR) (q : Int) (w : World) (h : Own tagF 2 76 B w (.slice a l.length c) l) (hl : l.length ≤ 8) :
    Calls Tryz.prog 84 #[.slice a l.length c, .int .i64 0, .int .i64 l.length, .int .i64 q, sortTFn] w fun e w' =>
      e = .returned (.tuple #[]) ∧ Own tagF 2 76 B w' (.slice a l.length c) (sortS l) ∧ w.grownBy w' (Value.ownBlock (.slice a l.length c)) := by
  have hc := Lib.hid (isort_cT B a c l w h (by omega))
  have h1 : (l.length : Int) ≤ 12 := by omega
  have h2 : wrap64 (l.length : Int) = (l.length : Int) := by unfold wrap64; omega
  clear h
  go_enter Tryz.func84, Tryz.ntmps84
  go_wp2_with fail
  go_loopw [1, 2, 3, 10, 11, 12] (fun s1 s2 _ _ _ _ wk => s1 = .int .i64 0 ∧ s2 = .int .i64 l.length ∧ w = wk) (fun _ _ _ _ _ _ _ => 0)
  case atStart => exact ⟨rfl, rfl, rfl⟩
  case round =>
    obtain ⟨rfl, rfl, rfl⟩ := hrel
    go_wp2_with (go_at_call 91; refine hc.out.mono ?_; rintro e w2 ⟨rfl, o2, g2⟩)
    refine bodyPost_ret (results_none (h := by kernel_rfl) ..) rfl ?_
    exact ⟨rfl, o2, g2⟩
set_option maxHeartbeats 400000 in
theorem sortFuncT_c (B : Nat) (a : Option Addr) (c : Nat) (l : List TagR) (w : World) (h : Own tagF 2 76 B w (.slice a l.length c) l) (hl : l.length ≤ 8) :
    Calls Tryz.prog 71 #[.slice a l.length c, sortTFn] w fun e w' =>
      e = .returned (.tuple #[]) ∧ Own tagF 2 76 B w' (.slice a l.length c) (sortS l) ∧ w.grownBy w' (Value.ownBlock (.slice a l.length c)) := by
  have hc := Lib.hid fun q => pdqT_c B a c l q w h hl
  have hw : IntKind.u64.wrap (l.length : Int) = (l.length : Int) := IntWalk.u64_in _ (by omega)
  have hb := Lib.hid fun n w' => Tryz.bits_Len n w'
  clear h
  go_enter Tryz.func71, Tryz.ntmps71
  go_wp2_with (first
    | (go_at_call 85; refine (hb.out _ _ (by omega) (by omega)).mono ?_; rintro e w1 ⟨rfl, rfl⟩)
    | (go_at_call 84; refine (hc.out _).mono ?_; rintro e w2 ⟨rfl, o2, g2⟩))
  go_end0
  exact ⟨rfl, o2, g2⟩
end Go.Proofs.YtkdbapbmbhmaiaaGreat

/- Tags put in order: the reference. -/
namespace Go.Proofs.YtkdbapbmbhmaiaaGreat
open Go.RowKit Go.Sort

theorem blT_of (a b : ByteArray) : Op.bytesLess a.toList b.toList = decide (a.data.toList < b.data.toList) := by
  rw [ByteArray.toList_eq, ByteArray.toList_eq, bytesLess_eq]
theorem beT_of (a b : ByteArray) : (a.toList == b.toList) = decide (a.data.toList = b.data.toList) := by
  rw [ByteArray.toList_eq, ByteArray.toList_eq, Bool.eq_iff_iff]; simp
def SortP (L : List TagR) (w : World) (e : Ending) (w' : World) : Prop := ∃ v, e = .returned (.tuple #[v, .int .i64 (sortE L)]) ∧ Own tagF 2 76 w.heap.size w' v (if sortE L = 0 then sortT L else []) ∧ w.grownBy w' none
theorem sortP_no {L : List TagR} {w w' : World} {E : Int} (h : sortE L = E) (h0 : E ≠ 0) (hg : w.grownBy w' none) : SortP L w (.returned (.tuple #[.slice none 0 0, .int .i64 E])) w' :=
  ⟨_, by rw [h], by rw [if_neg (by omega)]; exact Own.nil _ _ _ _ _, hg⟩
def TagsRd (w : World) (v : Value) (L : List TagR) : Prop := RdL tagF 2 w v L

set_option maxHeartbeats 2000000 in
set_option maxRecDepth 100000 in
theorem rsortT_c (v : Value) (L : List TagR) (w : World) (h : RdL tagF 2 w v L) (hW : ∀ t ∈ L, TagW t) : Calls Tryz.prog 40 #[v] w (SortP L w) := by
  obtain ⟨a, c, rfl⟩ := h.shape
  have hm := h.2.1
  have H := Lib.hid h
  have HW := Lib.hid hW
  clear h hW
  by_cases h0 : L.length = 0
  · have HE := Lib.hid (sortE_few (.inl h0))
    obtain rfl : L = [] := List.eq_nil_of_length_eq_zero h0
    clear h0
    go_enter Tryz.func40, Tryz.ntmps40
    go_wp2_with fail
    go_ret2
    exact sortP_no HE.out (by decide) (grownBy_refl _ _)
  have i0 : ((L.length : Int) == 0) = false := beq_eq_false_iff_ne.2 (by omega)
  by_cases h8 : 8 < L.length
  · have HE := Lib.hid (sortE_few (.inr h8))
    have i8 : (8 : Int) < (L.length : Int) := by omega
    clear h0
    go_enter Tryz.func40, Tryz.ntmps40
    go_wp2_with fail
    go_ret2
    exact sortP_no HE.out (by decide) (grownBy_refl _ _)
  have i8 : (L.length : Int) ≤ 8 := by omega
  have Hfew := Lib.hid (show ¬ (L.length = 0 ∨ 8 < L.length) by omega)
  clear h0
  go_enter Tryz.func40, Tryz.ntmps40
  go_wp2_with fail
  go_loopw [21] (fun s21 wk => ∃ i : Nat, i ≤ L.length ∧ s21 = .int .i64 i ∧ (∀ j (hj : j < L.length), j < i → tagE L[j] = 0) ∧ w.grownBy wk none) (fun s21 _ => L.length - (RowKit.intOf s21).toNat)
  case atStart => exact ⟨0, Nat.zero_le _, rfl, by intro j hj h; omega, grownBy_refl _ _⟩
  case round =>
    obtain ⟨i, hi, rfl, hall, hg⟩ := hrel
    have Hall := Lib.hid hall
    have HGr := Lib.hid hg
    clear hall
    by_cases hlt : i < L.length
    · obtain ⟨gx, ox, cx, hv, hgx, hcx⟩ := (RdL.same H.out hg).at_ tagF_len hlt
      cases hv
      have c0 := hcx 0 _ rfl
      have c1 := hcx 1 _ rfl
      rw [Nat.add_zero] at c0
      have hw := HW.out _ (List.getElem_mem hlt)
      have HF := Lib.hid (show ∀ E : Int, E ≠ 0 → tagE L[i] = E → sortE L = E from fun E hE h => by
        have h1 := tagsE_at hlt Hall.out (by rw [h]; exact hE)
        rw [sortE_tag Hfew.out (by rw [h1, h]; exact hE), h1, h])
      have HS := Lib.hid (show tagE L[i] = 0 → ∀ j (hj : j < L.length), j < i + 1 → tagE L[j] = 0 from fun h j hj hji => by
        rcases Nat.lt_or_ge j i with h1 | h1
        · exact Hall.out j hj h1
        · obtain rfl : j = i := by omega
          exact h)
      have C := Lib.hid fun w' => rtag_c L[i] w' hw
      clear hcx hw Hall hg
      generalize L[i] = x at *
      generalize tagE x = EE at *
      by_cases hE : EE = 0
      · subst hE
        have HS2 := Lib.hid (HS.out rfl)
        clear HF HS
        go_wp2_with (go_at_call 57; refine (C.out _).mono ?_; rintro e w2 ⟨rfl, g2⟩)
        exact ⟨⟨i + 1, by omega, by go_num, HS2.out, grownBy_trans HGr.out (grownBy_trans (World.grownBy_alloc _ _ _) g2)⟩, by simp [RowKit.intOf]; omega⟩
      · have he2 : (EE != 0) = true := by simpa using hE
        have he3 : (EE == 0) = false := by simpa using hE
        have HF2 := Lib.hid (HF.out EE hE rfl)
        have HE0 := Lib.hid hE
        clear HF HS hE
        go_wp2_with (go_at_call 57; refine (C.out _).mono ?_; rintro e w2 ⟨rfl, g2⟩)
        go_ret2
        exact sortP_no HF2.out HE0.out (grownBy_trans HGr.out (grownBy_trans (World.grownBy_alloc _ _ _) g2))
    · have HT := Lib.hid (show tagsE L = 0 from tagsE_no fun t ht => by
        obtain ⟨j, hj, rfl⟩ := List.getElem_of_mem ht
        exact Hall.out j hj (by omega))
      have hi1 : ¬ (i : Int) < (L.length : Int) := by omega
      clear Hall
      go_upto_region 12 with fail
      clear hlt hi1
      go_loopw [33, 7] (fun s33 s7 wk => ∃ (j : Nat), j ≤ L.length ∧ s33 = .int .i64 j ∧ Dif (L.take j) ∧ Own tagF 2 76 w.heap.size wk s7 (sortT (L.take j)) ∧ w.grownBy wk none) (fun s33 _ _ => L.length - (RowKit.intOf s33).toNat)
      case atStart => exact ⟨0, Nat.zero_le _, rfl, by simp [Dif], Own.nil _ _ _ _ _, hg⟩
      case round =>
        clear hg HGr hi
        obtain ⟨j, hj, rfl, hdif, hO, hg⟩ := hrel
        have HDf := Lib.hid hdif
        clear hdif
        by_cases hjl : j < L.length
        · obtain ⟨gx, ox, cx, hv, hgx, hcx⟩ := (RdL.same H.out hg).at_ tagF_len hjl
          cases hv
          have c0 := hcx 0 _ rfl
          have c1 := hcx 1 _ rfl
          rw [Nat.add_zero] at c0
          have HT2 := Lib.hid (show sortT (L.take (j + 1)) = insT (sortT (L.take j)) L[j] by rw [List.take_succ_eq_append_getElem hjl, sortT_snoc])
          have hfnd := asc_found (x := L[j]) (sortT_asc HDf.out)
          have HNo := Lib.hid (p := (∃ (hk : lessT (sortT (L.take j)) L[j] < (sortT (L.take j)).length), nmB (sortT (L.take j))[lessT (sortT (L.take j)) L[j]] = nmB L[j]) → sortE L = 5) (fun h => by
            obtain ⟨y, hy, e⟩ := hfnd.2 h
            refine sortE_dup Hfew.out HT.out fun hd => ?_
            have h2 := hd.take (j + 1)
            rw [List.take_succ_eq_append_getElem hjl] at h2
            exact (dif_snoc.1 h2).2 y ((sortT_mem _ _).1 hy) e)
          have HYes := Lib.hid (p := ¬ (∃ (hk : lessT (sortT (L.take j)) L[j] < (sortT (L.take j)).length), nmB (sortT (L.take j))[lessT (sortT (L.take j)) L[j]] = nmB L[j]) → Dif (L.take (j + 1))) (fun h => by
            rw [List.take_succ_eq_append_getElem hjl]
            exact dif_snoc.2 ⟨HDf.out, fun y hy e => h (hfnd.1 ⟨y, (sortT_mem _ _).2 hy, e⟩)⟩)
          have hsl : (sortT (L.take j)).length ≤ 8 := by rw [sortT_len, List.length_take]; omega
          clear hcx hfnd
          generalize sortT (L.take j) = S at *
          generalize L[j] = x at *
          obtain ⟨oa, oc, rfl⟩ := hO.shape
          go_upto_region 14 with fail
          have O2 := hO.same (World.grownBy_alloc wr (.cells #[.string x.name, .string x.value] 76) none)
          have G2 := grownBy_new_block hg (.cells #[.string x.name, .string x.value] 76)
          have A2 := Blk.new wr #[.string x.name, .string x.value] 76
          generalize wr.alloc (.cells #[.string x.name, .string x.value] 76) = w2 at *
          generalize wr.heap.size = gk at *
          have HN1 := Lib.hid (lessT_le S x)
          have HN2 := Lib.hid fun i (h : i < lessT S x) h2 => lessT_lt (k := x) h h2
          have HN3 := Lib.hid fun h => lessT_at (L := S) (k := x) h
          have HI := Lib.hid (show insT S x = S.take (lessT S x) ++ [x] ++ S.drop (lessT S x) from rfl)
          clear hO hg c0 c1 hgx
          generalize lessT S x = N at *
          have hN := HN1.out
          go_cut [10] (fun s10 wx => s10 = .int .i64 0 ∧ w2 = wx)
          case first =>
            go_wp2_with fail
            go_meet
            exact ⟨rfl, rfl⟩
          obtain ⟨rfl, rfl⟩ := hcut
          rename_i hK
          refine hK _ _ ?_
          apply wp_seq_k
          intro K1 hK1
          go_cut [10, 37, 38, 39, 40, 41, 42, 43, 44, 45, 46, 47, 48, 49, 50, 51, 52] (fun s10 _ _ _ _ _ _ _ _ _ _ _ _ _ _ _ _ wx => s10 = .int .i64 N ∧ w2.grownBy wx none)
          case first =>
            go_wp2_with fail
            go_loopw [10] (fun s10 wk => ∃ m : Nat, m ≤ N ∧ s10 = .int .i64 m ∧ w2.grownBy wk none) (fun s10 _ => N - (RowKit.intOf s10).toNat)
            case atStart => exact ⟨0, Nat.zero_le _, rfl, grownBy_refl _ _⟩
            case round =>
              obtain ⟨m, hm, rfl, hgm⟩ := hrel
              have am := (A2.same hgm).cell
              by_cases hml : m < S.length
              · obtain ⟨go, oo, co, hvo, hgo, cm⟩ := (RdL.same O2.rd hgm).at_ tagF_len hml
                cases hvo
                have cm0 := cm 0 _ rfl
                have cm1 := cm 1 _ rfl
                rw [Nat.add_zero] at cm0
                have hml2 : (m : Int) < (S.length : Int) := by omega
                have hbl := blT_of S[m].name x.name
                clear cm
                by_cases hmN : m < N
                · have hlt := HN2.out m hmN hml
                  rw [decide_eq_true (show S[m].name.data.toList < x.name.data.toList from hlt)] at hbl
                  generalize S[m] = y at *
                  clear hlt
                  go_wp2_with fail
                  go_quiet (fail)
                  go_wp2_with fail
                  exact ⟨⟨m + 1, by omega, by go_num, grownBy_drewN hgm _⟩, by simp [RowKit.intOf]; omega⟩
                · obtain rfl : m = N := by omega
                  have hlt := HN3.out hml
                  rw [decide_eq_false (show ¬ S[m].name.data.toList < x.name.data.toList from hlt)] at hbl
                  generalize S[m] = y at *
                  clear hlt
                  go_wp2_with fail
                  go_quiet (fail)
                  go_wp2_with fail
                  go_meet
                  exact ⟨rfl, grownBy_drewN hgm _⟩
              · obtain rfl : m = N := by omega
                have hml2 : decide ((m : Int) < (S.length : Int)) = false := decide_eq_false (by omega)
                go_wp2_with fail
                go_quiet (fail)
                go_wp2_with fail
                go_meet
                exact ⟨rfl, grownBy_drewN hgm _⟩
          obtain ⟨rfl, h3⟩ := hcut
          refine hK1 _ _ ?_
          have O3 := O2.same h3
          have A3 := A2.same h3
          have a3 := A3.cell
          by_cases hdup : ∃ (hk : N < S.length), nmB S[N] = nmB x
          · have HF := Lib.hid (HNo.out hdup)
            obtain ⟨hml, he⟩ := hdup
            obtain ⟨go, oo, co, hvo, hgo, cm⟩ := (RdL.same O3.rd (grownBy_refl _ _)).at_ tagF_len hml
            cases hvo
            have cm0 := cm 0 _ rfl
            have cm1 := cm 1 _ rfl
            rw [Nat.add_zero] at cm0
            have hml2 : (N : Int) < (S.length : Int) := by omega
            have hbe := beT_of S[N].name x.name
            rw [decide_eq_true (show S[N].name.data.toList = x.name.data.toList from he)] at hbe
            generalize S[N] = y at *
            clear he cm HNo HYes HN1 HN2 HN3
            go_wp2_with fail
            go_quiet (fail)
            go_wp2_with fail
            go_ret2
            exact sortP_no HF.out (by decide) (grownBy_trans G2 (grownBy_drewN h3 _))
          · have HD2 := Lib.hid (HYes.out hdup)
            have O3' := Lib.hid O3
            have A3' := Lib.hid A3
            apply wp_seq_k
            intro K3 hK3
            go_cut [53, 54, 55, 56, 57, 58, 59, 60, 61, 62, 63, 64, 65, 66] (fun _ _ _ _ _ _ _ _ _ _ _ _ _ s66 wx => s66 = .bool false ∧ w2.grownBy wx none)
            case first =>
              by_cases hml : N < S.length
              · obtain ⟨go, oo, co, hvo, hgo, cm⟩ := O3.rd.at_ tagF_len hml
                cases hvo
                have cm0 := cm 0 _ rfl
                have cm1 := cm 1 _ rfl
                rw [Nat.add_zero] at cm0
                have hml2 : (N : Int) < (S.length : Int) := by omega
                have hbe := beT_of S[N].name x.name
                rw [decide_eq_false (show ¬ S[N].name.data.toList = x.name.data.toList from fun e => hdup ⟨hml, e⟩)] at hbe
                generalize S[N] = y at *
                clear hdup cm
                go_wp2_with fail
                go_quiet (fail)
                go_wp2_with fail
                go_meet
                exact ⟨rfl, grownBy_drewN h3 _⟩
              · obtain rfl : N = S.length := by omega
                clear hdup
                have hml2 : decide ((S.length : Int) < (S.length : Int)) = false := decide_eq_false (by omega)
                go_wp2_with fail
                go_quiet (fail)
                go_wp2_with fail
                go_meet
                exact ⟨rfl, grownBy_drewN h3 _⟩
            obtain ⟨rfl, h4⟩ := hcut
            clear a3 A3 O3 hK hK1 hdup
            refine hK3 _ _ ?_
            have O3 := O3'.out
            have A3 := A3'.out
            clear O3' A3'
            have O3 := O2.same h4
            have A3 := A2.same h4
            have G3 := grownBy_trans G2 h4
            have hKl := hN
            have HSb := Lib.hid hsl
            have hsl : S.length ≤ 1000000 := by omega
            obtain ⟨P, rfl⟩ : ∃ P, P = N := ⟨_, rfl⟩
            clear O2 A2 HNo HYes HN1 HN2 HN3 hN h3
            have hcap := O3.cap
            have hP0 : (0 : Int) ≤ (P : Int) := by omega
            have hP1 : (P : Int) ≤ (S.length : Int) := by omega
            have hP2 : (P : Int) ≤ (oc : Int) := by omega
            have hP3 : (S.length : Int) ≤ (oc : Int) := by omega
            have hsz := G3.size
            refine wp_region_any (by kernel_rfl) ?_
            (refine Tail.take_put 8 75 (.slice oa S.length oc) rfl rfl (by kernel_rfl) (by kernel_rfl) (by kernel_rfl) (fun _ _ _ h => h) (Or.inl ⟨by rfl, fun w => ?_⟩) ?_; · go_simp); simp only [List.setIfInBounds_toArray, List.set_cons_zero, List.set_cons_succ]
            (refine Tail.take_put 9 76 (.int .i64 P) rfl rfl (by kernel_rfl) (by kernel_rfl) (by kernel_rfl) (fun _ _ _ h => h) (Or.inl ⟨by rfl, fun w => ?_⟩) ?_; · go_simp); simp only [List.setIfInBounds_toArray, List.set_cons_zero, List.set_cons_succ]
            (refine Tail.take_put 10 77 (.slice (if oc = P then oa else oa.map (·.add (P * 2))) (S.length - P) (oc - P)) rfl rfl (by kernel_rfl) (by kernel_rfl) (by kernel_rfl) (fun _ _ _ h => h) (Or.inl ⟨by rfl, fun w => ?_⟩) ?_; · go_simp); simp only [List.setIfInBounds_toArray, List.set_cons_zero, List.set_cons_succ]
            have RD := Lib.hid fun w' (h : Own tagF 2 76 w.heap.size w' (.slice oa S.length oc) S) => h.rd.drop tagF_len hKl hcap (oc - P)
            generalize (if oc = P then oa else oa.map (·.add (P * 2))) = od at *
            (refine Rg.wpAny_rg 7 #[] #[false, false, false, false, false, false, false, false, true, true, true, false, false] (fun w w' => World.grownBy w w' none) (fun _ _ _ _ _ => False) (by kernel_rfl) (by kernel_rfl) rfl (by kernel_rfl) (by simp only [Rg.tailL, List.drop]; decide) (fun w => grownBy_refl w none) (fun _ _ _ h k => grownBy_trans h k) (fun _ _ _ _ _ h => h) ?_; simp only [List.take, List.drop, Rg.tailL]; simp (decide := true) only [if_true, if_false])
            have Gd : wc.grownBy wc.drew none := (by (repeat (first | exact grownBy_refl _ _ | assumption | refine grownBy_new_block ?_ _ | refine grownBy_drew ?_ | refine grownBy_drewN ?_ _ | refine grownBy_setNew ?_ (by first | (simp; done) | omega | (simp; omega)) _)))
            have Kd := grownBy_trans G3 Gd
            have hb1 : (S.take P).length = P := by simp; omega
            have hb2 : (S.take P).length * 32 ≤ 140737488355328 := by rw [hb1]; omega
            have hb3 : (S.take P).length ≤ 9223372036854775807 := by rw [hb1]; omega
            have hb4 : ((S.take P).length + 1) * 32 ≤ 140737488355328 := by rw [hb1]; omega
            have hb5 : (S.take P).length + 1 ≤ 9223372036854775807 := by rw [hb1]; omega
            have hb6 : (S.take P ++ [x]).length = P + 1 := by rw [List.length_append, hb1]; rfl
            have hb7 : (S.drop P).length = S.length - P := by simp
            have hb8 : ((S.take P ++ [x]).length + (S.drop P).length) * 32 ≤ 140737488355328 := by rw [hb6, hb7]; omega
            have hb9 : (S.take P ++ [x]).length + (S.drop P).length ≤ 9223372036854775807 := by rw [hb6, hb7]; omega
            have Hb1 := Lib.hid hb1.symm
            have Hb7 := Lib.hid hb7.symm
            clear hb1 hb6 hb7
            (refine Rg.tree_op rfl rfl ?_; intro y0 my0 dy0)
            clear dy0
            have zy0 : w.heap.size ≤ y0.heap.size := (grownBy_trans Kd my0).size
            go_wp2_with fail
            refine ⟨World.grownBy_alloc _ _ _, ?_⟩
            have N0 := own_lit0 (e := 76) tagF 2 zy0
            have hg0 : wc.heap.size ≤ y0.heap.size := (grownBy_trans Gd my0).size
            generalize y0.alloc (.cells #[] 76) = e0 at *
            generalize y0.heap.size = g0 at *
            (refine Rg.tree_quiet 3 rfl (by first | exact Or.inl rfl | exact Or.inr rfl) ?_; simp only [List.take, List.drop, List.length_cons, List.length_nil, List.replicate, Nat.reduceAdd]; (try simp only [List.cons_append]); (try simp only [List.nil_append]); (repeat (go_big_quiet_step (fail))); refine wpQuiet_nil ?_)
            (refine Rg.tree_op rfl rfl ?_; intro y4 my4 dy4)
            have N4 := N0.same (dy4.out 0 (by omega) (by kernel_rfl))
            have K4 := grownBy_trans Gd my4
            have R4 := (O3.rd.take tagF_len hKl oc).same K4
            have z4 := (grownBy_trans Kd my4).size
            go_wp2_with (at_builtin; refine app_lit elt_tag one_tag N4 R4 Hb1.out hb2 hb3 z4 (by rfl) _ _ (by rfl) (by rfl) (by rfl) ?_; intro v4 e4 o4 g4 l4; have Hg4 := Lib.hid g4; clear g4)
            refine ⟨Hg4.out, ?_⟩
            have hv4 := Lies.ge l4 (fun k hk => Nat.le_trans hg0 (ge_new _ _ _ k hk)) K4.size
            clear R4 N0 N4 K4 z4 dy4 l4
            (refine Rg.tree_op rfl rfl ?_; intro y5 my5 dy5)
            clear dy5
            have a5 := (A3.same (grownBy_trans Gd my5)).cell
            go_wp2_with fail
            refine ⟨grownBy_refl _ _, ?_⟩
            clear a5
            (refine Rg.tree_op rfl rfl ?_; intro y6 my6 dy6)
            clear dy6
            go_wp2_with fail
            refine ⟨World.grownBy_alloc _ _ _, ?_⟩
            have N6 := Blk.new y6 #[.string x.name, .string x.value] 76
            generalize y6.alloc (.cells #[.string x.name, .string x.value] 76) = e6 at *
            generalize y6.heap.size = g6 at *
            (refine Rg.tree_nil ?_; intro z mz dz cz)
            have o5 := o4.same (dz.out 4 (by omega))
            have N7 := (N6.same (dz.out 6 (by omega))).one tagF_len x rfl
            have Kz := grownBy_trans Gd mz
            have KK := grownBy_trans Kd mz
            have z7 := KK.size
            have O7 := O3.same Kz
            have hlo : ∀ k, Value.ownBlock (.slice oa S.length oc) = some k → k < wc.heap.size := fun k hk => (O3.lt k hk).2
            have tok := Lib.hid hP0
            clear dz cz my0 my4 my5 my6 mz Hg4 Kz N6 o4 O3 A3 hg0 zy0 Gd Kd
            go_wp2_with (first
              | (at_builtin; have _t := tok; refine app elt_tag one_tag o5 N7 rfl hb4 hb5 z7 (by rfl) _ _ (by rfl) (by rfl) (by rfl) ?_; intro v7 w7 o7 g7 l7; clear tok; have K7 := grown_own KK o5 (Nat.le_refl _) g7; have R8 := RD.out _ (O7.kept g7 (fun k hk e => by have := hlo k hk; have := hv4 k e; omega)); have z8 := K7.size)
              | (at_builtin; refine app elt_tag one_tag o7 R8 Hb7.out hb8 hb9 z8 (by rfl) _ _ (by rfl) (by rfl) (by rfl) ?_; intro v8 w8 o8 g8 l8; have K8 := grown_own K7 o7 (Nat.le_refl _) g8))
            exact ⟨⟨j + 1, by omega, by go_num, HD2.out, by rw [HT2.out, HI.out]; exact o8, K8⟩, by simp [RowKit.intOf]; omega⟩
        · have hke : L.take j = L := List.take_of_length_le (by omega)
          rw [hke] at hO HDf
          have HE := Lib.hid (sortE_ok Hfew.out HT.out HDf.out)
          obtain ⟨oa, oc, rfl⟩ := hO.shape
          have HO := Lib.hid hO
          clear hO hke
          go_wp2_with fail
          go_ret2
          exact ⟨_, by rw [HE.out]; rfl, by rw [HE.out, if_pos rfl]; exact HO.out, hg⟩
end Go.Proofs.YtkdbapbmbhmaiaaGreat

/- The key of tags: the reference. -/
namespace Go.Proofs.YtkdbapbmbhmaiaaGreat
open Go.RowKit Go.Sort

theorem conv1b (w : World) (g : Nat) (b : UInt8) (h : w.cell? ⟨g, 0, none⟩ = some (.int .u8 b.toNat)) : (convert 51 9 (.slice (some ⟨g, 0, none⟩) 1 1)).run Tryz.prog w = .ok (.string ⟨#[b]⟩) w := by
  rw [run_convert_bytes_string w 51 9 5 _ 1 1 Tryz.underlying51 Tryz.underlying5 Tryz.underlying9]
  rw [run_bytesToString w ⟨g, 0, none⟩ 1 1 [(b.toNat : Int)]]
  · show Result.ok (Value.string _) w = _
    congr 2
    simp [ByteArray.push, ByteArray.empty, ByteArray.emptyWithCapacity]
    all_goals rfl
  · exact run_loadCells_list w ⟨g, 0, none⟩ [.int .u8 b.toNat] (fun j v hv => by
      cases j with
      | zero => simp at hv; subst hv; exact h
      | succ j => simp at hv)
theorem ba_app (a b : ByteArray) : (a ++ b).data.toList = a.data.toList ++ b.data.toList := by
  simp [ByteArray.data_append]
theorem ba_eq {a : ByteArray} {l : List UInt8} (h : a.data.toList = l) : a = ⟨l.toArray⟩ := by
  obtain ⟨⟨x⟩⟩ := a
  subst h; rfl
theorem by_len {n : Nat} : IntKind.u8.wrap (n : Int) = (((UInt8.ofNat n).toNat : Nat) : Int) := by
  rw [by_wrap, UInt8.toNat_ofNat']
def KeyP (L : List TagR) (w : World) (e : Ending) (w' : World) : Prop := e = .returned (.tuple #[.string (keyY L), .int .i64 (keyE L)]) ∧ w.grownBy w' none

set_option maxHeartbeats 1000000 in
set_option maxRecDepth 100000 in
theorem rkeyT_c (v : Value) (L : List TagR) (w : World) (h : RdL tagF 2 w v L) (hW : ∀ t ∈ L, TagW t) : Calls Tryz.prog 22 #[v] w (KeyP L w) := by
  obtain ⟨a, c, rfl⟩ := h.shape
  have C := Lib.hid (rsortT_c _ L w h hW)
  have HK := Lib.hid (show keyE L = if sortE L ≠ 0 then sortE L else if 255 < (kyB (sortT L)).length then 4 else 0 from rfl)
  have HY := Lib.hid (show keyY L = if keyE L = 0 then ⟨(kyB (sortT L)).toArray⟩ else ⟨#[]⟩ from rfl)
  have H0 := Lib.hid (sortE_0 (L := L))
  have Hlen := Lib.hid (sortT_len L)
  have HM := Lib.hid (sortT_mem L)
  clear h hW
  go_enter Tryz.func22, Tryz.ntmps22
  by_cases hE : sortE L = 0
  · have C2 := C.out
    unfold SortP at C2
    rw [hE, if_pos rfl] at C2
    have C3 := Lib.hid C2
    obtain ⟨h0, h8, ht, -⟩ := H0.out hE
    have HK2 := Lib.hid (HK.out.trans (if_neg (by omega)))
    have HT := Lib.hid (fun t h => tagE_ok (ht t ((HM.out t).1 h)) : ∀ t ∈ sortT L, _)
    clear C C2 HK H0 HM ht hE
    generalize sortT L = S at *
    have hSl : (S.length : Int) ≤ 8 := by have := Hlen.out; omega
    go_wp2_with (go_at_call 40; refine C3.out.mono ?_; rintro e w2 ⟨v2, rfl, o2, g2⟩; obtain ⟨a2, c2, rfl⟩ := o2.shape)
    have HO := Lib.hid o2
    have HG := Lib.hid g2
    clear o2 g2
    go_loopw [19, 6] (fun s19 s6 wk => ∃ (k : Nat) (O : ByteArray), k ≤ S.length ∧ s19 = .int .i64 k ∧ s6 = .string O ∧ O.data.toList = kyB (S.take k) ∧ O.size ≤ 98 * k ∧ w2.grownBy wk none) (fun s19 _ _ => S.length - (RowKit.intOf s19).toNat)
    case atStart => exact ⟨0, ⟨#[]⟩, Nat.zero_le _, rfl, rfl, rfl, by simp [ByteArray.size], grownBy_refl _ _⟩
    case round =>
      obtain ⟨k, O, hk, rfl, rfl, hO, hOl, hg⟩ := hrel
      have HOl := Lib.hid hO
      clear hO
      by_cases hlt : k < S.length
      · obtain ⟨gx, ox, cx, hv, hgx, hcx⟩ := (RdL.same HO.out.rd hg).at_ tagF_len hlt
        cases hv
        have c0 := hcx 0 _ rfl
        have c1 := hcx 1 _ rfl
        rw [Nat.add_zero] at c0
        obtain ⟨-, -, hn32, hv64⟩ := HT.out _ (List.getElem_mem hlt)
        have HS := Lib.hid (show kyB (S.take (k + 1)) = kyB (S.take k) ++ tkB S[k] by rw [List.take_succ_eq_append_getElem hlt, kyB_snoc])
        clear hcx
        generalize S[k] = x at *
        have hw1 := by_len (n := x.name.size)
        have hw2 := by_len (n := x.value.size)
        have HB := Lib.hid (show tkB x = UInt8.ofNat x.name.size :: nmB x ++ (UInt8.ofNat x.value.size :: vlB x) from rfl)
        obtain ⟨b1, hb1⟩ : ∃ b, UInt8.ofNat x.name.size = b := ⟨_, rfl⟩
        obtain ⟨b2, hb2⟩ : ∃ b, UInt8.ofNat x.value.size = b := ⟨_, rfl⟩
        rw [hb1] at hw1 HB
        rw [hb2] at hw2 HB
        clear hb1 hb2
        have hc1 := fun w' g h => conv1b w' g b1 h
        have hc2 := fun w' g h => conv1b w' g b2 h
        go_wp2_with fail
        have hsz : (O ++ (⟨#[b1]⟩ ++ x.name ++ ⟨#[b2]⟩ ++ x.value)).size ≤ 98 * (k + 1) := by
          simp only [ByteArray.size_append]
          have e1 : (⟨#[b1]⟩ : ByteArray).size = 1 := rfl
          have e2 : (⟨#[b2]⟩ : ByteArray).size = 1 := rfl
          rw [e1, e2]; omega
        exact ⟨⟨k + 1, _, by omega, by go_num, rfl, by rw [HS.out, HB.out]; simp only [ba_app]; rw [HOl.out]; simp [nmB, vlB], hsz, grownBy_new_block (grownBy_new_block (grownBy_new_block hg _) _) _⟩, by simp [RowKit.intOf]; omega⟩
      · have hke : S.take k = S := List.take_of_length_le (by omega)
        have HOf := HOl.out
        rw [hke] at HOf
        clear hke
        by_cases hlong : 255 < O.size
        · have j1 : (255 : Int) < (O.size : Int) := by omega
          have HF := Lib.hid (show keyE L = 4 by rw [HK2.out, ← HOf, if_pos (show 255 < O.data.toList.length from hlong)])
          clear hlong HOf
          go_wp2_with fail
          go_ret2
          exact ⟨by rw [HF.out, HY.out, HF.out]; rfl, grownBy_trans HG.out hg⟩
        · have j1 : (O.size : Int) ≤ 255 := by omega
          have HF := Lib.hid (show keyE L = 0 by rw [HK2.out, ← HOf, if_neg (show ¬ 255 < O.data.toList.length from hlong)])
          have HQ := Lib.hid (show keyY L = O by rw [HY.out, HF.out, if_pos rfl]; exact (ba_eq HOf).symm)
          clear hlong HOf
          go_wp2_with fail
          go_ret2
          exact ⟨by rw [HF.out, HQ.out]; rfl, grownBy_trans HG.out hg⟩
  · have C2 := C.out
    unfold SortP at C2
    have HF := Lib.hid (HK.out.trans (if_pos hE))
    have HF2 := Lib.hid (show keyY L = ⟨#[]⟩ by rw [HY.out, HF.out, if_neg hE])
    generalize sortE L = EE at *
    rw [if_neg hE] at C2
    have C3 := Lib.hid C2
    have he2 : (EE != 0) = true := by simpa using hE
    have he3 : (EE == 0) = false := by simpa using hE
    clear C C2 HK H0 HM hE
    go_wp2_with (go_at_call 40; refine C3.out.mono ?_; rintro e w2 ⟨v2, rfl, o2, g2⟩; obtain ⟨a2, c2, rfl⟩ := o2.shape)
    go_ret2
    exact ⟨by rw [HF.out, HF2.out]; rfl, g2⟩
end Go.Proofs.YtkdbapbmbhmaiaaGreat

/- The program's tags put in order, its keys, its split of a key: for all tags as the reference's. -/
namespace Go.Proofs.YtkdbapbmbhmaiaaGreat
open Go.RowKit Go.Sort

set_option maxHeartbeats 2000000 in
set_option maxRecDepth 100000 in
theorem tsort_c (v : Value) (L : List TagR) (w : World) (h : RdL tagF 2 w v L) (hW : ∀ t ∈ L, TagW t) : Calls Tryz.prog 58 #[v] w (SortP L w) := by
  obtain ⟨a, c, rfl⟩ := h.shape
  have hm := h.2.1
  have H := Lib.hid h
  have HW := Lib.hid hW
  clear h hW
  by_cases h0 : L.length = 0
  · have HE := Lib.hid (sortE_few (.inl h0))
    obtain rfl : L = [] := List.eq_nil_of_length_eq_zero h0
    clear h0
    go_enter Tryz.func58, Tryz.ntmps58
    go_wp2_with fail
    go_ret2
    exact sortP_no HE.out (by decide) (grownBy_refl _ _)
  have i0 : ((L.length : Int) == 0) = false := beq_eq_false_iff_ne.2 (by omega)
  by_cases h8 : 8 < L.length
  · have HE := Lib.hid (sortE_few (.inr h8))
    have i8 : (8 : Int) < (L.length : Int) := by omega
    clear h0
    go_enter Tryz.func58, Tryz.ntmps58
    go_wp2_with fail
    go_ret2
    exact sortP_no HE.out (by decide) (grownBy_refl _ _)
  have i8 : (L.length : Int) ≤ 8 := by omega
  have Hfew := Lib.hid (show ¬ (L.length = 0 ∨ 8 < L.length) by omega)
  clear h0
  go_enter Tryz.func58, Tryz.ntmps58
  go_wp2_with fail
  go_loopw [19] (fun s19 wk => ∃ i : Nat, i ≤ L.length ∧ s19 = .int .i64 i ∧ (∀ j (hj : j < L.length), j < i → tagE L[j] = 0) ∧ w.grownBy wk none) (fun s19 _ => L.length - (RowKit.intOf s19).toNat)
  case atStart => exact ⟨0, Nat.zero_le _, rfl, by intro j hj h; omega, grownBy_refl _ _⟩
  case round =>
    obtain ⟨i, hi, rfl, hall, hg⟩ := hrel
    have Hall := Lib.hid hall
    have HGr := Lib.hid hg
    clear hall
    by_cases hlt : i < L.length
    · obtain ⟨gx, ox, cx, hv, hgx, hcx⟩ := (RdL.same H.out hg).at_ tagF_len hlt
      cases hv
      have c0 := hcx 0 _ rfl
      have c1 := hcx 1 _ rfl
      rw [Nat.add_zero] at c0
      have hw := HW.out _ (List.getElem_mem hlt)
      have HF := Lib.hid (show ∀ E : Int, E ≠ 0 → tagE L[i] = E → sortE L = E from fun E hE h => by
        have h1 := tagsE_at hlt Hall.out (by rw [h]; exact hE)
        rw [sortE_tag Hfew.out (by rw [h1, h]; exact hE), h1, h])
      have HS := Lib.hid (show tagE L[i] = 0 → ∀ j (hj : j < L.length), j < i + 1 → tagE L[j] = 0 from fun h j hj hji => by
        rcases Nat.lt_or_ge j i with h1 | h1
        · exact Hall.out j hj h1
        · obtain rfl : j = i := by omega
          exact h)
      have C := Lib.hid fun w' => tvalid_c L[i] w' hw
      clear hcx hw Hall hg
      generalize L[i] = x at *
      generalize tagE x = EE at *
      by_cases hE : EE = 0
      · subst hE
        have HS2 := Lib.hid (HS.out rfl)
        clear HF HS
        go_wp2_with (go_at_call 69; refine (C.out _).mono ?_; rintro e w2 ⟨rfl, g2⟩)
        exact ⟨⟨i + 1, by omega, by go_num, HS2.out, grownBy_trans HGr.out (grownBy_trans (World.grownBy_alloc _ _ _) g2)⟩, by simp [RowKit.intOf]; omega⟩
      · have he2 : (EE != 0) = true := by simpa using hE
        have he3 : (EE == 0) = false := by simpa using hE
        have HF2 := Lib.hid (HF.out EE hE rfl)
        have HE0 := Lib.hid hE
        clear HF HS hE
        go_wp2_with (go_at_call 69; refine (C.out _).mono ?_; rintro e w2 ⟨rfl, g2⟩)
        go_ret2
        exact sortP_no HF2.out HE0.out (grownBy_trans HGr.out (grownBy_trans (World.grownBy_alloc _ _ _) g2))
    · have HT := Lib.hid (show tagsE L = 0 from tagsE_no fun t ht => by
        obtain ⟨j, hj, rfl⟩ := List.getElem_of_mem ht
        exact Hall.out j hj (by omega))
      have hi1 : ¬ (i : Int) < (L.length : Int) := by omega
      have C1 := Lib.hid (cloneT_c _ L wr (H.out.same hg) (by omega))
      have C2 := Lib.hid fun a c w' h => sortFuncT_c wr.heap.size a c L w' h (by omega)
      clear Hall hg
      go_upto_region 13 with (first
        | (go_at_call 70; refine C1.out.mono ?_; rintro e w2 ⟨v2, rfl, o2, g2⟩; obtain ⟨a2, c2, rfl⟩ := o2.shape)
        | (go_at_call 71; refine (C2.out _ _ _ o2).mono ?_; rintro e w3 ⟨rfl, o3, g3⟩))
      have G3 := grown_own (grownBy_trans HGr.out g2) o2 HGr.out.size g3
      have O3 := o3.base (B' := w.heap.size) (fun k hk => Nat.le_trans HGr.out.size (o3.lt k hk).1)
      have hSl := sortS_len L
      have HI := Lib.hid (sortS_is L)
      have HTA := Lib.hid (sortT_asc (L := L))
      clear o2 g2 o3 g3 C1 C2 hlt hi1
      obtain ⟨S, hS⟩ : ∃ S, sortS L = S := ⟨_, rfl⟩
      rw [hS] at O3 hSl HI
      clear hS
      have HOK := Lib.hid (p := (∀ j (hj : j + 1 < S.length), nmB S[j] ≠ nmB S[j + 1]) → sortE L = 0 ∧ S = sortT L) (fun h => by
        have hd : Dif L := Decidable.byContradiction fun hn => by
          obtain ⟨j, hj, e⟩ := HI.out.2 hn
          exact h j hj e
        exact ⟨sortE_ok Hfew.out HT.out hd, HI.out.1 hd⟩)
      have HBAD := Lib.hid (p := ∀ j (hj : j + 1 < S.length), nmB S[j] = nmB S[j + 1] → sortE L = 5) (fun j hj e => by
        refine sortE_dup Hfew.out HT.out fun hd => ?_
        exact (show ¬ AdjEq S from by rw [HI.out.1 hd]; exact asc_no_adj (HTA.out hd)) ⟨j, hj, e⟩)
      clear HI HTA
      have HO := Lib.hid O3
      have HG := Lib.hid G3
      clear O3 G3
      go_loopw [8] (fun s8 wk => ∃ i : Nat, 1 ≤ i ∧ s8 = .int .i64 i ∧ i ≤ S.length + 1 ∧ (∀ j (hj : j + 1 < S.length), j + 1 < i → nmB S[j] ≠ nmB S[j + 1]) ∧ w3.grownBy wk none) (fun s8 _ => S.length + 1 - (RowKit.intOf s8).toNat)
      case atStart => exact ⟨1, by omega, rfl, by omega, by intro j hj h; omega, grownBy_refl _ _⟩
      case round =>
        obtain ⟨i, hi1, rfl, hi2, hall, hg⟩ := hrel
        have Hall := Lib.hid hall
        clear hall
        by_cases hil : i < S.length
        · obtain ⟨k, rfl⟩ : ∃ k, i = k + 1 := ⟨i - 1, by omega⟩
          obtain ⟨gx, ox, cx, hv, hgx, hcx⟩ := (RdL.same HO.out.rd hg).at_ tagF_len hil
          obtain ⟨gy, oy, cy, hv2, -, hcy⟩ := (RdL.same HO.out.rd hg).at_ tagF_len (show k < S.length by omega)
          obtain ⟨rfl, -, rfl⟩ : a2 = some ⟨gx, ox, none⟩ ∧ L.length = S.length ∧ c2 = cx := by simpa only [Value.slice.injEq] using hv
          obtain ⟨hg2, -, -⟩ : some ⟨gx, ox, none⟩ = some (⟨gy, oy, none⟩ : Addr) ∧ L.length = S.length ∧ c2 = cy := by simpa only [Value.slice.injEq] using hv2
          cases hg2
          clear hv hv2
          have c0 := hcx 0 _ rfl
          have d0 := hcy 0 _ rfl
          rw [Nat.add_zero] at c0 d0
          clear hcx hcy
          have hlt2 : ((k + 1 : Nat) : Int) < (L.length : Int) := by omega
          have hk1 : (k : Int) < (L.length : Int) := by omega
          have hs1 : IntKind.i64.wrap (((k + 1 : Nat) : Int) - 1) = (k : Int) := by rw [IntWalk.i64_in _ (by omega)]; omega
          have hs2 : ((k + 1 : Nat) : Int) - 1 = (k : Int) := by omega
          have HB := Lib.hid (HBAD.out k hil)
          have HN := Lib.hid (p := nmB S[k] ≠ nmB S[k + 1] → ∀ j (hj : j + 1 < S.length), j + 1 < k + 1 + 1 → nmB S[j] ≠ nmB S[j + 1]) (fun h j hj hjk => by
            by_cases e : j = k
            · subst e; exact h
            · exact Hall.out j hj (by omega))
          have hbe := beT_of S[k + 1].name S[k].name
          have HX := Lib.hid (show nmB S[k] = S[k].name.data.toList from rfl)
          have HY := Lib.hid (show nmB S[k + 1] = S[k + 1].name.data.toList from rfl)
          generalize nmB S[k] = nx at *
          generalize nmB S[k + 1] = ny at *
          generalize S[k] = x at *
          generalize S[k + 1] = y at *
          by_cases he : nx = ny
          · rw [decide_eq_true (show y.name.data.toList = x.name.data.toList by rw [← HX.out, ← HY.out]; exact he.symm)] at hbe
            have HF := Lib.hid (HB.out he)
            clear he HN HB HX HY
            go_wp2_with fail
            go_quiet (fail)
            go_wp2_with fail
            go_ret2
            exact sortP_no HF.out (by decide) (grownBy_trans HG.out (grownBy_drewN hg _))
          · rw [decide_eq_false (show ¬ y.name.data.toList = x.name.data.toList by rw [← HX.out, ← HY.out]; exact fun e => he e.symm)] at hbe
            have HN2 := Lib.hid (HN.out he)
            clear he HN HB HX HY
            go_wp2_with fail
            go_quiet (fail)
            go_wp2_with fail
            exact ⟨⟨k + 1 + 1, by omega, by go_num, by omega, HN2.out, grownBy_drewN hg _⟩, by simp [RowKit.intOf]; omega⟩
        · have HF := Lib.hid (HOK.out (fun j hj => Hall.out j hj (by omega)))
          go_wp2_with fail
          go_ret2
          refine ⟨_, by rw [HF.out.1]; rfl, ?_, grownBy_trans HG.out hg⟩
          rw [if_pos HF.out.1, ← HF.out.2]
          exact HO.out.same hg
end Go.Proofs.YtkdbapbmbhmaiaaGreat

/- A buffer of bytes behind a pointer; texts that are appended. -/
namespace Go.Proofs.YtkdbapbmbhmaiaaGreat
open Go.RowKit Go.Sort

def natF (n : Nat) : List Value := [.int .u64 n]
theorem natF_len (n : Nat) : (natF n).length = 1 := rfl
theorem nat_one (n : Nat) : natF n = [Value.int .u64 n] := rfl
def vbs (ns : List Nat) : List UInt8 := ns.flatMap vb
theorem vbs_snoc (ns : List Nat) (n : Nat) : vbs (ns ++ [n]) = vbs ns ++ vb n := by simp [vbs]
theorem vbs_len {ns : List Nat} (h : ∀ n ∈ ns, n < 18446744073709551616) : (vbs ns).length ≤ 10 * ns.length := by
  induction ns with
  | nil => simp [vbs]
  | cons n ns ih =>
    have h1 := ih fun x hx => h x (List.mem_cons_of_mem _ hx)
    have h2 := vb_ten (h n (by simp))
    simp only [vbs, List.flatMap_cons, List.length_append, List.length_cons] at *
    omega
/-- The buffer at g. -/
structure BufAt (B : Nat) (w : World) (g : Nat) (l : List UInt8) : Prop where
  ex : ∃ v, Blk w g #[v] ∧ Own byF 1 5 B w v l
  lt : g < B
theorem BufAt.base {B B' : Nat} {w : World} {g : Nat} {l : List UInt8} (h : BufAt B w g l) (hB : B' ≤ B) (hg : g < B') : BufAt B' w g l := by
  obtain ⟨v, h1, h2⟩ := h.ex
  exact ⟨⟨v, h1, h2.base fun k hk => Nat.le_trans hB (h2.lt k hk).1⟩, hg⟩
theorem BufAt.same {B : Nat} {w w' : World} {g : Nat} {l : List UInt8} (h : BufAt B w g l) (hg : w.grownBy w' none) : BufAt B w' g l := by
  obtain ⟨v, h1, h2⟩ := h.ex
  exact ⟨⟨v, h1.same hg, h2.same hg⟩, h.lt⟩
def baseK (B h k : Nat) : Nat := if k = 0 then B else h
theorem baseK_0 (B h : Nat) : baseK B h 0 = B := rfl
theorem baseK_s (B h : Nat) {k : Nat} (hk : k ≠ 0) : baseK B h k = h := if_neg hk
def NumPost (B : Nat) (w : World) (g : Nat) (l : List UInt8) (e : Ending) (w' : World) : Prop := e = .returned (.tuple #[]) ∧ BufAt B w' g l ∧ w.grownBy w' (some g)

theorem cells_str (s : ByteArray) : cellsOf byF s.data.toList = Lib.strCells s := by
  have : ∀ l : List UInt8, cellsOf byF l = l.map fun b => Value.int .u8 b.toNat := by
    intro l
    induction l with
    | nil => rfl
    | cons x l ih => simp only [cellsOf, List.flatMap_cons, List.map_cons] at *; rw [ih]; rfl
  rw [this]; rfl
theorem info_by : (Tryz.prog.info? 5).map (fun i => (i.zero, i.size, i.bytes)) = some (some (.int .u8 0), 1, 1) := by kernel_rfl
theorem app_str {B : Nat} {w : World} {v : Value} {l : List UInt8} {o : Oper} {a : Act} {ops : Array Oper} {rest : List Oper} {Q : Exit → Act → World → Prop} (hown : Own byF 1 5 B w v l) (s : ByteArray) (hb : l.length + s.size ≤ 140737488355328) (hbase : B ≤ w.heap.size)
    (hgd : o.guard = none) (sl x : Operand) (ho : o.op = .call { callee := .builtin .append, args := #[sl, x], argTypes := #[51, 9] }) (hs : a.eval sl = v) (hx : a.eval x = .string s)
    (h : ∀ v' w', Own byF 1 5 B w' v' (l ++ s.data.toList) → w.grownBy w' v.ownBlock → wpList Tryz.prog ops Q rest (a.put o.dst v') w') : wpList Tryz.prog ops Q (o :: rest) a w := by
  obtain ⟨i, hi, hz0, hz1, hz2⟩ := info_parts info_by
  refine Lib.wpList_append_own_string w hgd sl x 51 9 ho B 5 i Tryz.underlying51 Tryz.underlying9 hi hz0 hz1 hz2 v l.length _ hs hown s hx (by unfold maxLen; omega) hb hbase fun v' w' h1 h2 _ => h v' w' ?_ h2
  unfold Own
  rw [cellsOf_append, cells_str, List.length_append]
  have e : s.data.toList.length = s.size := Array.length_toList
  rw [e]; exact h1

end Go.Proofs.YtkdbapbmbhmaiaaGreat

/- Numbers read from bytes: plain. -/
namespace Go.Proofs.YtkdbapbmbhmaiaaGreat
open Go.RowKit

/-- How many bytes ahead say that more follow; at most f. -/
def bigs : Nat → List UInt8 → Nat
  | 0, _ => 0
  | _, [] => 0
  | f + 1, b :: l => if 128 ≤ b.toNat then bigs f l + 1 else 0
theorem bigs_le : ∀ (f : Nat) (l : List UInt8), bigs f l ≤ f ∧ bigs f l ≤ l.length
  | 0, _ => by simp [bigs]
  | f + 1, [] => by simp [bigs]
  | f + 1, b :: l => by
    have := bigs_le f l
    simp only [bigs]
    split
    · simp; omega
    · simp
theorem bigs_lt : ∀ {f : Nat} {l : List UInt8} {i : Nat} (_ : i < bigs f l) (h : i < l.length), 128 ≤ l[i].toNat
  | 0, _, _, h, _ => by simp [bigs] at h
  | f + 1, [], _, h, _ => by simp [bigs] at h
  | f + 1, b :: l, 0, h, _ => by
    simp only [bigs] at h
    split at h
    · simpa
    · omega
  | f + 1, b :: l, i + 1, h, hl => by
    simp only [bigs] at h
    split at h
    · have := bigs_lt (f := f) (l := l) (i := i) (by omega) (by simpa using hl)
      simpa using this
    · omega
theorem bigs_at : ∀ {f : Nat} {l : List UInt8} (_ : bigs f l < f) (h : bigs f l < l.length), l[bigs f l].toNat < 128
  | 0, _, h, _ => by omega
  | f + 1, [], _, h => by simp at h
  | f + 1, b :: l, h, hl => by
    by_cases hb : 128 ≤ b.toNat
    · have e : bigs (f + 1) (b :: l) = bigs f l + 1 := by simp [bigs, hb]
      have := bigs_at (f := f) (l := l) (by omega) (by rw [e] at hl; simpa using hl)
      simpa [e] using this
    · have e : bigs (f + 1) (b :: l) = 0 := by simp [bigs, hb]
      simp only [e, List.getElem_cons_zero]; omega
/-- The number in groups of seven bits. -/
def valU : List UInt8 → Nat
  | [] => 0
  | b :: l => b.toNat % 128 + 128 * valU l
theorem valU_snoc (l : List UInt8) (b : UInt8) : valU (l ++ [b]) = valU l + b.toNat % 128 * 128 ^ l.length := by
  induction l with
  | nil => simp [valU]
  | cons a l ih =>
    simp only [List.cons_append, valU, ih, List.length_cons, Nat.pow_succ]
    rw [Nat.mul_add, Nat.add_assoc]
    congr 2
    rw [Nat.mul_comm (128 ^ l.length) 128, ← Nat.mul_assoc, ← Nat.mul_assoc, Nat.mul_comm 128]
theorem valU_lt (l : List UInt8) : valU l < 128 ^ l.length := by
  induction l with
  | nil => simp [valU]
  | cons b l ih =>
    simp only [valU, List.length_cons, Nat.pow_succ]
    have : b.toNat % 128 < 128 := Nat.mod_lt _ (by omega)
    omega
/-- The number at the beginning, how many bytes it has, the error. -/
def readF (l : List UInt8) : Nat × Nat × Int :=
  if bigs 10 l = 10 then (0, 0, 3)
  else match l[bigs 10 l]? with
    | none => (0, 0, 2)
    | some b => if (bigs 10 l = 9 ∧ 1 < b.toNat) ∨ (0 < bigs 10 l ∧ b.toNat = 0) then (0, 0, 3) else (valU (l.take (bigs 10 l + 1)), bigs 10 l + 1, 0)
theorem readF_ten {l : List UInt8} (h : bigs 10 l = 10) : readF l = (0, 0, 3) := by unfold readF; rw [if_pos h]
theorem readF_short {l : List UInt8} (h : bigs 10 l ≠ 10) (h2 : l.length = bigs 10 l) : readF l = (0, 0, 2) := by
  unfold readF; rw [if_neg h, List.getElem?_eq_none (by omega)]
theorem readF_bad {l : List UInt8} (h : bigs 10 l ≠ 10) (h2 : bigs 10 l < l.length) (h3 : (bigs 10 l = 9 ∧ 1 < l[bigs 10 l].toNat) ∨ (0 < bigs 10 l ∧ l[bigs 10 l].toNat = 0)) : readF l = (0, 0, 3) := by
  unfold readF; rw [if_neg h, List.getElem?_eq_getElem h2]; simp only; rw [if_pos h3]
theorem readF_ok {l : List UInt8} (h : bigs 10 l ≠ 10) (h2 : bigs 10 l < l.length) (h3 : ¬ ((bigs 10 l = 9 ∧ 1 < l[bigs 10 l].toNat) ∨ (0 < bigs 10 l ∧ l[bigs 10 l].toNat = 0))) : readF l = (valU (l.take (bigs 10 l + 1)), bigs 10 l + 1, 0) := by
  unfold readF; rw [if_neg h, List.getElem?_eq_getElem h2]; simp only; rw [if_neg h3]
theorem readF_used (l : List UInt8) : (readF l).2.1 ≤ l.length := by
  unfold readF
  split
  · simp
  · split
    · simp
    · rename_i b hb
      have := (List.getElem?_eq_some_iff.1 hb).1
      split <;> simp; omega
theorem readF_w (l : List UInt8) : (readF l).1 < 18446744073709551616 := by
  by_cases h : bigs 10 l = 10
  · rw [readF_ten h]; simp
  by_cases h2 : bigs 10 l < l.length
  · by_cases h3 : (bigs 10 l = 9 ∧ 1 < l[bigs 10 l].toNat) ∨ (0 < bigs 10 l ∧ l[bigs 10 l].toNat = 0)
    · rw [readF_bad h h2 h3]; simp
    · rw [readF_ok h h2 h3]
      show valU (l.take (bigs 10 l + 1)) < _
      rw [List.take_succ_eq_append_getElem h2, valU_snoc]
      have hb := bigs_le 10 l
      have hb9 : bigs 10 l = 9 → l[bigs 10 l].toNat ≤ 1 := fun h9 => Nat.le_of_not_lt fun hc => h3 (.inl ⟨h9, hc⟩)
      clear h3
      have hv := valU_lt (l.take (bigs 10 l))
      have hl : (l.take (bigs 10 l)).length = bigs 10 l := by rw [List.length_take]; omega
      rw [hl] at hv ⊢
      generalize l[bigs 10 l] = b at *
      generalize valU (l.take (bigs 10 l)) = V at *
      have hbl : b.toNat % 128 < 128 := Nat.mod_lt _ (by omega)
      generalize bigs 10 l = m at *
      by_cases h9 : m = 9
      · have hb1 := hb9 h9
        subst h9
        have e : (128 : Nat) ^ 9 = 9223372036854775808 := by decide
        rw [Nat.mod_eq_of_lt (show b.toNat < 128 by omega)]
        rw [e] at hv ⊢
        omega
      · have hp : 128 ^ m ≤ 128 ^ 8 := Nat.pow_le_pow_right (by omega) (by omega)
        have e : (128 : Nat) ^ 8 = 72057594037927936 := by decide
        have hq : b.toNat % 128 * 128 ^ m ≤ 127 * 128 ^ 8 := Nat.mul_le_mul (by omega) hp
        rw [e] at hp hq
        omega
  · rw [readF_short h (by have := bigs_le 10 l; omega)]; simp
end Go.Proofs.YtkdbapbmbhmaiaaGreat

/- Numbers read from bytes: the program and the reference. -/
namespace Go.Proofs.YtkdbapbmbhmaiaaGreat
open Go.RowKit Go.Sort

theorem by_low (b : UInt8) : bits .andNot .u8 (b.toNat : Int) 128 = ((b.toNat % 128 : Nat) : Int) := by
  have key : ∀ m : Fin 256, bits .andNot .u8 (((m.val : Nat) : Int)) 128 = ((m.val % 128 : Nat) : Int) := by decide +kernel
  exact key ⟨b.toNat, b.toNat_lt⟩

theorem or_step (n b i : Nat) (hn : n < 128 ^ i) (hi : i ≤ 9) (h9 : i = 9 → b % 128 ≤ 1) :
    bits .or .u64 (n : Int) (IntKind.u64.wrap ((b : Int) % 128 * 2 ^ (7 * i))) = ((n + b % 128 * 128 ^ i : Nat) : Int) := by
  have e : (2 : Nat) ^ (7 * i) = 128 ^ i := by rw [Nat.pow_mul]
  have hb : b % 128 < 128 := Nat.mod_lt _ (by omega)
  have hs : n + b % 128 * 128 ^ i < 18446744073709551616 := by
    by_cases h : i = 9
    · have := h9 h
      subst h
      have e : (128 : Nat) ^ 9 = 9223372036854775808 := by decide
      rw [e] at hn ⊢; omega
    · have hp : 128 ^ i ≤ 128 ^ 8 := Nat.pow_le_pow_right (by omega) (by omega)
      have e : (128 : Nat) ^ 8 = 72057594037927936 := by decide
      have hq : b % 128 * 128 ^ i ≤ 127 * 128 ^ 8 := Nat.mul_le_mul (by omega) hp
      rw [e] at hp hq
      omega
  have e2 : ((b : Int) % 128 * 2 ^ (7 * i)) = ((b % 128 * 128 ^ i : Nat) : Int) := by
    rw [← e]; simp
  rw [e2, IntWalk.u64_in _ (by omega), u64_or_nat _ _ (by omega) (by omega), Nat.or_comm]
  congr 1
  have := Nat.shiftLeft_add_eq_or_of_lt (show n < 2 ^ (7 * i) by rw [e]; exact hn) (b % 128)
  rw [Nat.shiftLeft_eq, e] at this
  rw [← this]; omega

end Go.Proofs.YtkdbapbmbhmaiaaGreat

/- Numbers read from bytes: the reference. -/
namespace Go.Proofs.YtkdbapbmbhmaiaaGreat
open Go.RowKit Go.Sort

theorem valU_drop (l : List UInt8) (k : Nat) : valU (l.drop k) ≤ valU l := by
  induction l generalizing k with
  | nil => simp
  | cons b l ih =>
    cases k with
    | zero => simp
    | succ k =>
      have := ih k
      simp only [List.drop_succ_cons, valU]; omega

end Go.Proofs.YtkdbapbmbhmaiaaGreat
