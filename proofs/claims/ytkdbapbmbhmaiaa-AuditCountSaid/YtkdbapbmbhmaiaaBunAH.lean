/- Several texts in one file; each begins with a comment that says what is proved in it. -/
import Derived.Test.YtkdbapbmbhmaiaaBunAD
import Derived.Test.YtkdbapbmbhmaiaaBunAG
import Derived.OwnWalk
import Derived.Test.YtkdbapbmbhmaiaaShelf
import Derived.Test.YtkdbapbmbhmaiaaBunAB
import Derived.StillTailTactics
import Derived.Test.YtkdbapbmbhmaiaaBunAC
import Derived.Test.YtkdbapbmbhmaiaaBunAA
import Derived.Laws.BitsAllLaws
import Derived.Laws.BytesArg

/- The tags of a key: plain. -/
namespace Go.Proofs.Ytkdbapbmbhmaiaa
open Go.RowKit

/-- The text with a length at the beginning, and the rest. -/
def cutF : List UInt8 → Option (List UInt8 × List UInt8)
  | [] => none
  | b :: r => if r.length < b.toNat then none else some (r.take b.toNat, r.drop b.toNat)
theorem cutF_lt {l a r : List UInt8} (h : cutF l = some (a, r)) : r.length < l.length := by
  cases l with
  | nil => cases h
  | cons b q =>
    simp only [cutF] at h
    by_cases hb : q.length < b.toNat
    · rw [if_pos hb] at h; cases h
    · rw [if_neg hb] at h
      obtain ⟨rfl, rfl⟩ := by simpa using h
      simp; omega
theorem cutF_app {l a r : List UInt8} (h : cutF l = some (a, r)) : ∃ b : UInt8, l = b :: (a ++ r) ∧ a.length = b.toNat := by
  cases l with
  | nil => cases h
  | cons b q =>
    simp only [cutF] at h
    by_cases hb : q.length < b.toNat
    · rw [if_pos hb] at h; cases h
    · rw [if_neg hb] at h
      obtain ⟨rfl, rfl⟩ := by simpa using h
      exact ⟨b, by rw [List.take_append_drop], by simp; omega⟩
/-- Two texts: a tag; and the rest. -/
def cut2 (l : List UInt8) : Option (TagR × List UInt8) := match cutF l with
  | none => none
  | some (a, r) => match cutF r with
    | none => none
    | some (b, s) => some (⟨⟨a.toArray⟩, ⟨b.toArray⟩⟩, s)
theorem cut2_lt {l : List UInt8} {t : TagR} {s : List UInt8} (h : cut2 l = some (t, s)) : s.length < l.length := by
  unfold cut2 at h
  split at h
  · cases h
  · rename_i a r h1
    split at h
    · cases h
    · rename_i b s' h2
      cases h
      exact Nat.lt_trans (cutF_lt h2) (cutF_lt h1)
def splitP (l : List UInt8) : Option (List TagR) :=
  if l = [] then some [] else match h : cut2 l with
    | none => none
    | some (t, s) => (splitP s).map (t :: ·)
termination_by l.length
decreasing_by exact cut2_lt h
theorem splitP_nil : splitP [] = some [] := by rw [splitP]; rfl
theorem splitP_no {l : List UInt8} (h : l ≠ []) (h2 : cut2 l = none) : splitP l = none := by
  rw [splitP, if_neg h]
  split
  · rfl
  · rename_i h3; rw [h2] at h3; cases h3
theorem splitP_yes {l s : List UInt8} {t : TagR} (h : l ≠ []) (h2 : cut2 l = some (t, s)) : splitP l = (splitP s).map (t :: ·) := by
  rw [splitP, if_neg h]
  split
  · rename_i h3; rw [h2] at h3; cases h3
  · rename_i t' s' h3
    rw [h2] at h3; cases h3; rfl
/-- What is found in all, when L stands already and r is left. -/
def splitA (L : List TagR) (r : List UInt8) : Option (List TagR) := (splitP r).map (L ++ ·)
theorem splitA_nil (L : List TagR) : splitA L [] = some L := by simp [splitA, splitP_nil]
theorem splitA_0 (l : List UInt8) : splitA [] l = splitP l := by simp [splitA]
theorem splitA_no {L : List TagR} {l : List UInt8} (h : l ≠ []) (h2 : cut2 l = none) : splitA L l = none := by unfold splitA; rw [splitP_no h h2]; rfl
theorem splitA_yes {L : List TagR} {l s : List UInt8} {t : TagR} (h : l ≠ []) (h2 : cut2 l = some (t, s)) : splitA L l = splitA (L ++ [t]) s := by
  unfold splitA
  rw [splitP_yes h h2]
  cases splitP s <;> simp
/-- The error of a text that is asked for, or none; its tags. -/
def splitE (k : ByteArray) : Int := if 255 < k.size then 4 else match splitP k.data.toList with
  | none => 3
  | some L => if keyE L ≠ 0 ∨ keyY L ≠ k then 3 else 0
def splitL (k : ByteArray) : List TagR := if splitE k = 0 then (splitP k.data.toList).getD [] else []
theorem splitE_long {k : ByteArray} (h : 255 < k.size) : splitE k = 4 := if_pos h
theorem splitE_no {k : ByteArray} (h : ¬ 255 < k.size) (h2 : splitP k.data.toList = none) : splitE k = 3 := by unfold splitE; rw [if_neg h, h2]
theorem splitE_bad {k : ByteArray} {L : List TagR} (h : ¬ 255 < k.size) (h2 : splitP k.data.toList = some L) (h3 : keyE L ≠ 0 ∨ keyY L ≠ k) : splitE k = 3 := by unfold splitE; rw [if_neg h, h2]; simp only; rw [if_pos h3]
theorem splitE_ok {k : ByteArray} {L : List TagR} (h : ¬ 255 < k.size) (h2 : splitP k.data.toList = some L) (h3 : keyE L = 0) (h4 : keyY L = k) : splitE k = 0 ∧ splitL k = L := by
  have e : splitE k = 0 := by unfold splitE; rw [if_neg h, h2]; simp only; rw [if_neg (by simp [h3, h4])]
  exact ⟨e, by unfold splitL; rw [if_pos e, h2]; rfl⟩
end Go.Proofs.Ytkdbapbmbhmaiaa

/- Tags: the program's cut of a key. -/
namespace Go.Proofs.Ytkdbapbmbhmaiaa
open Go.RowKit Go.Sort

def CutP (l : List UInt8) (w : World) (e : Ending) (w' : World) : Prop :=
  w.grownBy w' none ∧ match cutF l with
    | none => e = .returned (.tuple #[.string ⟨#[]⟩, .string ⟨#[]⟩, .bool false])
    | some (a, r) => e = .returned (.tuple #[.string ⟨a.toArray⟩, .string ⟨r.toArray⟩, .bool true])
theorem cutP_no {l : List UInt8} {w : World} (h : cutF l = none) : CutP l w (.returned (.tuple #[.string ⟨#[]⟩, .string ⟨#[]⟩, .bool false])) w := ⟨grownBy_refl _ _, by rw [h]⟩
theorem cutP_yes {l a r : List UInt8} {w w' : World} (h : cutF l = some (a, r)) (hg : w.grownBy w' none) : CutP l w (.returned (.tuple #[.string ⟨a.toArray⟩, .string ⟨r.toArray⟩, .bool true])) w' := ⟨hg, by rw [h]⟩
theorem ext_text (b : UInt8) (q : List UInt8) (n : Nat) : (⟨⟨b :: q⟩⟩ : ByteArray).extract 1 (1 + n) = ⟨(q.take n).toArray⟩ := by
  apply ByteArray.ext
  rw [ByteArray.data_extract]
  apply Array.ext'
  simp
theorem ext_rest (b : UInt8) (q : List UInt8) (n : Nat) : (⟨⟨b :: q⟩⟩ : ByteArray).extract (1 + n) (q.length + 1) = ⟨(q.drop n).toArray⟩ := by
  apply ByteArray.ext
  rw [ByteArray.data_extract]
  apply Array.ext'
  simp [Nat.add_comm 1 n]
  exact List.take_of_length_le (by simp)
set_option maxHeartbeats 400000 in
set_option maxRecDepth 100000 in
theorem cut_c (k : ByteArray) (w : World) (hk : k.size ≤ 1000000) : Calls Try.prog 47 #[.string k] w (CutP k.data.toList w) := by
  obtain ⟨⟨l⟩⟩ := k
  cases l with
  | nil =>
    go_enter Try.func47, Try.ntmps47
    go_wp2_with fail
    go_ret3
    exact cutP_no rfl
  | cons b q =>
    have hs : (⟨(b :: q).toArray⟩ : ByteArray).size = q.length + 1 := by simp [ByteArray.size]
    have hne : (⟨(b :: q).toArray⟩ : ByteArray).toList.isEmpty = false := by rw [ByteArray.toList_eq]; rfl
    have hq : q.length ≤ 1000000 := by have : (⟨(b :: q).toArray⟩ : ByteArray).size ≤ 1000000 := hk; omega
    have hw1 : wrap64 (q.length : Int) = (q.length : Int) := by unfold wrap64; omega
    have hbb := b.toNat_lt
    have hw2 : wrap64 (b.toNat : Int) = (b.toNat : Int) := by unfold wrap64; omega
    have hw3 : wrap64 (1 + (b.toNat : Int)) = 1 + (b.toNat : Int) := by unfold wrap64; omega
    have hx : ∀ h, (⟨⟨b :: q⟩⟩ : ByteArray)[0]'h = b := fun _ => rfl
    by_cases hb : q.length < b.toNat
    · have hb2 : (q.length : Int) < (b.toNat : Int) := by omega
      have hb3 : ((⟨(b :: q).toArray⟩ : ByteArray).size : Int) - 1 < (b.toNat : Int) := by rw [hs]; omega
      go_enter Try.func47, Try.ntmps47
      go_wp2_with fail
      go_ret3
      exact cutP_no (by simp only [cutF]; rw [if_pos hb])
    · have hb2 : ¬ (q.length : Int) < (b.toNat : Int) := by omega
      have hb3 : ¬ ((⟨(b :: q).toArray⟩ : ByteArray).size : Int) - 1 < (b.toNat : Int) := by rw [hs]; omega
      go_enter Try.func47, Try.ntmps47
      go_upto_region 4 with fail
      have i1 : (0 : Int) ≤ 1 + (b.toNat : Int) := by omega
      have i2 : (1 : Int) ≤ 1 + (b.toNat : Int) := by omega
      have i3 : 1 + (b.toNat : Int) ≤ (q.length : Int) + 1 := by omega
      have i4 : (1 : Int) ≤ (q.length : Int) + 1 := by omega
      go_quiet (fail)
      go_wp2_with fail
      go_ret3
      rw [ext_text, ext_rest]
      exact cutP_yes (by simp only [cutF]; rw [if_neg hb]) (grownBy_drewN (grownBy_refl w none) nq)
end Go.Proofs.Ytkdbapbmbhmaiaa

/- Tags: a copy of a list, and the order by names. -/
namespace Go.Proofs.Ytkdbapbmbhmaiaa
open Go.RowKit Go.Sort

set_option maxHeartbeats 400000 in
set_option maxRecDepth 100000 in
theorem cloneT_c (v : Value) (l : List TagR) (w : World) (h : RdL tagF 2 w v l) (hl : l.length ≤ 1000000) : Calls Try.prog 72 #[v] w (RetOwn tagF 2 43 l w) := by
  obtain ⟨a, c, rfl⟩ := h.shape
  have H := Lib.hid h
  have hb1 : l.length * 32 ≤ 140737488355328 := by omega
  have hb2 : l.length ≤ 9223372036854775807 := by omega
  cases a with
  | none =>
    have hn : l = [] := by
      rcases h.2.2 with ⟨h0, _⟩ | ⟨g, off, cap, hv, _⟩
      · exact List.length_eq_zero_iff.1 h0
      · cases hv
    subst hn
    have hq := fun w => Lib.run_eql_slice_nil (P := Try.prog) w _ _ none 0 c 0 0 (elt_tag).ht
    simp only [List.length_nil]
    go_enter Try.func72, Try.ntmps72
    go_wp2
    go_ret
    exact ⟨_, rfl, Own.nil _ _ _ _ _, grownBy_refl _ _⟩
  | some ad =>
    clear h
    have hq := fun w => Lib.run_eql_slice_nil (P := Try.prog) w _ _ (some ad) l.length c 0 0 (elt_tag).ht
    go_enter Try.func72, Try.ntmps72
    go_upto_region 3 with fail
    have N := own_lit0 (e := 43) tagF 2 (Nat.le_refl w.heap.size)
    have R := H.out.same (World.grownBy_alloc w (.cells #[] 43) none)
    go_wp2_with (at_builtin; refine app_lit elt_tag one_tag N R rfl hb1 hb2 (by simp) (by rfl) _ _ (by rfl) (by rfl) (by rfl) ?_; intro v4 w4 o4 g4 l4)
    go_ret
    exact ⟨_, rfl, o4, grownBy_trans (World.grownBy_alloc w _ none) g4⟩
def cmpT (x y : TagR) : Int := Lib.compareBytes x.name.data.toList y.name.data.toList
set_option maxHeartbeats 400000 in
theorem sortTFn_c (x y : TagR) (w : World) : Calls Try.prog 74 #[tagV x, tagV y] w (RetInt (cmpT x y) w) := by
  have hc := Lib.hid fun w' => Try.strings_Compare x.name y.name w'
  have HX := Lib.hid (show cmpT x y = Lib.compareBytes x.name.data.toList y.name.data.toList from rfl)
  generalize cmpT x y = z at *
  generalize Lib.compareBytes x.name.data.toList y.name.data.toList = r at *
  have HG := Lib.hid (fun w' h => grownBy_trans (grownBy_new_block (grownBy_new_block (grownBy_refl w none) (.cells #[.string x.name, .string x.value] 43)) (.cells #[.string y.name, .string y.value] 43)) h : ∀ w', World.grownBy ((w.alloc (.cells #[.string x.name, .string x.value] 43)).alloc (.cells #[.string y.name, .string y.value] 43)) w' none → w.grownBy w' none)
  go_enter Try.func74, Try.ntmps74
  go_wp2_with (go_at_call 75; refine (hc.out _).mono ?_; rintro e w1 ⟨rfl, g1⟩)
  go_ret
  exact retInt HX.out (HG.out _ (grownBy_refl _ _))
end Go.Proofs.Ytkdbapbmbhmaiaa

/- Tags put in order by the library's insertion sort (at most 8 tags); plain: the order is the reference's. -/
namespace Go.Proofs.Ytkdbapbmbhmaiaa
open Go.RowKit Go.Sort

theorem cbT_lt : ∀ a b : List UInt8, Lib.compareBytes a b < 0 ↔ a < b
  | [], [] => by simp [Lib.compareBytes]
  | [], _ :: _ => by simp [Lib.compareBytes]
  | _ :: _, [] => by simp [Lib.compareBytes]
  | a :: r, b :: bs => by
    rw [List.cons_lt_cons_iff]
    unfold Lib.compareBytes
    by_cases h1 : a < b
    · simp [h1]
    · rw [if_neg h1]
      by_cases h2 : b < a
      · rw [if_pos h2]
        refine ⟨fun h => absurd h (by omega), ?_⟩
        rintro (h | ⟨rfl, _⟩)
        · exact absurd h h1
        · exact absurd h2 h1
      · rw [if_neg h2, cbT_lt r bs]
        have e : a = b := UInt8.le_antisymm (UInt8.not_lt.1 h2) (UInt8.not_lt.1 h1)
        exact ⟨fun h => .inr ⟨e, h⟩, fun h => h.elim (fun h => absurd h h1) fun h => h.2⟩
def befT (x y : TagR) : Bool := decide (nmB x < nmB y)
theorem cmpT_neg (x y : TagR) : decide (cmpT x y < 0) = befT x y := by
  unfold cmpT befT
  rw [Bool.eq_iff_iff]
  simp only [decide_eq_true_eq]
  exact cbT_lt _ _
/-- Where a tag goes: behind the last of the first k that it does not come before. -/
def insKT (x : TagR) (L : List TagR) : Nat → Nat
  | 0 => 0
  | k + 1 => if ((L[k]?).map (befT x)).getD false then insKT x L k else k + 1
theorem insKT_le (x : TagR) (L : List TagR) : ∀ k, insKT x L k ≤ k
  | 0 => Nat.le_refl _
  | k + 1 => by
    unfold insKT
    split
    · exact Nat.le_succ_of_le (insKT_le x L k)
    · exact Nat.le_refl _
def insLT (L : List TagR) (x : TagR) : List TagR := L.take (insKT x L L.length) ++ [x] ++ L.drop (insKT x L L.length)
theorem insLT_len (L : List TagR) (x : TagR) : (insLT L x).length = L.length + 1 := by
  have := insKT_le x L L.length
  unfold insLT
  simp; omega
def sortS (l : List TagR) : List TagR := l.foldl insLT []
theorem sortS_snoc (l : List TagR) (x : TagR) : sortS (l ++ [x]) = insLT (sortS l) x := by simp [sortS]
theorem sortS_len (l : List TagR) : (sortS l).length = l.length := by
  have : ∀ (l a : List TagR), (l.foldl insLT a).length = a.length + l.length := by
    intro l
    induction l with
    | nil => simp
    | cons x l ih => intro a; simp only [List.foldl_cons, ih, insLT_len, List.length_cons]; omega
  simpa [sortS] using this l []
/-- All from the place on, up to k, come after the tag; the one ahead of it does not. -/
theorem insKT_after (x : TagR) (L : List TagR) : ∀ {k j : Nat} (_ : insKT x L k ≤ j) (_ : j < k) (h : j < L.length), nmB x < nmB L[j]
  | 0, _, _, h2, _ => absurd h2 (by omega)
  | k + 1, j, h1, h2, h3 => by
    unfold insKT at h1
    by_cases hc : ((L[k]?).map (befT x)).getD false = true
    · rw [if_pos hc] at h1
      by_cases hj : j < k
      · exact insKT_after x L h1 hj h3
      · obtain rfl : j = k := by omega
        rw [List.getElem?_eq_getElem h3] at hc
        simpa [befT] using hc
    · rw [if_neg hc] at h1; omega
theorem insKT_ahead (x : TagR) (L : List TagR) : ∀ {k j : Nat} (_ : insKT x L k = j + 1) (h : j < L.length), ¬ nmB x < nmB L[j]
  | 0, _, h1, _ => absurd h1 (by simp [insKT])
  | k + 1, j, h1, h3 => by
    unfold insKT at h1
    by_cases hc : ((L[k]?).map (befT x)).getD false = true
    · rw [if_pos hc] at h1
      exact insKT_ahead x L h1 h3
    · rw [if_neg hc] at h1
      obtain rfl : k = j := by omega
      rw [List.getElem?_eq_getElem h3] at hc
      simpa [befT] using hc
theorem lessT_eq {L : List TagR} {x : TagR} {p : Nat} (hp : p ≤ L.length) (h1 : ∀ j (hj : j < L.length), j < p → nmB L[j] < nmB x) (h2 : ∀ (hj : p < L.length), ¬ nmB L[p] < nmB x) : lessT L x = p := by
  rcases Nat.lt_trichotomy (lessT L x) p with h | h | h
  · exact absurd (h1 _ (by omega) h) (lessT_at (L := L) (k := x) (by omega))
  · exact h
  · have := lessT_le L x
    exact absurd (lessT_lt h (by omega)) (h2 (by omega))
theorem insLT_eq {L : List TagR} {x : TagR} (h : AscT L) (hx : ∀ y ∈ L, nmB y ≠ nmB x) : insLT L x = insT L x := by
  have hle := insKT_le x L L.length
  have e : lessT L x = insKT x L L.length := by
    refine lessT_eq hle (fun j hj hjp => ?_) (fun hj => ?_)
    · have h1 := insKT_ahead x L (k := L.length) (j := insKT x L L.length - 1) (by omega) (by omega)
      have h2 : nmB L[insKT x L L.length - 1] < nmB x := lt_of_not h1 fun e => hx _ (List.getElem_mem _) e.symm
      by_cases hjj : j = insKT x L L.length - 1
      · subst hjj; exact h2
      · exact List.lt_trans (List.pairwise_iff_getElem.1 h j (insKT x L L.length - 1) hj (by omega) (by omega)) h2
    · exact fun h3 => List.lt_irrefl _ (List.lt_trans h3 (insKT_after x L (k := L.length) (Nat.le_refl _) hj hj))
  unfold insLT insT
  rw [e]
/-- Two next to each other have the same name. -/
def AdjEq (S : List TagR) : Prop := ∃ i, ∃ h : i + 1 < S.length, nmB S[i] = nmB S[i + 1]
theorem ins_lo {L : List TagR} {x : TagR} {p i : Nat} (hp : p ≤ L.length) (hi : i < p) : (L.take p ++ [x] ++ L.drop p)[i]? = L[i]? := by
  have e : (L.take p).length = p := by simp; omega
  rw [List.append_assoc, List.getElem?_append_left (by omega), List.getElem?_take, if_pos hi]
theorem ins_mid {L : List TagR} {x : TagR} {p : Nat} (hp : p ≤ L.length) : (L.take p ++ [x] ++ L.drop p)[p]? = some x := by
  have e : (L.take p).length = p := by simp; omega
  rw [List.append_assoc, List.getElem?_append_right (by omega), e]; simp
theorem ins_hi {L : List TagR} {x : TagR} {p i : Nat} (hp : p ≤ L.length) (hi : p ≤ i) : (L.take p ++ [x] ++ L.drop p)[i + 1]? = L[i]? := by
  have e : (L.take p).length = p := by simp; omega
  rw [List.append_assoc, List.getElem?_append_right (by omega), e, show i + 1 - p = (i - p) + 1 by omega, List.singleton_append, List.getElem?_cons_succ, List.getElem?_drop, show p + (i - p) = i by omega]
theorem adj_of {S : List TagR} {i : Nat} {x y : TagR} (h1 : S[i]? = some x) (h2 : S[i + 1]? = some y) (h : nmB x = nmB y) : AdjEq S := by
  obtain ⟨a, rfl⟩ := List.getElem?_eq_some_iff.1 h1
  obtain ⟨b, rfl⟩ := List.getElem?_eq_some_iff.1 h2
  exact ⟨i, b, h⟩
theorem adj_ins {L : List TagR} {x : TagR} (h : AdjEq L) : AdjEq (insLT L x) := by
  obtain ⟨i, hi, e⟩ := h
  have hle := insKT_le x L L.length
  unfold insLT
  by_cases h1 : insKT x L L.length ≤ i
  · refine adj_of (i := i + 1) (x := L[i]) (y := L[i + 1]) ?_ ?_ e
    · rw [ins_hi hle h1, List.getElem?_eq_getElem]
    · rw [ins_hi hle (by omega), List.getElem?_eq_getElem]
  · by_cases h2 : i + 1 < insKT x L L.length
    · refine adj_of (i := i) (x := L[i]) (y := L[i + 1]) ?_ ?_ e
      · rw [ins_lo hle (by omega), List.getElem?_eq_getElem]
      · rw [ins_lo hle h2, List.getElem?_eq_getElem]
    · have h3 : insKT x L L.length = i + 1 := by omega
      have h4 := insKT_ahead x L h3 (by omega)
      have h5 := insKT_after x L (k := L.length) (j := i + 1) (by omega) hi hi
      rw [← e] at h5
      exact absurd h5 h4
theorem adj_new {L : List TagR} {x y : TagR} (h : AscT L) (hy : y ∈ L) (e : nmB y = nmB x) : AdjEq (insLT L x) := by
  obtain ⟨i, hi, rfl⟩ := List.getElem_of_mem hy
  have hle := insKT_le x L L.length
  have h1 : i < insKT x L L.length := by
    refine Nat.lt_of_not_le fun h1 => ?_
    have := insKT_after x L (k := L.length) h1 hi hi
    rw [e] at this
    exact List.lt_irrefl _ this
  have h2 : ¬ i + 1 < insKT x L L.length := fun h2 => by
    have h3 := insKT_ahead x L (k := L.length) (j := insKT x L L.length - 1) (by omega) (by omega)
    have h4 := List.pairwise_iff_getElem.1 h i (insKT x L L.length - 1) hi (by omega) (by omega)
    rw [e] at h4
    exact h3 h4
  unfold insLT
  refine adj_of (i := i) (x := L[i]) (y := x) ?_ ?_ e
  · rw [ins_lo hle h1, List.getElem?_eq_getElem]
  · rw [show i + 1 = insKT x L L.length by omega]; exact ins_mid hle
/-- The library's order is the reference's, where the names differ; else two next to each other are the same. -/
theorem sortS_is : ∀ (l : List TagR), (Dif l → sortS l = sortT l) ∧ (¬ Dif l → AdjEq (sortS l)) := by
  intro l
  have key : ∀ k, k ≤ l.length → (Dif (l.take k) → sortS (l.take k) = sortT (l.take k)) ∧ (¬ Dif (l.take k) → AdjEq (sortS (l.take k))) := by
    intro k
    induction k with
    | zero => intro _; exact ⟨fun _ => by simp [sortS, sortT], fun h => absurd (by simp [Dif]) h⟩
    | succ k ih =>
      intro hk
      obtain ⟨i1, i2⟩ := ih (by omega)
      rw [List.take_succ_eq_append_getElem (by omega), sortS_snoc, sortT_snoc]
      by_cases hd : Dif (l.take k)
      · rw [i1 hd]
        have ha := sortT_asc hd
        constructor
        · intro h
          exact insLT_eq ha fun y hy => (dif_snoc.1 h).2 y ((sortT_mem _ _).1 hy)
        · intro h
          have : ∃ y ∈ l.take k, nmB y = nmB l[k] := by
            refine Decidable.byContradiction fun hn => h (dif_snoc.2 ⟨hd, fun y hy e => hn ⟨y, hy, e⟩⟩)
          obtain ⟨y, hy, e⟩ := this
          exact adj_new ha ((sortT_mem _ _).2 hy) e
      · exact ⟨fun h => absurd (dif_snoc.1 h).1 hd, fun _ => adj_ins (i2 hd)⟩
  have := key l.length (Nat.le_refl _)
  rwa [List.take_of_length_le (Nat.le_refl _)] at this
theorem asc_no_adj {S : List TagR} (h : AscT S) : ¬ AdjEq S := by
  rintro ⟨i, hi, e⟩
  have := List.pairwise_iff_getElem.1 h i (i + 1) (by omega) hi (by omega)
  rw [e] at this
  exact List.lt_irrefl _ this
theorem mid_atT (S R : List TagR) (x : TagR) {j : Nat} (hj : j ≤ S.length) : (S.take j ++ [x] ++ S.drop j ++ R)[j]? = some x := by
  have e : (S.take j).length = j := by simp; omega
  rw [List.append_assoc, List.append_assoc, List.getElem?_append_right (by omega), e]; simp
theorem mid_beforeT (S R : List TagR) (x : TagR) {j k : Nat} (hj : j ≤ S.length) (hk : k < j) : (S.take j ++ [x] ++ S.drop j ++ R)[k]? = S[k]? := by
  have e : (S.take j).length = j := by simp; omega
  rw [List.append_assoc, List.append_assoc, List.getElem?_append_left (by omega), List.getElem?_take, if_pos hk]
theorem mid_lenT (S R : List TagR) (x : TagR) (j : Nat) : (S.take j ++ [x] ++ S.drop j ++ R).length = S.length + 1 + R.length := by
  simp; omega
theorem mid_swapT (S R : List TagR) (x : TagR) {j : Nat} (hj : j + 1 ≤ S.length) : ((S.take (j + 1) ++ [x] ++ S.drop (j + 1) ++ R).set (j + 1) S[j]).set j x = S.take j ++ [x] ++ S.drop j ++ R := by
  have e1 : (S.take (j + 1)).length = j + 1 := by simp; omega
  have e2 : (S.take j).length = j := by simp; omega
  have e3 : S.take (j + 1) = S.take j ++ [S[j]] := List.take_succ_eq_append_getElem (by omega)
  have e4 : S.drop j = S[j] :: S.drop (j + 1) := List.drop_eq_getElem_cons (by omega)
  rw [List.append_assoc, List.append_assoc, List.set_append_right _ _ (by omega), e1, Nat.sub_self, e3]
  simp only [List.cons_append, List.nil_append, List.set_cons_zero, List.append_assoc]
  rw [List.set_append_right _ _ (by omega), e2, Nat.sub_self]
  simp only [List.set_cons_zero]
  rw [e4, List.cons_append]
/-- A whole tag is stored. -/
theorem Own.storeT2 {B : Nat} {w : World} {g n cap : Nat} {l : List TagR} (h : Own tagF 2 43 B w (.slice (some ⟨g, 0, none⟩) n cap) l) {i : Nat} (hi : i < l.length) (y : TagR) :
    Own tagF 2 43 B ((w.setCell ⟨g, i * 2, none⟩ (.string y.name)).setCell ⟨g, i * 2 + 1, none⟩ (.string y.value)) (.slice (some ⟨g, 0, none⟩) n cap) (l.set i y) ∧
      w.grownBy ((w.setCell ⟨g, i * 2, none⟩ (.string y.name)).setCell ⟨g, i * 2 + 1, none⟩ (.string y.value)) (some g) := by
  have h1 := h.stored tagF_len hi (show 0 < 2 by omega) (.string y.name) ⟨y.name, l[i].value⟩ rfl
  have h2 := h1.1.stored tagF_len (i := i) (by simpa using hi) (show 1 < 2 by omega) (.string y.value) y (by simp [tagF])
  refine ⟨?_, grownBy_trans h1.2 h2.2⟩
  have := h2.1
  rw [List.set_set] at this
  simpa using this

/-! ### The insertion sort -/
abbrev sortTFn : Value := .func (Fn.func 74) #[] #[]
theorem sorted_oneT (l : List TagR) : sortS (l.take 1) ++ l.drop 1 = l := by
  cases l with
  | nil => rfl
  | cons x l => simp [sortS, insLT, insKT]

set_option maxHeartbeats 1000000 in
set_option maxRecDepth 100000 in
theorem isort_cT (B : Nat) (a : Option Addr) (c : Nat) (l : List TagR) (w : World) (h : Own tagF 2 43 B w (.slice a l.length c) l) (hl : l.length ≤ 1000000) :
    Calls Try.prog 86 #[.slice a l.length c, .int .i64 0, .int .i64 l.length, sortTFn] w fun e w' =>
      e = .returned (.tuple #[]) ∧ Own tagF 2 43 B w' (.slice a l.length c) (sortS l) ∧ w.grownBy w' (Value.ownBlock (.slice a l.length c)) := by
  have hm := h.len
  have H := Lib.hid h
  have hll : (l.length : Int) ≤ 1000000 := by omega
  clear h
  generalize hV : (Value.slice a l.length c).ownBlock = rb
  have HV := Lib.hid hV
  clear hV
  go_enter Try.func86, Try.ntmps86
  go_wp2_with fail
  go_loopw [8, 9, 18, 19] (fun s8 _ _ _ wk => ∃ (i : Nat), 1 ≤ i ∧ s8 = .int .i64 i ∧ Own tagF 2 43 B wk (.slice a l.length c) (sortS (l.take i) ++ l.drop i) ∧ w.grownBy wk rb) (fun s8 _ _ _ _ => l.length + 1 - (intOf s8).toNat)
  case atStart => exact ⟨1, by omega, rfl, by rw [sorted_oneT]; exact H.out, grownBy_refl _ _⟩
  case round =>
    obtain ⟨i, hi, rfl, hO, hg⟩ := hrel
    by_cases hil : i < l.length
    · have hdr : l.drop i = l[i] :: l.drop (i + 1) := List.drop_eq_getElem_cons hil
      have HS := Lib.hid (show insLT (sortS (l.take i)) l[i] = sortS (l.take (i + 1)) by rw [List.take_succ_eq_append_getElem hil, sortS_snoc])
      have hSl : (sortS (l.take i)).length = i := by rw [sortS_len, List.length_take]; omega
      have hO2 : Own tagF 2 43 B wr (.slice a l.length c) ((sortS (l.take i)).take i ++ [l[i]] ++ (sortS (l.take i)).drop i ++ l.drop (i + 1)) := by
        rw [List.take_of_length_le (by omega), List.drop_of_length_le (by omega), List.append_nil, List.append_assoc]
        rw [hdr] at hO
        exact hO
      have hRl : (l.drop (i + 1)).length = l.length - (i + 1) := by simp
      have HO := Lib.hid hO2
      clear hO hO2 hdr
      generalize sortS (l.take i) = S at *
      obtain ⟨R, hR⟩ : ∃ R, l.drop (i + 1) = R := ⟨_, rfl⟩
      have HR := Lib.hid hR
      rw [hR] at hRl HO
      clear hR
      generalize l[i] = x at *
      subst hSl
      have HK := Lib.hid (show insLT S x = S.take (insKT x S S.length) ++ [x] ++ S.drop (insKT x S S.length) from rfl)
      obtain ⟨P, hP⟩ : ∃ P, insKT x S S.length = P := ⟨_, rfl⟩
      have Hst := Lib.hid hP
      rw [hP] at HK
      clear hP
      have HRl := Lib.hid hRl
      clear hRl
      go_wp2_with fail
      go_loopw [9, 18, 19] (fun s9 _ _ wk => ∃ j : Nat, j ≤ S.length ∧ s9 = .int .i64 j ∧ insKT x S j = P ∧ Own tagF 2 43 B wk (.slice a l.length c) (S.take j ++ [x] ++ S.drop j ++ R) ∧ w.grownBy wk rb) (fun s9 _ _ _ => (intOf s9).toNat)
      case atStart => exact ⟨S.length, Nat.le_refl _, rfl, Hst.out, HO.out, hg⟩
      case round =>
        clear HO hg
        obtain ⟨j, hj, rfl, hik, hO, hg⟩ := hrel
        have Hik := Lib.hid hik
        clear hik
        have hML := mid_lenT S R x j
        have hmj := mid_atT S R x hj
        obtain ⟨gv, cv, hv, hBg, hgv, hcv, hcx, hfz⟩ := hO.at_ tagF_len (i := j) (by omega)
        obtain ⟨rfl, -, rfl⟩ : a = some ⟨gv, 0, none⟩ ∧ l.length = (S.take j ++ [x] ++ S.drop j ++ R).length ∧ c = cv := by simpa only [Value.slice.injEq] using hv
        clear hv
        have ex : (S.take j ++ [x] ++ S.drop j ++ R)[j]'(by omega) = x := by
          have := List.getElem?_eq_getElem (l := S.take j ++ [x] ++ S.drop j ++ R) (i := j) (by omega)
          rw [hmj] at this; exact (Option.some.inj this).symm
        rw [ex] at hcx
        have c0 := hcx 0 _ rfl
        have c1 := hcx 1 _ rfl
        rw [Nat.add_zero] at c0
        clear hcx hmj ex
        by_cases hj0 : 0 < j
        · have hd : decide ((0 : Int) < (j : Int)) = true := decide_eq_true (by omega)
          obtain ⟨k, hk⟩ : ∃ k, j = k + 1 := ⟨j - 1, by omega⟩
          have hkS : k < S.length := by omega
          have hmk := mid_beforeT S R x hj (k := k) (by omega)
          rw [List.getElem?_eq_getElem hkS] at hmk
          obtain ⟨gv', cv', hv', -, -, -, hcy, -⟩ := hO.at_ tagF_len (i := k) (by omega)
          obtain ⟨hg', -, -⟩ : some ⟨gv, 0, none⟩ = some (⟨gv', 0, none⟩ : Addr) ∧ l.length = (S.take j ++ [x] ++ S.drop j ++ R).length ∧ c = cv' := by simpa only [Value.slice.injEq] using hv'
          cases hg'
          clear hv'
          have ey : (S.take j ++ [x] ++ S.drop j ++ R)[k]'(by omega) = S[k] := by
            have := List.getElem?_eq_getElem (l := S.take j ++ [x] ++ S.drop j ++ R) (i := k) (by omega)
            rw [hmk] at this; exact (Option.some.inj this).symm
          rw [ey] at hcy
          have d0 := hcy 0 _ rfl
          have d1 := hcy 1 _ rfl
          rw [Nat.add_zero] at d0
          clear hcy hmk ey
          have hst := Lib.hid (show insKT x S j = if befT x S[k] then insKT x S k else j by rw [hk, insKT, List.getElem?_eq_getElem hkS]; rfl)
          have hms := Lib.hid (mid_swapT S R x (j := k) (by omega))
          generalize S[k] = y at *
          have hcn := cmpT_neg x y
          have hjl : (j : Int) < (l.length : Int) := by omega
          have hkl : (k : Int) < (l.length : Int) := by omega
          have hk0 : (0 : Int) ≤ (k : Int) := by omega
          have hs1 : IntKind.i64.wrap ((j : Int) - 1) = (k : Int) := by rw [IntWalk.i64_in _ (by omega)]; omega
          have hs4 : (j : Int) - 1 = (k : Int) := by omega
          have r0 := cell_regrown c0
          have r1 := cell_regrown c1
          have p0 := cell_regrown d0
          have p1 := cell_regrown d1
          have r4 := call_re (w := wr) fun w' hg => sortTFn_c x y w'
          have HC := Lib.hid fun w' (h : World.grownBy wr w' none) => And.intro (((grownBy_cells h).1 gv _ hgv (by simp)).trans c0) (And.intro (((grownBy_cells h).1 gv _ hgv (by simp)).trans c1) (And.intro (((grownBy_cells h).1 gv _ hgv (by simp)).trans d0) (((grownBy_cells h).1 gv _ hgv (by simp)).trans d1)))
          have HFz := Lib.hid fun w' (h : World.grownBy wr w' none) o => ((grownBy_cells h).2 gv o hgv (by simp)).trans (hfz o)
          have Hk := Lib.hid hk
          have HML := Lib.hid hML
          clear hk hML hfz c0 c1 d0 d1
          generalize cmpT x y = q at *
          generalize befT x y = bb at *
          go_wp2_with fail
          (refine Tail.wp_region_tail_grown 17 (by kernel_rfl) (by kernel_rfl) ?_; simp only [List.take, List.drop]; (repeat (go_big_quiet_step (with_reducible exact r4 _ _))); refine wpQuiet_nil ?_; rintro _ ⟨⟨d5, os5⟩, rfl⟩)
          have K3 := grownBy_trans hg (grownBy_some (grown_re wr d5 os5) rb)
          have O3 := hO.same (grown_re wr d5 os5)
          have G3 := grown_re wr d5 os5
          generalize grow (redrawn wr d5) os5 = w3 at *
          clear r0 r1 p0 p1 r4 hs1
          cases bb
          · have Hst2 := Lib.hid (hst.out.trans (if_neg (by simp)))
            clear hst
            go_wp2_with fail
            exact ⟨⟨S.length + 1, by omega, by go_num, by rw [← HS.out, HK.out, ← Hik.out, Hst2.out, HR.out]; exact O3, K3⟩, by simp [intOf]; omega⟩
          · have Hst2 := Lib.hid (hst.out.trans (if_pos rfl))
            clear hst
            go_wp2_with fail
            have Gd : wr.grownBy w3.drew none := grownBy_trans G3 (by (repeat (first | exact grownBy_refl _ _ | assumption | refine grownBy_new_block ?_ _ | refine grownBy_drew ?_ | refine grownBy_drewN ?_ _ | refine grownBy_setNew ?_ (by first | (simp; done) | omega | (simp; omega)) _)))
            (refine Rg.wp_region_rgZ 14 #[false, false, true, true, true, false, false, false, false, false, false, false, false, false] (fun w w' => World.grownBy w w' none) (fun _ _ _ _ _ => False) (by kernel_rfl) (by kernel_rfl) (fun w => grownBy_refl w none) (fun _ _ _ h k => grownBy_trans h k) (fun _ _ _ _ _ h => h) ?_; simp only [List.take, List.drop])
            (refine Rg.tree_quiet 9 rfl (by first | exact Or.inl rfl | exact Or.inr rfl) ?_; simp only [List.take, List.drop, List.length_cons, List.length_nil, List.replicate, Nat.reduceAdd]; (try simp only [List.cons_append]); (try simp only [List.nil_append]); (repeat (go_big_quiet_step (fail))); refine wpQuiet_nil ?_)
            (refine Rg.tree_op rfl rfl ?_; intro y9 my9 dy9)
            clear dy9
            obtain ⟨_, _, d0, d1⟩ := HC.out y9 (grownBy_trans Gd my9)
            go_wp2_with fail
            refine ⟨grownBy_refl _ _, ?_⟩
            clear d0 d1
            (refine Rg.tree_quiet 3 rfl (by first | exact Or.inl rfl | exact Or.inr rfl) ?_; simp only [List.take, List.drop, List.length_cons, List.length_nil, List.replicate, Nat.reduceAdd]; (try simp only [List.cons_append]); (try simp only [List.nil_append]); (repeat (go_big_quiet_step (fail))); refine wpQuiet_nil ?_)
            (refine Rg.tree_op rfl rfl ?_; intro y13 my13 dy13)
            clear dy13
            obtain ⟨c0, c1, _, _⟩ := HC.out y13 (grownBy_trans Gd my13)
            go_wp2_with fail
            refine ⟨grownBy_refl _ _, ?_⟩
            clear c0 c1
            (refine Rg.tree_nil ?_; intro z mz dz cz)
            clear dz cz
            have hfz := HFz.out z (grownBy_trans Gd mz)
            obtain ⟨c0, c1, d0, d1⟩ := HC.out z (grownBy_trans Gd mz)
            have n0 : ¬ (k * 2 = j * 2) := by have := Hk.out; omega
            have n1 : ¬ (j * 2 = k * 2) := by have := Hk.out; omega
            have n2 : ¬ (k * 2 = j * 2 + 1) := by have := Hk.out; omega
            have n3 : ¬ (j * 2 + 1 = k * 2) := by have := Hk.out; omega
            have n4 : ¬ (k * 2 + 1 = j * 2) := by have := Hk.out; omega
            have n5 : ¬ (j * 2 = k * 2 + 1) := by have := Hk.out; omega
            have n6 : ¬ (k * 2 + 1 = j * 2 + 1) := by have := Hk.out; omega
            have n7 : ¬ (j * 2 + 1 = k * 2 + 1) := by have := Hk.out; omega
            go_wp2_with fail
            obtain rfl := Hk.out
            have Oz := O3.same (grownBy_trans (show World.grownBy w3 w3.drew none from (by (repeat (first | exact grownBy_refl _ _ | assumption | refine grownBy_new_block ?_ _ | refine grownBy_drew ?_ | refine grownBy_drewN ?_ _ | refine grownBy_setNew ?_ (by first | (simp; done) | omega | (simp; omega)) _)))) mz)
            have hlt1 : k + 1 < (S.take (k + 1) ++ [x] ++ S.drop (k + 1) ++ R).length := by rw [mid_lenT]; omega
            have s1 := Oz.storeT2 hlt1 y
            have s2 := s1.1.storeT2 (i := k) (by rw [List.length_set]; omega) x
            have hrb : some gv = rb := HV.out
            have s3 := s2.1
            rw [hms.out] at s3
            exact ⟨⟨k, by omega, rfl, by rw [← Hik.out, Hst2.out], s3, grownBy_trans K3 (grownBy_trans (grownBy_some (grownBy_trans (show World.grownBy w3 w3.drew none from (by (repeat (first | exact grownBy_refl _ _ | assumption | refine grownBy_new_block ?_ _ | refine grownBy_drew ?_ | refine grownBy_drewN ?_ _ | refine grownBy_setNew ?_ (by first | (simp; done) | omega | (simp; omega)) _)))) mz) rb) (hrb ▸ grownBy_trans s1.2 s2.2))⟩, by simp [intOf]⟩
        · obtain rfl : j = 0 := by omega
          have hd : decide ((0 : Int) < ((0 : Nat) : Int)) = false := rfl
          clear c0 c1
          go_wp2_with fail
          go_quiet (fail)
          go_wp2_with fail
          have hik2 : P = 0 := by rw [← Hik.out]; rfl
          exact ⟨⟨S.length + 1, by omega, by go_num, by rw [← HS.out, HK.out, HR.out, hik2]; exact hO.same (grownBy_drewN (grownBy_refl _ _) _), grownBy_drewN hg _⟩, by simp [intOf]; omega⟩
    · have e1 : sortS (l.take i) ++ l.drop i = sortS l := by rw [List.take_of_length_le (by omega), List.drop_of_length_le (by omega), List.append_nil]
      rw [e1] at hO
      go_wp2_with fail
      go_end0
      exact ⟨rfl, hO, hg⟩

/-! ### The library's sort, for a few tags: the insertion sort -/
set_option maxHeartbeats 400000 in
theorem pdqT_c (B : Nat) (a : Option Addr) (c : Nat) (l : List TagR) (q : Int) (w : World) (h : Own tagF 2 43 B w (.slice a l.length c) l) (hl : l.length ≤ 8) :
    Calls Try.prog 83 #[.slice a l.length c, .int .i64 0, .int .i64 l.length, .int .i64 q, sortTFn] w fun e w' =>
      e = .returned (.tuple #[]) ∧ Own tagF 2 43 B w' (.slice a l.length c) (sortS l) ∧ w.grownBy w' (Value.ownBlock (.slice a l.length c)) := by
  have hc := Lib.hid (isort_cT B a c l w h (by omega))
  have h1 : (l.length : Int) ≤ 12 := by omega
  have h2 : wrap64 (l.length : Int) = (l.length : Int) := by unfold wrap64; omega
  clear h
  go_enter Try.func83, Try.ntmps83
  go_wp2_with fail
  go_loopw [1, 2, 3, 10, 11, 12] (fun s1 s2 _ _ _ _ wk => s1 = .int .i64 0 ∧ s2 = .int .i64 l.length ∧ w = wk) (fun _ _ _ _ _ _ _ => 0)
  case atStart => exact ⟨rfl, rfl, rfl⟩
  case round =>
    obtain ⟨rfl, rfl, rfl⟩ := hrel
    go_wp2_with (go_at_call 86; refine hc.out.mono ?_; rintro e w2 ⟨rfl, o2, g2⟩)
    refine bodyPost_ret (results_none (h := by kernel_rfl) ..) rfl ?_
    exact ⟨rfl, o2, g2⟩
set_option maxHeartbeats 400000 in
theorem sortFuncT_c (B : Nat) (a : Option Addr) (c : Nat) (l : List TagR) (w : World) (h : Own tagF 2 43 B w (.slice a l.length c) l) (hl : l.length ≤ 8) :
    Calls Try.prog 73 #[.slice a l.length c, sortTFn] w fun e w' =>
      e = .returned (.tuple #[]) ∧ Own tagF 2 43 B w' (.slice a l.length c) (sortS l) ∧ w.grownBy w' (Value.ownBlock (.slice a l.length c)) := by
  have hc := Lib.hid fun q => pdqT_c B a c l q w h hl
  have hw : IntKind.u64.wrap (l.length : Int) = (l.length : Int) := IntWalk.u64_in _ (by omega)
  have hb := Lib.hid fun n w' => Try.bits_Len n w'
  clear h
  go_enter Try.func73, Try.ntmps73
  go_wp2_with (first
    | (go_at_call 55; refine (hb.out _ _ (by omega) (by omega)).mono ?_; rintro e w1 ⟨rfl, rfl⟩)
    | (go_at_call 83; refine (hc.out _).mono ?_; rintro e w2 ⟨rfl, o2, g2⟩))
  go_end0
  exact ⟨rfl, o2, g2⟩
end Go.Proofs.Ytkdbapbmbhmaiaa

/- The program's tags put in order, its keys, its split of a key: for all tags as the reference's. -/
namespace Go.Proofs.Ytkdbapbmbhmaiaa
open Go.RowKit Go.Sort

set_option maxHeartbeats 2000000 in
set_option maxRecDepth 100000 in
theorem tsort_c (v : Value) (L : List TagR) (w : World) (h : RdL tagF 2 w v L) (hW : ∀ t ∈ L, TagW t) : Calls Try.prog 58 #[v] w (SortP L w) := by
  obtain ⟨a, c, rfl⟩ := h.shape
  have hm := h.2.1
  have H := Lib.hid h
  have HW := Lib.hid hW
  clear h hW
  by_cases h0 : L.length = 0
  · have HE := Lib.hid (sortE_few (.inl h0))
    obtain rfl : L = [] := List.eq_nil_of_length_eq_zero h0
    clear h0
    go_enter Try.func58, Try.ntmps58
    go_wp2_with fail
    go_ret2
    exact sortP_no HE.out (by decide) (grownBy_refl _ _)
  have i0 : ((L.length : Int) == 0) = false := beq_eq_false_iff_ne.2 (by omega)
  by_cases h8 : 8 < L.length
  · have HE := Lib.hid (sortE_few (.inr h8))
    have i8 : (8 : Int) < (L.length : Int) := by omega
    clear h0
    go_enter Try.func58, Try.ntmps58
    go_wp2_with fail
    go_ret2
    exact sortP_no HE.out (by decide) (grownBy_refl _ _)
  have i8 : (L.length : Int) ≤ 8 := by omega
  have Hfew := Lib.hid (show ¬ (L.length = 0 ∨ 8 < L.length) by omega)
  clear h0
  go_enter Try.func58, Try.ntmps58
  go_wp2_with fail
  go_loopw [19] (fun s19 wk => ∃ i : Nat, i ≤ L.length ∧ s19 = .int .i64 i ∧ (∀ j (hj : j < L.length), j < i → tagE L[j] = 0) ∧ w.grownBy wk none) (fun s19 _ => L.length - (intOf s19).toNat)
  case atStart => exact ⟨0, Nat.zero_le _, rfl, by intro j hj h; omega, grownBy_refl _ _⟩
  case round =>
    obtain ⟨i, hi, rfl, hall, hg⟩ := hrel
    have Hall := Lib.hid hall
    have HGr := Lib.hid hg
    clear hall
    by_cases hlt : i < L.length
    · obtain ⟨gx, ox, cx, hv, hgx, hcx⟩ := (RdL.same H.out hg).at_ tagF_len hlt
      cases hv
      have c0 := hcx 0 _ rfl
      have c1 := hcx 1 _ rfl
      rw [Nat.add_zero] at c0
      have hw := HW.out _ (List.getElem_mem hlt)
      have HF := Lib.hid (show ∀ E : Int, E ≠ 0 → tagE L[i] = E → sortE L = E from fun E hE h => by
        have h1 := tagsE_at hlt Hall.out (by rw [h]; exact hE)
        rw [sortE_tag Hfew.out (by rw [h1, h]; exact hE), h1, h])
      have HS := Lib.hid (show tagE L[i] = 0 → ∀ j (hj : j < L.length), j < i + 1 → tagE L[j] = 0 from fun h j hj hji => by
        rcases Nat.lt_or_ge j i with h1 | h1
        · exact Hall.out j hj h1
        · obtain rfl : j = i := by omega
          exact h)
      have C := Lib.hid fun w' => tvalid_c L[i] w' hw
      clear hcx hw Hall hg
      generalize L[i] = x at *
      generalize tagE x = EE at *
      by_cases hE : EE = 0
      · subst hE
        have HS2 := Lib.hid (HS.out rfl)
        clear HF HS
        go_wp2_with (go_at_call 71; refine (C.out _).mono ?_; rintro e w2 ⟨rfl, g2⟩)
        exact ⟨⟨i + 1, by omega, by go_num, HS2.out, grownBy_trans HGr.out (grownBy_trans (World.grownBy_alloc _ _ _) g2)⟩, by simp [intOf]; omega⟩
      · have he2 : (EE != 0) = true := by simpa using hE
        have he3 : (EE == 0) = false := by simpa using hE
        have HF2 := Lib.hid (HF.out EE hE rfl)
        have HE0 := Lib.hid hE
        clear HF HS hE
        go_wp2_with (go_at_call 71; refine (C.out _).mono ?_; rintro e w2 ⟨rfl, g2⟩)
        go_ret2
        exact sortP_no HF2.out HE0.out (grownBy_trans HGr.out (grownBy_trans (World.grownBy_alloc _ _ _) g2))
    · have HT := Lib.hid (show tagsE L = 0 from tagsE_no fun t ht => by
        obtain ⟨j, hj, rfl⟩ := List.getElem_of_mem ht
        exact Hall.out j hj (by omega))
      have hi1 : ¬ (i : Int) < (L.length : Int) := by omega
      have C1 := Lib.hid (cloneT_c _ L wr (H.out.same hg) (by omega))
      have C2 := Lib.hid fun a c w' h => sortFuncT_c wr.heap.size a c L w' h (by omega)
      clear Hall hg
      go_upto_region 13 with (first
        | (go_at_call 72; refine C1.out.mono ?_; rintro e w2 ⟨v2, rfl, o2, g2⟩; obtain ⟨a2, c2, rfl⟩ := o2.shape)
        | (go_at_call 73; refine (C2.out _ _ _ o2).mono ?_; rintro e w3 ⟨rfl, o3, g3⟩))
      have G3 := grown_own (grownBy_trans HGr.out g2) o2 HGr.out.size g3
      have O3 := o3.base (B' := w.heap.size) (fun k hk => Nat.le_trans HGr.out.size (o3.lt k hk).1)
      have hSl := sortS_len L
      have HI := Lib.hid (sortS_is L)
      have HTA := Lib.hid (sortT_asc (L := L))
      clear o2 g2 o3 g3 C1 C2 hlt hi1
      obtain ⟨S, hS⟩ : ∃ S, sortS L = S := ⟨_, rfl⟩
      rw [hS] at O3 hSl HI
      clear hS
      have HOK := Lib.hid (p := (∀ j (hj : j + 1 < S.length), nmB S[j] ≠ nmB S[j + 1]) → sortE L = 0 ∧ S = sortT L) (fun h => by
        have hd : Dif L := Decidable.byContradiction fun hn => by
          obtain ⟨j, hj, e⟩ := HI.out.2 hn
          exact h j hj e
        exact ⟨sortE_ok Hfew.out HT.out hd, HI.out.1 hd⟩)
      have HBAD := Lib.hid (p := ∀ j (hj : j + 1 < S.length), nmB S[j] = nmB S[j + 1] → sortE L = 5) (fun j hj e => by
        refine sortE_dup Hfew.out HT.out fun hd => ?_
        exact (show ¬ AdjEq S from by rw [HI.out.1 hd]; exact asc_no_adj (HTA.out hd)) ⟨j, hj, e⟩)
      clear HI HTA
      have HO := Lib.hid O3
      have HG := Lib.hid G3
      clear O3 G3
      go_loopw [8] (fun s8 wk => ∃ i : Nat, 1 ≤ i ∧ s8 = .int .i64 i ∧ i ≤ S.length + 1 ∧ (∀ j (hj : j + 1 < S.length), j + 1 < i → nmB S[j] ≠ nmB S[j + 1]) ∧ w3.grownBy wk none) (fun s8 _ => S.length + 1 - (intOf s8).toNat)
      case atStart => exact ⟨1, by omega, rfl, by omega, by intro j hj h; omega, grownBy_refl _ _⟩
      case round =>
        obtain ⟨i, hi1, rfl, hi2, hall, hg⟩ := hrel
        have Hall := Lib.hid hall
        clear hall
        by_cases hil : i < S.length
        · obtain ⟨k, rfl⟩ : ∃ k, i = k + 1 := ⟨i - 1, by omega⟩
          obtain ⟨gx, ox, cx, hv, hgx, hcx⟩ := (RdL.same HO.out.rd hg).at_ tagF_len hil
          obtain ⟨gy, oy, cy, hv2, -, hcy⟩ := (RdL.same HO.out.rd hg).at_ tagF_len (show k < S.length by omega)
          obtain ⟨rfl, -, rfl⟩ : a2 = some ⟨gx, ox, none⟩ ∧ L.length = S.length ∧ c2 = cx := by simpa only [Value.slice.injEq] using hv
          obtain ⟨hg2, -, -⟩ : some ⟨gx, ox, none⟩ = some (⟨gy, oy, none⟩ : Addr) ∧ L.length = S.length ∧ c2 = cy := by simpa only [Value.slice.injEq] using hv2
          cases hg2
          clear hv hv2
          have c0 := hcx 0 _ rfl
          have d0 := hcy 0 _ rfl
          rw [Nat.add_zero] at c0 d0
          clear hcx hcy
          have hlt2 : ((k + 1 : Nat) : Int) < (L.length : Int) := by omega
          have hk1 : (k : Int) < (L.length : Int) := by omega
          have hs1 : IntKind.i64.wrap (((k + 1 : Nat) : Int) - 1) = (k : Int) := by rw [IntWalk.i64_in _ (by omega)]; omega
          have hs2 : ((k + 1 : Nat) : Int) - 1 = (k : Int) := by omega
          have HB := Lib.hid (HBAD.out k hil)
          have HN := Lib.hid (p := nmB S[k] ≠ nmB S[k + 1] → ∀ j (hj : j + 1 < S.length), j + 1 < k + 1 + 1 → nmB S[j] ≠ nmB S[j + 1]) (fun h j hj hjk => by
            by_cases e : j = k
            · subst e; exact h
            · exact Hall.out j hj (by omega))
          have hbe := beT_of S[k + 1].name S[k].name
          have HX := Lib.hid (show nmB S[k] = S[k].name.data.toList from rfl)
          have HY := Lib.hid (show nmB S[k + 1] = S[k + 1].name.data.toList from rfl)
          generalize nmB S[k] = nx at *
          generalize nmB S[k + 1] = ny at *
          generalize S[k] = x at *
          generalize S[k + 1] = y at *
          by_cases he : nx = ny
          · rw [decide_eq_true (show y.name.data.toList = x.name.data.toList by rw [← HX.out, ← HY.out]; exact he.symm)] at hbe
            have HF := Lib.hid (HB.out he)
            clear he HN HB HX HY
            go_wp2_with fail
            go_quiet (fail)
            go_wp2_with fail
            go_ret2
            exact sortP_no HF.out (by decide) (grownBy_trans HG.out (grownBy_drewN hg _))
          · rw [decide_eq_false (show ¬ y.name.data.toList = x.name.data.toList by rw [← HX.out, ← HY.out]; exact fun e => he e.symm)] at hbe
            have HN2 := Lib.hid (HN.out he)
            clear he HN HB HX HY
            go_wp2_with fail
            go_quiet (fail)
            go_wp2_with fail
            exact ⟨⟨k + 1 + 1, by omega, by go_num, by omega, HN2.out, grownBy_drewN hg _⟩, by simp [intOf]; omega⟩
        · have HF := Lib.hid (HOK.out (fun j hj => Hall.out j hj (by omega)))
          go_wp2_with fail
          go_ret2
          refine ⟨_, by rw [HF.out.1]; rfl, ?_, grownBy_trans HG.out hg⟩
          rw [if_pos HF.out.1, ← HF.out.2]
          exact HO.out.same hg
end Go.Proofs.Ytkdbapbmbhmaiaa

/- Numbers read from bytes: plain. -/
namespace Go.Proofs.Ytkdbapbmbhmaiaa
open Go.RowKit

/-- How many bytes ahead say that more follow; at most f. -/
def bigs : Nat → List UInt8 → Nat
  | 0, _ => 0
  | _, [] => 0
  | f + 1, b :: l => if 128 ≤ b.toNat then bigs f l + 1 else 0
theorem bigs_le : ∀ (f : Nat) (l : List UInt8), bigs f l ≤ f ∧ bigs f l ≤ l.length
  | 0, _ => by simp [bigs]
  | f + 1, [] => by simp [bigs]
  | f + 1, b :: l => by
    have := bigs_le f l
    simp only [bigs]
    split
    · simp; omega
    · simp
theorem bigs_lt : ∀ {f : Nat} {l : List UInt8} {i : Nat} (_ : i < bigs f l) (h : i < l.length), 128 ≤ l[i].toNat
  | 0, _, _, h, _ => by simp [bigs] at h
  | f + 1, [], _, h, _ => by simp [bigs] at h
  | f + 1, b :: l, 0, h, _ => by
    simp only [bigs] at h
    split at h
    · simpa
    · omega
  | f + 1, b :: l, i + 1, h, hl => by
    simp only [bigs] at h
    split at h
    · have := bigs_lt (f := f) (l := l) (i := i) (by omega) (by simpa using hl)
      simpa using this
    · omega
theorem bigs_at : ∀ {f : Nat} {l : List UInt8} (_ : bigs f l < f) (h : bigs f l < l.length), l[bigs f l].toNat < 128
  | 0, _, h, _ => by omega
  | f + 1, [], _, h => by simp at h
  | f + 1, b :: l, h, hl => by
    by_cases hb : 128 ≤ b.toNat
    · have e : bigs (f + 1) (b :: l) = bigs f l + 1 := by simp [bigs, hb]
      have := bigs_at (f := f) (l := l) (by omega) (by rw [e] at hl; simpa using hl)
      simpa [e] using this
    · have e : bigs (f + 1) (b :: l) = 0 := by simp [bigs, hb]
      simp only [e, List.getElem_cons_zero]; omega
/-- The number in groups of seven bits. -/
def valU : List UInt8 → Nat
  | [] => 0
  | b :: l => b.toNat % 128 + 128 * valU l
theorem valU_snoc (l : List UInt8) (b : UInt8) : valU (l ++ [b]) = valU l + b.toNat % 128 * 128 ^ l.length := by
  induction l with
  | nil => simp [valU]
  | cons a l ih =>
    simp only [List.cons_append, valU, ih, List.length_cons, Nat.pow_succ]
    rw [Nat.mul_add, Nat.add_assoc]
    congr 2
    rw [Nat.mul_comm (128 ^ l.length) 128, ← Nat.mul_assoc, ← Nat.mul_assoc, Nat.mul_comm 128]
theorem valU_lt (l : List UInt8) : valU l < 128 ^ l.length := by
  induction l with
  | nil => simp [valU]
  | cons b l ih =>
    simp only [valU, List.length_cons, Nat.pow_succ]
    have : b.toNat % 128 < 128 := Nat.mod_lt _ (by omega)
    omega
/-- The number at the beginning, how many bytes it has, the error. -/
def readF (l : List UInt8) : Nat × Nat × Int :=
  if bigs 10 l = 10 then (0, 0, 3)
  else match l[bigs 10 l]? with
    | none => (0, 0, 2)
    | some b => if (bigs 10 l = 9 ∧ 1 < b.toNat) ∨ (0 < bigs 10 l ∧ b.toNat = 0) then (0, 0, 3) else (valU (l.take (bigs 10 l + 1)), bigs 10 l + 1, 0)
theorem readF_ten {l : List UInt8} (h : bigs 10 l = 10) : readF l = (0, 0, 3) := by unfold readF; rw [if_pos h]
theorem readF_short {l : List UInt8} (h : bigs 10 l ≠ 10) (h2 : l.length = bigs 10 l) : readF l = (0, 0, 2) := by
  unfold readF; rw [if_neg h, List.getElem?_eq_none (by omega)]
theorem readF_bad {l : List UInt8} (h : bigs 10 l ≠ 10) (h2 : bigs 10 l < l.length) (h3 : (bigs 10 l = 9 ∧ 1 < l[bigs 10 l].toNat) ∨ (0 < bigs 10 l ∧ l[bigs 10 l].toNat = 0)) : readF l = (0, 0, 3) := by
  unfold readF; rw [if_neg h, List.getElem?_eq_getElem h2]; simp only; rw [if_pos h3]
theorem readF_ok {l : List UInt8} (h : bigs 10 l ≠ 10) (h2 : bigs 10 l < l.length) (h3 : ¬ ((bigs 10 l = 9 ∧ 1 < l[bigs 10 l].toNat) ∨ (0 < bigs 10 l ∧ l[bigs 10 l].toNat = 0))) : readF l = (valU (l.take (bigs 10 l + 1)), bigs 10 l + 1, 0) := by
  unfold readF; rw [if_neg h, List.getElem?_eq_getElem h2]; simp only; rw [if_neg h3]
theorem readF_used (l : List UInt8) : (readF l).2.1 ≤ l.length := by
  unfold readF
  split
  · simp
  · split
    · simp
    · rename_i b hb
      have := (List.getElem?_eq_some_iff.1 hb).1
      split <;> simp; omega
theorem readF_w (l : List UInt8) : (readF l).1 < 18446744073709551616 := by
  by_cases h : bigs 10 l = 10
  · rw [readF_ten h]; simp
  by_cases h2 : bigs 10 l < l.length
  · by_cases h3 : (bigs 10 l = 9 ∧ 1 < l[bigs 10 l].toNat) ∨ (0 < bigs 10 l ∧ l[bigs 10 l].toNat = 0)
    · rw [readF_bad h h2 h3]; simp
    · rw [readF_ok h h2 h3]
      show valU (l.take (bigs 10 l + 1)) < _
      rw [List.take_succ_eq_append_getElem h2, valU_snoc]
      have hb := bigs_le 10 l
      have hb9 : bigs 10 l = 9 → l[bigs 10 l].toNat ≤ 1 := fun h9 => Nat.le_of_not_lt fun hc => h3 (.inl ⟨h9, hc⟩)
      clear h3
      have hv := valU_lt (l.take (bigs 10 l))
      have hl : (l.take (bigs 10 l)).length = bigs 10 l := by rw [List.length_take]; omega
      rw [hl] at hv ⊢
      generalize l[bigs 10 l] = b at *
      generalize valU (l.take (bigs 10 l)) = V at *
      have hbl : b.toNat % 128 < 128 := Nat.mod_lt _ (by omega)
      generalize bigs 10 l = m at *
      by_cases h9 : m = 9
      · have hb1 := hb9 h9
        subst h9
        have e : (128 : Nat) ^ 9 = 9223372036854775808 := by decide
        rw [Nat.mod_eq_of_lt (show b.toNat < 128 by omega)]
        rw [e] at hv ⊢
        omega
      · have hp : 128 ^ m ≤ 128 ^ 8 := Nat.pow_le_pow_right (by omega) (by omega)
        have e : (128 : Nat) ^ 8 = 72057594037927936 := by decide
        have hq : b.toNat % 128 * 128 ^ m ≤ 127 * 128 ^ 8 := Nat.mul_le_mul (by omega) hp
        rw [e] at hp hq
        omega
  · rw [readF_short h (by have := bigs_le 10 l; omega)]; simp
end Go.Proofs.Ytkdbapbmbhmaiaa

/- Numbers read from bytes: the program and the reference. -/
namespace Go.Proofs.Ytkdbapbmbhmaiaa
open Go.RowKit Go.Sort

theorem by_low (b : UInt8) : bits .andNot .u8 (b.toNat : Int) 128 = ((b.toNat % 128 : Nat) : Int) := by
  have key : ∀ m : Fin 256, bits .andNot .u8 (((m.val : Nat) : Int)) 128 = ((m.val % 128 : Nat) : Int) := by decide +kernel
  exact key ⟨b.toNat, b.toNat_lt⟩

theorem or_step (n b i : Nat) (hn : n < 128 ^ i) (hi : i ≤ 9) (h9 : i = 9 → b % 128 ≤ 1) :
    bits .or .u64 (n : Int) (IntKind.u64.wrap ((b : Int) % 128 * 2 ^ (7 * i))) = ((n + b % 128 * 128 ^ i : Nat) : Int) := by
  have e : (2 : Nat) ^ (7 * i) = 128 ^ i := by rw [Nat.pow_mul]
  have hb : b % 128 < 128 := Nat.mod_lt _ (by omega)
  have hs : n + b % 128 * 128 ^ i < 18446744073709551616 := by
    by_cases h : i = 9
    · have := h9 h
      subst h
      have e : (128 : Nat) ^ 9 = 9223372036854775808 := by decide
      rw [e] at hn ⊢; omega
    · have hp : 128 ^ i ≤ 128 ^ 8 := Nat.pow_le_pow_right (by omega) (by omega)
      have e : (128 : Nat) ^ 8 = 72057594037927936 := by decide
      have hq : b % 128 * 128 ^ i ≤ 127 * 128 ^ 8 := Nat.mul_le_mul (by omega) hp
      rw [e] at hp hq
      omega
  have e2 : ((b : Int) % 128 * 2 ^ (7 * i)) = ((b % 128 * 128 ^ i : Nat) : Int) := by
    rw [← e]; simp
  rw [e2, IntWalk.u64_in _ (by omega), u64_or_nat _ _ (by omega) (by omega), Nat.or_comm]
  congr 1
  have := Nat.shiftLeft_add_eq_or_of_lt (show n < 2 ^ (7 * i) by rw [e]; exact hn) (b % 128)
  rw [Nat.shiftLeft_eq, e] at this
  rw [← this]; omega

end Go.Proofs.Ytkdbapbmbhmaiaa

/- Numbers read from bytes: the reference. -/
namespace Go.Proofs.Ytkdbapbmbhmaiaa
open Go.RowKit Go.Sort

theorem valU_drop (l : List UInt8) (k : Nat) : valU (l.drop k) ≤ valU l := by
  induction l generalizing k with
  | nil => simp
  | cons b l ih =>
    cases k with
    | zero => simp
    | succ k =>
      have := ih k
      simp only [List.drop_succ_cons, valU]; omega

end Go.Proofs.Ytkdbapbmbhmaiaa

/- Numbers that were written are read as they were; what is read was written so: plain. -/
namespace Go.Proofs.Ytkdbapbmbhmaiaa
open Go.RowKit

theorem bigs_split : ∀ (f : Nat) (p : List UInt8) (b : UInt8) (r : List UInt8), p.length < f → (∀ x ∈ p, 128 ≤ x.toNat) → b.toNat < 128 → bigs f (p ++ b :: r) = p.length
  | 0, _, _, _, h, _, _ => by omega
  | f + 1, [], b, r, _, _, hb => by simp [bigs]; omega
  | f + 1, x :: p, b, r, h, hp, hb => by
    have ih := bigs_split f p b r (by simpa using h) (fun y hy => hp y (by simp [hy])) hb
    have hx := hp x (by simp)
    simp [bigs, hx, ih]
theorem readF_split {p : List UInt8} {b : UInt8} (r : List UInt8) (h1 : ∀ x ∈ p, 128 ≤ x.toNat) (h2 : b.toNat < 128) (h3 : p.length ≤ 9) (h4 : p.length = 9 → b.toNat ≤ 1) (h5 : 0 < p.length → b.toNat ≠ 0) :
    readF (p ++ b :: r) = (valU (p ++ [b]), p.length + 1, 0) := by
  have hb := bigs_split 10 p b r (by omega) h1 h2
  have hl : bigs 10 (p ++ b :: r) < (p ++ b :: r).length := by rw [hb]; simp
  have hg : (p ++ b :: r)[bigs 10 (p ++ b :: r)] = b := by simp [hb]
  rw [readF_ok (by omega) hl (by rw [hg, hb]; omega), hb]
  have : (p ++ b :: r).take (p.length + 1) = p ++ [b] := by
    rw [List.take_append]; simp [List.take_of_length_le]
  rw [this]
theorem readF_parts {l : List UInt8} (h : (readF l).2.2 = 0) : ∃ p b r, l = p ++ b :: r ∧ (∀ x ∈ p, 128 ≤ x.toNat) ∧ b.toNat < 128 ∧ (0 < p.length → b.toNat ≠ 0) ∧ readF l = (valU (p ++ [b]), p.length + 1, 0) := by
  have hle := bigs_le 10 l
  by_cases h1 : bigs 10 l = 10
  · rw [readF_ten h1] at h; cases h
  by_cases h2 : bigs 10 l < l.length
  · by_cases h3 : (bigs 10 l = 9 ∧ 1 < l[bigs 10 l].toNat) ∨ (0 < bigs 10 l ∧ l[bigs 10 l].toNat = 0)
    · rw [readF_bad h1 h2 h3] at h; cases h
    · have hl : (l.take (bigs 10 l)).length = bigs 10 l := by rw [List.length_take]; omega
      refine ⟨l.take (bigs 10 l), l[bigs 10 l], l.drop (bigs 10 l + 1), ?_, ?_, bigs_at (by omega) h2, ?_, ?_⟩
      · rw [List.getElem_cons_drop, List.take_append_drop]
      · intro x hx
        obtain ⟨i, hi, rfl⟩ := List.mem_iff_getElem.1 hx
        rw [List.getElem_take]
        rw [hl] at hi
        exact bigs_lt hi _
      · rw [hl]; intro h0 h4; exact h3 (.inr ⟨h0, h4⟩)
      · rw [readF_ok h1 h2 h3, hl, List.take_succ_eq_append_getElem h2]
  · rw [readF_short h1 (by omega)] at h; cases h
theorem vb_pos (n : Nat) : 1 ≤ (vb n).length := by
  by_cases h : n < 128
  · rw [vb_small h]; simp
  · rw [vb_big h]; simp
theorem vb_parts (n : Nat) : ∃ p b, vb n = p ++ [b] ∧ (∀ x ∈ p, 128 ≤ x.toNat) ∧ b.toNat < 128 ∧ (0 < n → b.toNat ≠ 0) ∧ (0 < p.length → 0 < n) ∧ valU (p ++ [b]) = n := by
  induction n using Nat.strongRecOn with
  | _ n ih =>
    by_cases h : n < 128
    · have hn : (UInt8.ofNat n).toNat = n := by rw [UInt8.toNat_ofNat']; omega
      refine ⟨[], UInt8.ofNat n, by rw [vb_small h]; rfl, by simp, by omega, by omega, by simp, ?_⟩
      simp only [List.nil_append, valU]; omega
    · obtain ⟨p, b, e, h1, h2, h3, h4, h5⟩ := ih (n / 128) (by omega)
      have hn : (UInt8.ofNat (n % 128 + 128)).toNat = n % 128 + 128 := by rw [UInt8.toNat_ofNat']; omega
      refine ⟨UInt8.ofNat (n % 128 + 128) :: p, b, by rw [vb_big h, e]; rfl, ?_, h2, fun _ => h3 (by omega), fun _ => by omega, ?_⟩
      · intro x hx
        rcases List.mem_cons.1 hx with rfl | hx
        · omega
        · exact h1 x hx
      · simp only [List.cons_append, valU, h5, hn]; omega
theorem vb_valU : ∀ (p : List UInt8) (b : UInt8), (∀ x ∈ p, 128 ≤ x.toNat) → b.toNat < 128 → (0 < p.length → b.toNat ≠ 0) → vb (valU (p ++ [b])) = p ++ [b]
  | [], b, _, h2, _ => by
    have e : valU ([] ++ [b]) = b.toNat := by simp only [List.nil_append, valU]; omega
    rw [e, vb_small h2]
    simp
  | x :: p, b, h1, h2, h3 => by
    have hb := h3 (by simp)
    have ih := vb_valU p b (fun y hy => h1 y (by simp [hy])) h2 fun _ => hb
    have hx := h1 x (by simp)
    have hxl := x.toNat_lt
    have hpos : 0 < valU (p ++ [b]) := by
      rw [valU_snoc]
      have : 0 < b.toNat % 128 * 128 ^ p.length := Nat.mul_pos (by omega) (Nat.pow_pos (by omega))
      omega
    simp only [List.cons_append, valU]
    have e1 : (x.toNat % 128 + 128 * valU (p ++ [b])) / 128 = valU (p ++ [b]) := by omega
    have e2 : (x.toNat % 128 + 128 * valU (p ++ [b])) % 128 + 128 = x.toNat := by omega
    rw [vb_big (by omega), e1, e2, ih]
    simp
theorem readF_vb {n : Nat} (h : n < 18446744073709551616) (r : List UInt8) : readF (vb n ++ r) = (n, (vb n).length, 0) := by
  obtain ⟨p, b, e, h1, h2, h3, h4, h5⟩ := vb_parts n
  have ht := vb_ten h
  rw [e] at ht ⊢
  rw [List.length_append, List.length_singleton] at ht ⊢
  rw [List.append_assoc, List.singleton_append, readF_split r h1 h2 (by omega) ?_ fun hp => h3 (h4 hp), h5]
  intro h9
  rw [← h5, valU_snoc, h9] at h
  have e : (128 : Nat) ^ 9 = 9223372036854775808 := by decide
  rw [e] at h
  omega
theorem readF_back {l : List UInt8} (h : (readF l).2.2 = 0) : l = vb (readF l).1 ++ l.drop (readF l).2.1 := by
  obtain ⟨p, b, r, e, h1, h2, h3, h4⟩ := readF_parts h
  rw [h4]
  simp only
  rw [vb_valU p b h1 h2 h3, e, show p ++ b :: r = (p ++ [b]) ++ r by simp, List.drop_left' (by simp)]

/-- A number that is at most most: what it is, what is left, the first error. -/
def numF (most : Nat) (over : Int) (l : List UInt8) (e : Int) : Nat × List UInt8 × Int :=
  if e ≠ 0 then (0, l, e)
  else if (readF l).2.2 ≠ 0 then (0, l, (readF l).2.2)
  else if most < (readF l).1 then (0, l.drop (readF l).2.1, over)
  else ((readF l).1, l.drop (readF l).2.1, 0)
/-- A number of any size. -/
abbrev weiF (l : List UInt8) (e : Int) : Nat × List UInt8 × Int := numF 18446744073709551615 1 l e
theorem readF_err (l : List UInt8) (h : (readF l).2.2 ≠ 0) : (readF l).1 = 0 ∧ (readF l).2.1 = 0 ∧ ((readF l).2.2 = 2 ∨ (readF l).2.2 = 3) := by
  by_cases h1 : bigs 10 l = 10
  · rw [readF_ten h1]; simp
  by_cases h2 : bigs 10 l < l.length
  · by_cases h3 : (bigs 10 l = 9 ∧ 1 < l[bigs 10 l].toNat) ∨ (0 < bigs 10 l ∧ l[bigs 10 l].toNat = 0)
    · rw [readF_bad h1 h2 h3]; simp
    · rw [readF_ok h1 h2 h3] at h; simp at h
  · rw [readF_short h1 (by have := bigs_le 10 l; omega)]; simp
theorem numF_e {most : Nat} {over : Int} {l : List UInt8} {e : Int} (h : e ≠ 0) : numF most over l e = (0, l, e) := if_pos h
theorem numF_w {most : Nat} {over : Int} {l : List UInt8} {e : Int} : (numF most over l e).1 < 18446744073709551616 ∧ (numF most over l e).1 ≤ most := by
  have := readF_w l
  unfold numF
  split
  · simp
  · split
    · simp
    · split
      · simp
      · simp; omega
theorem numF_vb {most n : Nat} {over : Int} (h : n ≤ most) (hn : n < 18446744073709551616) (r : List UInt8) : numF most over (vb n ++ r) 0 = (n, r, 0) := by
  unfold numF
  rw [readF_vb hn]
  simp only [List.drop_left]
  rw [if_neg (by simp), if_neg (by simp), if_neg (by omega)]
theorem numF_back {most : Nat} {over : Int} (ho : over ≠ 0) {l : List UInt8} {e : Int} (h : (numF most over l e).2.2 = 0) : e = 0 ∧ l = vb (numF most over l e).1 ++ (numF most over l e).2.1 := by
  unfold numF at h ⊢
  by_cases h1 : e ≠ 0
  · rw [if_pos h1] at h; exact absurd h h1
  rw [if_neg h1] at h ⊢
  refine ⟨by omega, ?_⟩
  by_cases h2 : (readF l).2.2 ≠ 0
  · rw [if_pos h2] at h; exact absurd h h2
  rw [if_neg h2] at h ⊢
  by_cases h3 : most < (readF l).1
  · rw [if_pos h3] at h; exact absurd h ho
  rw [if_neg h3]
  exact readF_back (by omega)
theorem numF_len {most : Nat} {over : Int} {l : List UInt8} {e : Int} : (numF most over l e).2.1.length ≤ l.length := by
  unfold numF
  split
  · exact Nat.le_refl _
  · split
    · exact Nat.le_refl _
    · split <;> simp
end Go.Proofs.Ytkdbapbmbhmaiaa

/- Readers of bytes: the program's and the reference's; numbers. -/
namespace Go.Proofs.Ytkdbapbmbhmaiaa
open Go.RowKit Go.Sort

/-- A reader at g, with what is left and the first error; the bytes lie below B. -/
structure Rdr (B : Nat) (w : World) (g : Nat) (l : List UInt8) (e : Int) : Prop where
  ex : ∃ a c, Blk w g #[.slice a l.length c, .int .i64 e] ∧ RdL byF 1 w (.slice a l.length c) l ∧ l.length ≤ c ∧ ∀ ad, a = some ad → 0 < l.length → ad.block < B
  hg : B ≤ g
theorem rd_kept {α : Type} {f : α → List Value} {s : Nat} {w w' : World} {a : Option Addr} {n c : Nat} {l : List α} {r : Option Nat} {B : Nat} (h : RdL f s w (.slice a n c) l) (hg : w.grownBy w' r) (ha : ∀ ad, a = some ad → 0 < l.length → ad.block < B) (hr : ∀ k, r = some k → B ≤ k) : RdL f s w' (.slice a n c) l := by
  cases r with
  | none => exact h.same hg
  | some k => exact Rd.kept0 h hg fun h0 q e a' n' c' hv => by cases e; cases hv; have := ha _ rfl h0; have := hr k rfl; omega
theorem Rdr.kept {B : Nat} {w w' : World} {g : Nat} {l : List UInt8} {e : Int} {r : Option Nat} (h : Rdr B w g l e) (hg : w.grownBy w' r) (hr : r ≠ some g) (hB : ∀ k, r = some k → B ≤ k) : Rdr B w' g l e := by
  obtain ⟨a, c, h1, h2, h3, h4⟩ := h.ex
  exact ⟨⟨a, c, h1.kept hg hr, rd_kept h2 hg h4 hB, h3, h4⟩, h.hg⟩
theorem Rdr.same {B : Nat} {w w' : World} {g : Nat} {l : List UInt8} {e : Int} (h : Rdr B w g l e) (hg : w.grownBy w' none) : Rdr B w' g l e := h.kept hg (by simp) (by simp)
theorem add_block (ad : Addr) (k : Nat) : (ad.add k).block = ad.block := by unfold Addr.add; split <;> rfl
theorem Rdr.setE {B : Nat} {w : World} {g : Nat} {l : List UInt8} {e : Int} (h : Rdr B w g l e) (f : Int) : Rdr B (w.setCell ⟨g, 1, none⟩ (.int .i64 f)) g l f ∧ w.grownBy (w.setCell ⟨g, 1, none⟩ (.int .i64 f)) (some g) := by
  obtain ⟨a, c, h1, h2, h3, h4⟩ := h.ex
  have hg : w.grownBy (w.setCell ⟨g, 1, none⟩ (.int .i64 f)) (some g) := grownBy_set (grownBy_refl w (some g)) 1 (.int .i64 f)
  exact ⟨⟨⟨a, c, h1.set_ 1 _ rfl, rd_kept h2 hg h4 (fun k e => by cases e; exact h.hg), h3, h4⟩, h.hg⟩, hg⟩
theorem Rdr.setB {B : Nat} {w : World} {g : Nat} {l : List UInt8} {e : Int} {a : Option Addr} {c : Nat} (h1 : Blk w g #[.slice a l.length c, .int .i64 e]) (h2 : RdL byF 1 w (.slice a l.length c) l) (h3 : l.length ≤ c) (h4 : ∀ ad, a = some ad → 0 < l.length → ad.block < B) (hB : B ≤ g) {k : Nat} (hk : k ≤ l.length) :
    Rdr B (w.setCell ⟨g, 0, none⟩ (.slice (if c = k then a else a.map (·.add k)) (l.length - k) (c - k))) g (l.drop k) e ∧ w.grownBy (w.setCell ⟨g, 0, none⟩ (.slice (if c = k then a else a.map (·.add k)) (l.length - k) (c - k))) (some g) := by
  have h5 := RdL.drop byF_len h2 hk h3 (c - k)
  rw [Nat.mul_one] at h5
  have hg : w.grownBy (w.setCell ⟨g, 0, none⟩ (.slice (if c = k then a else a.map (·.add k)) (l.length - k) (c - k))) (some g) := grownBy_set (grownBy_refl w (some g)) 0 _
  have h6 : ∀ ad, (if c = k then a else a.map (·.add k)) = some ad → 0 < (l.drop k).length → ad.block < B := by
    intro ad e h0
    have h0' : 0 < l.length := by rw [List.length_drop] at h0; omega
    split at e
    · exact h4 ad e h0'
    · obtain ⟨x, hx, rfl⟩ := Option.map_eq_some_iff.1 e
      rw [add_block]; exact h4 x hx h0'
  generalize (if c = k then a else a.map (·.add k)) = a' at *
  have hl : (l.drop k).length = l.length - k := List.length_drop
  refine ⟨⟨⟨a', c - k, ?_, ?_, by omega, h6⟩, hB⟩, hg⟩
  · rw [hl]; exact h1.set_ 0 _ rfl
  · rw [hl]; exact rd_kept h5 hg h6 fun k e => by cases e; exact hB
/-- Bytes as a text. -/
theorem conv_by {l : List UInt8} {a : Option Addr} {n c : Nat} {w : World} (h : RdL byF 1 w (.slice a n c) l) : (convert 75 9 (.slice a n c)).run Try.prog w = .ok (.string ⟨l.toArray⟩) w := by
  obtain ⟨a', c', hv⟩ := Rd.shape h
  cases hv
  rcases h.2.2 with ⟨h0, _⟩ | ⟨g, off, cap, hv, _, hc⟩
  · obtain rfl : l = [] := List.eq_nil_of_length_eq_zero h0
    cases a with
    | none => exact run_convert_bytes_nil w 75 5 Try.underlying75 Try.underlying5 0 c _ Try.underlying9
    | some ad =>
      rw [run_convert_bytes_string w 75 9 5 _ _ c Try.underlying75 Try.underlying5 Try.underlying9]
      rw [show ([] : List UInt8).length = 0 from rfl, run_bytesToString w ad 0 c []]
      · rfl
      · exact run_loadCells_list w ad [] (fun j v hv => by simp at hv)
  · cases hv
    have hcl : ∀ i, i < l.length → w.cell? ⟨g, off + i, none⟩ = some (.int .u8 ((l.map fun b => (b.toNat : Int)).getD i 0)) := by
      intro i hi
      have e : ∀ (l : List UInt8) (i : Nat), i < l.length → (cellsOf byF l)[i]? = some (.int .u8 ((l.map fun b => (b.toNat : Int)).getD i 0)) := by
        intro l
        induction l with
        | nil => intro i hi; simp at hi
        | cons b l ih =>
          intro i hi
          cases i with
          | zero => simp [cellsOf, byF]
          | succ i =>
            have := ih i (by simpa using hi)
            simpa [cellsOf, byF] using this
      exact hc i _ (e l i hi)
    rw [run_convert_bytes_arg w 75 5 Try.underlying75 Try.underlying5 g off l.length c (l.map fun b => (b.toNat : Int)) (by simp) hcl _ Try.underlying9]
    congr 2
    unfold strOfNums
    congr 2
    rw [List.map_map]
    conv => rhs; rw [← List.map_id l]
    apply List.map_congr_left
    intro b _
    simp
def NumP (B g : Nat) (w : World) (F : Nat × List UInt8 × Int) (en : Ending) (w' : World) : Prop :=
  en = .returned (.int .u64 F.1) ∧ Rdr B w' g F.2.1 F.2.2 ∧ w.grownBy w' (some g)

/-- A reader in a block that has just been made. -/
theorem Rdr.new {w : World} {g : Nat} {l : List UInt8} {a : Option Addr} {c : Nat} {w' : World} (hr : RdL byF 1 w (.slice a l.length c) l) (hc : l.length ≤ c) (hb : Blk w' g #[.slice a l.length c, .int .i64 0]) (hg : w.grownBy w' none) (hB : w.heap.size ≤ g) : Rdr w.heap.size w' g l 0 :=
  ⟨⟨a, c, hb, hr.same hg, hc, fun ad e h0 => by subst e; exact Rd.blockLt hr h0 _ _ _ rfl⟩, hB⟩
end Go.Proofs.Ytkdbapbmbhmaiaa
