/- Several texts in one file; each begins with a comment that says what is proved in it. -/
import Derived.Test.YtkdbapbmbhmaiaaBunAH
import Derived.Test.YtkdbapbmbhmaiaaBunAD
import Derived.Test.YtkdbapbmbhmaiaaBunAE
import Derived.Test.YtkdbapbmbhmaiaaBunAJ

/- The operations of a script: how they lie; their bytes, and the operations of bytes: plain. -/
namespace Go.Proofs.Ytkdbapbmbhmaiaa
open Go.RowKit

/-- An operation: its numbers, its slices as they stand, and what these read as. -/
structure OpR where
  (kind : Int) (vd : Value) (time shard : Int) (key : ByteArray) (vp : Value) (data : List UInt8) (picks : List Int)
def opF (o : OpR) : List Value := [.int .i64 o.kind, o.vd, .int .i64 o.time, .int .i64 o.shard, .string o.key, o.vp]
theorem opF_len (o : OpR) : (opF o).length = 6 := rfl
abbrev opA (kind : Int) (vd : Value) (time shard : Int) (key : ByteArray) (vp : Value) : Array Value := #[.int .i64 kind, vd, .int .i64 time, .int .i64 shard, .string key, vp]
abbrev opV (kind : Int) (vd : Value) (time shard : Int) (key : ByteArray) (vp : Value) : Value := .agg (opA kind vd time shard key vp)
structure OpRd (w : World) (o : OpR) : Prop where
  data : RdL byF 1 w o.vd o.data
  picks : RdL intF 1 w o.vp o.picks
  dcap : ∀ a n c, o.vd = .slice a n c → n ≤ c
  pcap : ∀ a n c, o.vp = .slice a n c → n ≤ c
theorem OpRd.same {w w' : World} {o : OpR} (h : OpRd w o) (hg : w.grownBy w' none) : OpRd w' o := ⟨h.data.same hg, h.picks.same hg, h.dcap, h.pcap⟩
def J64 (n : Int) : Prop := -9223372036854775808 ≤ n ∧ n ≤ 9223372036854775807
structure OpW (o : OpR) : Prop where
  kind : J64 o.kind
  time : J64 o.time
  shard : J64 o.shard
  key : o.key.size ≤ 9223372036854775807
  picks : ∀ p ∈ o.picks, J64 p
structure OpsRd (w : World) (v : Value) (l : List OpR) : Prop where
  rd : RdL opF 6 w v l
  all : ∀ o ∈ l, OpRd w o
theorem OpsRd.same {w w' : World} {v : Value} {l : List OpR} (h : OpsRd w v l) (hg : w.grownBy w' none) : OpsRd w' v l := ⟨h.rd.same hg, fun o ho => (h.all o ho).same hg⟩

def inR (n : Int) : Bool := decide (0 ≤ n) && decide (n ≤ 1099511627776)
theorem inR_iff {n : Int} : inR n = true ↔ 0 ≤ n ∧ n ≤ 1099511627776 := by simp [inR]
/-- The fields that do not belong to the kind are empty; the kind is known. -/
def restB (o : OpR) : Bool :=
  if o.kind = 1 then decide (o.time = 0) && decide (o.shard = 0) && decide (o.key.size = 0) && decide (o.picks.length = 0)
  else if o.kind = 2 then decide (o.data.length = 0) && decide (o.shard = 0) && decide (o.key.size = 0)
  else if o.kind = 3 then decide (o.data.length = 0) && decide (o.time = 0) && decide (o.key.size = 0) && decide (o.picks.length = 0)
  else if o.kind = 4 then decide (o.data.length = 0) && decide (o.time = 0) && decide (o.shard = 0) && decide (o.key.size = 0) && decide (o.picks.length = 0)
  else if o.kind = 5 then decide (o.data.length = 0) && decide (o.shard = 0) && decide (o.picks.length = 0)
  else false
def longB (o : OpR) : Bool := decide (4096 < o.data.length) || decide (255 < o.key.size) || decide (8 < o.picks.length)
def rangeB (o : OpR) : Bool := inR o.time && inR o.shard && o.picks.all inR
/-- The first error of an operation. -/
def opE (o : OpR) : Int := if restB o = false then 3 else if longB o = true then 4 else if rangeB o = false then 1 else 0
theorem opE_iff {o : OpR} : opE o = 0 ↔ restB o = true ∧ longB o = false ∧ rangeB o = true := by
  unfold opE
  cases restB o <;> cases longB o <;> cases rangeB o <;> simp
/-- The bytes behind the kind. -/
def opT (o : OpR) : List UInt8 :=
  if o.kind = 1 then vb o.data.length ++ o.data
  else if o.kind = 2 then vb o.time.toNat ++ vb o.picks.length ++ vbs (o.picks.map Int.toNat)
  else if o.kind = 3 then vb o.shard.toNat
  else if o.kind = 5 then vb o.key.size ++ o.key.data.toList ++ vb o.time.toNat
  else []
theorem opT1 {o : OpR} (h : o.kind = 1) : opT o = vb o.data.length ++ o.data := if_pos h
theorem opT2 {o : OpR} (h : o.kind = 2) : opT o = vb o.time.toNat ++ vb o.picks.length ++ vbs (o.picks.map Int.toNat) := by unfold opT; rw [if_neg (by omega), if_pos h]
theorem opT3 {o : OpR} (h : o.kind = 3) : opT o = vb o.shard.toNat := by unfold opT; rw [if_neg (by omega), if_neg (by omega), if_pos h]
theorem opT4 {o : OpR} (h : o.kind = 4) : opT o = [] := by unfold opT; rw [if_neg (by omega), if_neg (by omega), if_neg (by omega), if_neg (by omega)]
theorem opT5 {o : OpR} (h : o.kind = 5) : opT o = vb o.key.size ++ o.key.data.toList ++ vb o.time.toNat := by unfold opT; rw [if_neg (by omega), if_neg (by omega), if_neg (by omega), if_pos h]
def opB (o : OpR) : List UInt8 := vb o.kind.toNat ++ opT o
def opsB (l : List OpR) : List UInt8 := l.flatMap opB
theorem opsB_snoc (l : List OpR) (o : OpR) : opsB (l ++ [o]) = opsB l ++ opB o := by simp [opsB]
theorem opsB_cons (l : List OpR) (o : OpR) : opsB (o :: l) = opB o ++ opsB l := by simp [opsB]
/-- The first error of a list. -/
def opsE : List OpR → Int
  | [] => 0
  | o :: l => if opE o ≠ 0 then opE o else opsE l
theorem opsE_at {l : List OpR} {j : Nat} (hj : j < l.length) (h : ∀ i (hi : i < l.length), i < j → opE l[i] = 0) (h2 : opE l[j] ≠ 0) : opsE l = opE l[j] := by
  induction l generalizing j with
  | nil => simp at hj
  | cons a l ih =>
    cases j with
    | zero => simp only [List.getElem_cons_zero] at h2 ⊢; unfold opsE; rw [if_pos h2]
    | succ j =>
      have h0 := h 0 (by simp) (by omega)
      simp only [List.getElem_cons_zero] at h0
      simp only [List.getElem_cons_succ] at h2 ⊢
      unfold opsE
      rw [if_neg (by omega)]
      exact ih (by simpa using hj) (fun i hi hij => by have := h (i + 1) (by simpa using hi) (by omega); simpa using this) h2
theorem opsE_no {l : List OpR} (h : ∀ o ∈ l, opE o = 0) : opsE l = 0 := by
  induction l with
  | nil => rfl
  | cons a l ih =>
    unfold opsE
    rw [if_neg (by rw [h a (by simp)]; simp)]
    exact ih fun o ho => h o (List.mem_cons_of_mem _ ho)
theorem opsE_all {l : List OpR} (h : opsE l = 0) : ∀ o ∈ l, opE o = 0 := by
  induction l with
  | nil => simp
  | cons a l ih =>
    unfold opsE at h
    by_cases h0 : opE a ≠ 0
    · rw [if_pos h0] at h; exact absurd h h0
    · rw [if_neg h0] at h
      intro o ho
      rcases List.mem_cons.1 ho with rfl | ho
      · omega
      · exact ih h o ho
/-- The error of the encoder, and the bytes. -/
def encE (l : List OpR) : Int := if 4096 < l.length then 4 else opsE l
def encO (l : List OpR) : List UInt8 := if encE l = 0 then vb l.length ++ opsB l else []

theorem opB_len {o : OpR} (h : opE o = 0) : (opB o).length ≤ 4200 := by
  obtain ⟨h1, h2, h3⟩ := opE_iff.1 h
  unfold longB at h2
  simp at h2
  unfold rangeB at h3
  simp [inR] at h3
  obtain ⟨⟨⟨t1, t2⟩, s1, s2⟩, hp⟩ := h3
  have e1 : (vb o.kind.toNat).length ≤ 10 := vb_ten (by
    unfold restB at h1
    by_cases k1 : o.kind = 1
    · rw [k1]; decide
    by_cases k2 : o.kind = 2
    · rw [k2]; decide
    by_cases k3 : o.kind = 3
    · rw [k3]; decide
    by_cases k4 : o.kind = 4
    · rw [k4]; decide
    by_cases k5 : o.kind = 5
    · rw [k5]; decide
    · simp [k1, k2, k3, k4, k5] at h1)
  have e2 := vb_ten (show o.data.length < 18446744073709551616 by omega)
  have e3 := vb_ten (show o.time.toNat < 18446744073709551616 by omega)
  have e4 := vb_ten (show o.picks.length < 18446744073709551616 by omega)
  have e5 := vb_ten (show o.shard.toNat < 18446744073709551616 by omega)
  have e6 := vb_ten (show o.key.size < 18446744073709551616 by omega)
  have e7 : (vbs (o.picks.map Int.toNat)).length ≤ 10 * (o.picks.map Int.toNat).length := vbs_len (by
    intro n hn
    obtain ⟨x, hx, rfl⟩ := List.mem_map.1 hn
    have := hp x hx
    omega)
  have e8 : o.key.data.toList.length = o.key.size := Array.length_toList
  rw [List.length_map] at e7
  unfold opB opT
  rw [List.length_append]
  split
  · rw [List.length_append]; omega
  · split
    · rw [List.length_append, List.length_append]; omega
    · split
      · omega
      · split
        · rw [List.length_append, List.length_append]; omega
        · simp; omega
theorem opsB_len {l : List OpR} (h : ∀ o ∈ l, opE o = 0) : (opsB l).length ≤ 4200 * l.length := by
  induction l with
  | nil => simp [opsB]
  | cons a l ih =>
    have h1 := ih fun o ho => h o (List.mem_cons_of_mem _ ho)
    have h2 := opB_len (h a (by simp))
    rw [opsB_cons, List.length_append, List.length_cons]
    omega
theorem encO_len (l : List OpR) : (encO l).length ≤ 17300000 := by
  unfold encO
  split
  case isFalse => simp
  case isTrue h0 =>
    unfold encE at h0
    by_cases h : 4096 < l.length
    · rw [if_pos h] at h0; cases h0
    · rw [if_neg h] at h0
      have h1 := opsB_len (opsE_all h0)
      have h2 := vb_ten (show l.length < 18446744073709551616 by omega)
      rw [List.length_append]
      omega
theorem encO_pos {l : List OpR} (h : encE l = 0) : 0 < (encO l).length := by
  unfold encO
  rw [if_pos h, List.length_append]
  have := vb_pos l.length
  omega

/-- A text with its length. -/
def textD (most : Nat) (l : List UInt8) (e : Int) : List UInt8 × List UInt8 × Int :=
  if (numF most 4 l e).2.2 ≠ 0 then ([], (numF most 4 l e).2.1, (numF most 4 l e).2.2)
  else if (numF most 4 l e).2.1.length < (numF most 4 l e).1 then ([], (numF most 4 l e).2.1, 2)
  else ((numF most 4 l e).2.1.take (numF most 4 l e).1, (numF most 4 l e).2.1.drop (numF most 4 l e).1, 0)
abbrev timeF (l : List UInt8) (e : Int) := numF 1099511627776 1 l e
def picksD : Nat → List UInt8 → Int → List Int × List UInt8 × Int
  | 0, l, e => ([], l, e)
  | n + 1, l, e => ((picksD n l e).1 ++ [((timeF (picksD n l e).2.1 (picksD n l e).2.2).1 : Int)], (timeF (picksD n l e).2.1 (picksD n l e).2.2).2)
/-- What is read of an operation (its slices aside), what is left, the first error. -/
def opZ (k : Int) : OpR := ⟨k, .slice none 0 0, 0, 0, ⟨#[]⟩, .slice none 0 0, [], []⟩
def opK (k : Nat) (l : List UInt8) : OpR × List UInt8 × Int :=
  if k = 1 then ({ opZ k with data := (textD 4096 l 0).1 }, (textD 4096 l 0).2)
  else if k = 2 then
    let a := timeF l 0
    let b := numF 8 4 a.2.1 a.2.2
    let c := picksD b.1 b.2.1 b.2.2
    ({ opZ k with time := a.1, picks := c.1 }, c.2)
  else if k = 3 then ({ opZ k with shard := (timeF l 0).1 }, (timeF l 0).2)
  else if k = 4 then (opZ k, l, 0)
  else if k = 5 then
    let a := textD 255 l 0
    let b := timeF a.2.1 a.2.2
    ({ opZ k with key := ⟨a.1.toArray⟩, time := b.1 }, b.2)
  else (opZ k, l, 3)
theorem opK1 (l : List UInt8) : opK 1 l = ({ opZ 1 with data := (textD 4096 l 0).1 }, (textD 4096 l 0).2) := rfl
theorem opK2 (l : List UInt8) : opK 2 l = ({ opZ 2 with time := (timeF l 0).1, picks := (picksD (numF 8 4 (timeF l 0).2.1 (timeF l 0).2.2).1 (numF 8 4 (timeF l 0).2.1 (timeF l 0).2.2).2.1 (numF 8 4 (timeF l 0).2.1 (timeF l 0).2.2).2.2).1 }, (picksD (numF 8 4 (timeF l 0).2.1 (timeF l 0).2.2).1 (numF 8 4 (timeF l 0).2.1 (timeF l 0).2.2).2.1 (numF 8 4 (timeF l 0).2.1 (timeF l 0).2.2).2.2).2) := rfl
theorem opK3 (l : List UInt8) : opK 3 l = ({ opZ 3 with shard := (timeF l 0).1 }, (timeF l 0).2) := rfl
theorem opK4 (l : List UInt8) : opK 4 l = (opZ 4, l, 0) := rfl
theorem opK5 (l : List UInt8) : opK 5 l = ({ opZ 5 with key := ⟨(textD 255 l 0).1.toArray⟩, time := (timeF (textD 255 l 0).2.1 (textD 255 l 0).2.2).1 }, (timeF (textD 255 l 0).2.1 (textD 255 l 0).2.2).2) := rfl
theorem opK6 {k : Nat} (l : List UInt8) (h1 : k ≠ 1) (h2 : k ≠ 2) (h3 : k ≠ 3) (h4 : k ≠ 4) (h5 : k ≠ 5) : opK k l = (opZ k, l, 3) := by
  unfold opK; rw [if_neg h1, if_neg h2, if_neg h3, if_neg h4, if_neg h5]
def opD (l : List UInt8) (e : Int) : OpR × List UInt8 × Int :=
  if (numF 5 3 l e).2.2 ≠ 0 then (opZ 0, (numF 5 3 l e).2) else opK (numF 5 3 l e).1 (numF 5 3 l e).2.1
def opsD : Nat → List UInt8 → Int → List OpR × List UInt8 × Int
  | 0, l, e => ([], l, e)
  | n + 1, l, e => ((opsD n l e).1 ++ [(opD (opsD n l e).2.1 (opsD n l e).2.2).1], (opD (opsD n l e).2.1 (opsD n l e).2.2).2)
def decOp (l : List UInt8) : List OpR × List UInt8 × Int := opsD (numF 4096 4 l 0).1 (numF 4096 4 l 0).2.1 (numF 4096 4 l 0).2.2
def decOE (l : List UInt8) : Int := if (decOp l).2.2 ≠ 0 then (decOp l).2.2 else if (decOp l).2.1 ≠ [] then 3 else 0
def decO (l : List UInt8) : List OpR := if decOE l = 0 then (decOp l).1 else []

/-- Two operations with the same content. -/
def opSame (a b : OpR) : Prop := a.kind = b.kind ∧ a.data = b.data ∧ a.time = b.time ∧ a.shard = b.shard ∧ a.key = b.key ∧ a.picks = b.picks
structure OpC where
  (kind : Int) (data : List UInt8) (time shard : Int) (key : ByteArray) (picks : List Int)
def opC (o : OpR) : OpC := ⟨o.kind, o.data, o.time, o.shard, o.key, o.picks⟩
theorem opC_E {a b : OpR} (h : opC a = opC b) : opE a = opE b ∧ opB a = opB b := by
  obtain ⟨k, v, t, s, y, p, d, q⟩ := a
  obtain ⟨k', v', t', s', y', p', d', q'⟩ := b
  simp only [opC, OpC.mk.injEq] at h
  obtain ⟨rfl, rfl, rfl, rfl, rfl, rfl⟩ := h
  exact ⟨rfl, rfl⟩
theorem opsC_E : ∀ {l m : List OpR}, l.map opC = m.map opC → opsE l = opsE m ∧ opsB l = opsB m
  | [], [], _ => ⟨rfl, rfl⟩
  | [], _ :: _, h => by simp at h
  | _ :: _, [], h => by simp at h
  | a :: l, b :: m, h => by
    simp only [List.map_cons, List.cons.injEq] at h
    obtain ⟨h1, h2⟩ := opC_E h.1
    obtain ⟨h3, h4⟩ := opsC_E h.2
    refine ⟨?_, by rw [opsB_cons, opsB_cons, h2, h4]⟩
    unfold opsE
    rw [h1, h3]
theorem encC {l m : List OpR} (h : l.map opC = m.map opC) : encE l = encE m ∧ encO l = encO m := by
  have hl : l.length = m.length := by simpa using congrArg List.length h
  obtain ⟨h1, h2⟩ := opsC_E h
  have e : encE l = encE m := by unfold encE; rw [hl, h1]
  exact ⟨e, by unfold encO; rw [e, hl, h2]⟩

theorem textD_e {most : Nat} {l : List UInt8} {e : Int} (h : e ≠ 0) : textD most l e = ([], l, e) := by unfold textD; rw [numF_e h]; exact if_pos h
theorem textD_back {most : Nat} {l : List UInt8} {e : Int} (h : (textD most l e).2.2 = 0) : e = 0 ∧ l = vb (textD most l e).1.length ++ (textD most l e).1 ++ (textD most l e).2.1 ∧ (textD most l e).1.length ≤ most := by
  have hw := numF_w (most := most) (over := 4) (l := l) (e := e)
  have hb := numF_back (most := most) (over := 4) (l := l) (e := e) (by decide)
  unfold textD at h ⊢
  generalize numF most 4 l e = N at *
  by_cases h1 : N.2.2 ≠ 0
  · rw [if_pos h1] at h; exact absurd h h1
  rw [if_neg h1] at h ⊢
  obtain ⟨h2, h3⟩ := hb (by omega)
  refine ⟨h2, ?_⟩
  by_cases h4 : N.2.1.length < N.1
  · rw [if_pos h4] at h; cases h
  rw [if_neg h4]
  have e1 : (N.2.1.take N.1).length = N.1 := by rw [List.length_take]; omega
  simp only
  rw [e1, List.append_assoc, List.take_append_drop]
  exact ⟨h3, hw.2⟩
theorem textD_vb {most : Nat} (k : List UInt8) (hk : k.length ≤ most) (hm : most < 18446744073709551616) (r : List UInt8) : textD most (vb k.length ++ k ++ r) 0 = (k, r, 0) := by
  unfold textD
  rw [List.append_assoc, numF_vb hk (by omega)]
  simp only
  rw [if_neg (by simp), if_neg (by simp), List.take_left, List.drop_left]
theorem textD_len {most : Nat} {l : List UInt8} {e : Int} : (textD most l e).1.length ≤ most := by
  have hw := numF_w (most := most) (over := 4) (l := l) (e := e)
  unfold textD
  split
  · simp
  · split
    · simp
    · rw [List.length_take]; omega
theorem picks_len (n : Nat) (l : List UInt8) (e : Int) : (picksD n l e).1.length = n := by
  induction n with
  | zero => rfl
  | succ n ih => simp only [picksD, List.length_append, List.length_singleton, ih]
theorem picks_r (n : Nat) (l : List UInt8) (e : Int) : ∀ x ∈ (picksD n l e).1, inR x = true := by
  induction n with
  | zero => simp [picksD]
  | succ n ih =>
    intro x hx
    simp only [picksD, List.mem_append, List.mem_singleton] at hx
    rcases hx with hx | rfl
    · exact ih x hx
    · have := (numF_w (most := 1099511627776) (over := 1) (l := (picksD n l e).2.1) (e := (picksD n l e).2.2)).2
      rw [inR_iff]; unfold timeF; omega
theorem picks_back : ∀ {n : Nat} {l : List UInt8} {e : Int}, (picksD n l e).2.2 = 0 → e = 0 ∧ l = vbs ((picksD n l e).1.map Int.toNat) ++ (picksD n l e).2.1
  | 0, l, e, h => by simpa [picksD, vbs] using h
  | n + 1, l, e, h => by
    simp only [picksD] at h ⊢
    obtain ⟨h1, h2⟩ := numF_back (by decide) h
    obtain ⟨h3, h4⟩ := picks_back h1
    refine ⟨h3, ?_⟩
    rw [List.map_append, List.map_singleton, vbs_snoc, Int.toNat_natCast, List.append_assoc, ← h2, ← h4]
theorem picks_vb (ns : List Int) (hn : ∀ n ∈ ns, inR n = true) (r : List UInt8) : ∀ k, k ≤ ns.length → picksD k (vbs (ns.map Int.toNat) ++ r) 0 = (ns.take k, vbs ((ns.drop k).map Int.toNat) ++ r, 0)
  | 0, _ => by simp [picksD]
  | k + 1, h => by
    have hk := inR_iff.1 (hn ns[k] (List.getElem_mem _))
    simp only [picksD, picks_vb ns hn r k (by omega)]
    rw [List.drop_eq_getElem_cons (i := k) (by omega), List.map_cons, show vbs (ns[k].toNat :: (ns.drop (k + 1)).map Int.toNat) = vb ns[k].toNat ++ vbs ((ns.drop (k + 1)).map Int.toNat) by simp [vbs], List.append_assoc]
    unfold timeF
    rw [numF_vb (by omega) (by omega)]
    simp only
    rw [Int.toNat_of_nonneg hk.1, List.take_succ_eq_append_getElem (by omega)]
theorem opD_e {l : List UInt8} {e : Int} (h : e ≠ 0) : opD l e = (opZ 0, l, e) := by unfold opD; rw [numF_e h]; exact if_pos h
theorem ops_len (n : Nat) (l : List UInt8) (e : Int) : (opsD n l e).1.length = n := by
  induction n with
  | zero => rfl
  | succ n ih => simp only [opsD, List.length_append, List.length_singleton, ih]
theorem ops_e {l : List UInt8} {e : Int} (h : e ≠ 0) : ∀ n, (opsD n l e).2 = (l, e)
  | 0 => rfl
  | n + 1 => by simp only [opsD, ops_e h n]; rw [opD_e h]
/-- An error stays. -/
theorem ops_stay {l : List UInt8} {e : Int} {j : Nat} (h : (opsD j l e).2.2 ≠ 0) : ∀ n, j ≤ n → (opsD n l e).2 = (opsD j l e).2 := by
  intro n hn
  induction n with
  | zero => obtain rfl : j = 0 := by omega
            rfl
  | succ n ih =>
    rcases Nat.lt_or_ge n j with h1 | h1
    · obtain rfl : j = n + 1 := by omega
      rfl
    · have h2 := ih h1
      simp only [opsD]
      rw [h2, opD_e h]
/-- An operation that is read is a right one, and its bytes are what was read. -/
theorem opD_back {l : List UInt8} {e : Int} (h : (opD l e).2.2 = 0) : e = 0 ∧ l = opB (opD l e).1 ++ (opD l e).2.1 ∧ opE (opD l e).1 = 0 := by
  have hb := numF_back (most := 5) (over := 3) (l := l) (e := e) (by decide)
  have hw := (numF_w (most := 5) (over := 3) (l := l) (e := e)).2
  unfold opD at h ⊢
  generalize numF 5 3 l e = N at *
  obtain ⟨k, r, f⟩ := N
  simp only at *
  by_cases h1 : f ≠ 0
  · rw [if_pos h1] at h; exact absurd h h1
  rw [if_neg h1] at h ⊢
  obtain ⟨h2, h3⟩ := hb (by omega)
  refine ⟨h2, ?_⟩
  rw [h3]
  clear hb h1 h2 h3
  by_cases k1 : k = 1
  · subst k1
    rw [opK1] at h ⊢
    simp only at h ⊢
    obtain ⟨-, b1, b2⟩ := textD_back h
    refine ⟨?_, ?_⟩
    · unfold opB
      rw [opT1 (by rfl)]
      simp only [opZ]
      rw [List.append_assoc, ← b1]; rfl
    · rw [opE_iff]
      refine ⟨by first | (simp [restB, opZ]; done) | (simp [restB, opZ]; rfl), ?_, by simp [rangeB, opZ, inR]⟩
      simp [longB, opZ, ByteArray.size]; omega
  by_cases k2 : k = 2
  · subst k2
    rw [opK2] at h ⊢
    simp only at h ⊢
    obtain ⟨c1, c2⟩ := picks_back h
    obtain ⟨c3, c4⟩ := numF_back (by decide) c1
    obtain ⟨-, c6⟩ := numF_back (by decide) c3
    have hn := (numF_w (most := 8) (over := 4) (l := (timeF r 0).2.1) (e := (timeF r 0).2.2)).2
    have ht := (numF_w (most := 1099511627776) (over := 1) (l := r) (e := 0)).2
    have hr := picks_r (numF 8 4 (timeF r 0).2.1 (timeF r 0).2.2).1 (numF 8 4 (timeF r 0).2.1 (timeF r 0).2.2).2.1 (numF 8 4 (timeF r 0).2.1 (timeF r 0).2.2).2.2
    have hlen := picks_len (numF 8 4 (timeF r 0).2.1 (timeF r 0).2.2).1 (numF 8 4 (timeF r 0).2.1 (timeF r 0).2.2).2.1 (numF 8 4 (timeF r 0).2.1 (timeF r 0).2.2).2.2
    refine ⟨?_, ?_⟩
    · unfold opB
      rw [opT2 (by rfl)]
      simp only [opZ, Int.toNat_natCast]
      rw [hlen, List.append_assoc, List.append_assoc, List.append_assoc, ← c2, ← c4, ← c6]
      rfl
    · rw [opE_iff]
      refine ⟨by first | (simp [restB, opZ]; done) | (simp [restB, opZ]; rfl), ?_, ?_⟩
      · simp only [longB, opZ, hlen]; simp [ByteArray.size]; omega
      · simp only [rangeB, opZ, Bool.and_eq_true, List.all_eq_true]
        refine ⟨⟨?_, by decide⟩, hr⟩
        rw [inR_iff]; unfold timeF at *; omega
  by_cases k3 : k = 3
  · subst k3
    rw [opK3] at h ⊢
    simp only at h ⊢
    obtain ⟨-, c6⟩ := numF_back (by decide) h
    have ht := (numF_w (most := 1099511627776) (over := 1) (l := r) (e := 0)).2
    refine ⟨?_, ?_⟩
    · unfold opB
      rw [opT3 (by rfl)]
      simp only [opZ, Int.toNat_natCast]
      rw [List.append_assoc, ← c6]
      rfl
    · rw [opE_iff]
      refine ⟨by first | (simp [restB, opZ]; done) | (simp [restB, opZ]; rfl), by simp [longB, opZ, ByteArray.size], ?_⟩
      simp only [rangeB, opZ, Bool.and_eq_true, List.all_nil, and_true]
      refine ⟨by decide, ?_⟩
      rw [inR_iff]; unfold timeF at *; omega
  by_cases k4 : k = 4
  · subst k4
    rw [opK4] at h ⊢
    refine ⟨?_, by rfl⟩
    unfold opB
    rw [opT4 (by rfl)]
    simp only [opZ, Int.toNat_natCast, List.append_nil]
    all_goals rfl
  by_cases k5 : k = 5
  · subst k5
    rw [opK5] at h ⊢
    simp only at h ⊢
    obtain ⟨c1, c2⟩ := numF_back (by decide) h
    obtain ⟨-, b1, b2⟩ := textD_back c1
    have ht := (numF_w (most := 1099511627776) (over := 1) (l := (textD 255 r 0).2.1) (e := (textD 255 r 0).2.2)).2
    refine ⟨?_, ?_⟩
    · unfold opB
      rw [opT5 (by rfl)]
      simp only [opZ, Int.toNat_natCast, ByteArray.size, List.size_toArray]
      rw [List.append_assoc, List.append_assoc, ← c2, ← b1]
      rfl
    · rw [opE_iff]
      refine ⟨by first | (simp [restB, opZ]; done) | (simp [restB, opZ]; rfl), ?_, ?_⟩
      · simp [longB, opZ, ByteArray.size]; omega
      · simp only [rangeB, opZ, Bool.and_eq_true, List.all_nil, and_true]
        refine ⟨?_, by decide⟩
        rw [inR_iff]; unfold timeF at *; omega
  · rw [opK6 _ k1 k2 k3 k4 k5] at h
    cases h
theorem ops_back : ∀ {n : Nat} {l : List UInt8} {e : Int}, (opsD n l e).2.2 = 0 → e = 0 ∧ l = opsB (opsD n l e).1 ++ (opsD n l e).2.1 ∧ ∀ o ∈ (opsD n l e).1, opE o = 0
  | 0, l, e, h => by simpa [opsD, opsB] using h
  | n + 1, l, e, h => by
    simp only [opsD] at h ⊢
    obtain ⟨h1, h2, h3⟩ := opD_back h
    obtain ⟨h4, h5, h6⟩ := ops_back h1
    refine ⟨h4, ?_, ?_⟩
    · rw [opsB_snoc, List.append_assoc, ← h2, ← h5]
    · intro o ho
      rcases List.mem_append.1 ho with ho | ho
      · exact h6 o ho
      · obtain rfl := List.mem_singleton.1 ho; exact h3
/-- Bytes that can be decoded are the encoding of what they are decoded to. -/
theorem decO_back {l : List UInt8} (h : decOE l = 0) : encE (decO l) = 0 ∧ encO (decO l) = l := by
  have hd : decO l = (decOp l).1 := if_pos h
  unfold decOE at h
  by_cases h1 : (decOp l).2.2 ≠ 0
  · rw [if_pos h1] at h; exact absurd h h1
  rw [if_neg h1] at h
  by_cases h2 : (decOp l).2.1 ≠ []
  · rw [if_pos h2] at h; cases h
  have h3 : (decOp l).2.1 = [] := Decidable.byContradiction h2
  rw [hd]
  clear hd h h2
  unfold decOp at h1 h3 ⊢
  have hw := (numF_w (most := 4096) (over := 4) (l := l) (e := 0)).2
  obtain ⟨c1, c2, c3⟩ := ops_back (Decidable.byContradiction h1)
  obtain ⟨-, c4⟩ := numF_back (by decide) c1
  have hl := ops_len (numF 4096 4 l 0).1 (numF 4096 4 l 0).2.1 (numF 4096 4 l 0).2.2
  rw [h3, List.append_nil] at c2
  have e : encE (opsD (numF 4096 4 l 0).1 (numF 4096 4 l 0).2.1 (numF 4096 4 l 0).2.2).1 = 0 := by
    unfold encE
    rw [if_neg (by omega), opsE_no c3]
  refine ⟨e, ?_⟩
  unfold encO
  rw [if_pos e, hl, ← c2, ← c4]
theorem opD_op {o : OpR} (h : opE o = 0) (r : List UInt8) : (opD (opB o ++ r) 0).2 = (r, 0) ∧ opC (opD (opB o ++ r) 0).1 = opC o := by
  obtain ⟨h1, h2, h3⟩ := opE_iff.1 h
  obtain ⟨k, vd, t, s, y, vp, d, q⟩ := o
  simp only [longB, Bool.or_eq_false_iff, decide_eq_false_iff_not] at h2
  simp only [rangeB, Bool.and_eq_true, List.all_eq_true] at h3
  obtain ⟨⟨ht, hs⟩, hp⟩ := h3
  have ht := inR_iff.1 ht
  have hs := inR_iff.1 hs
  obtain ⟨⟨hd, hy⟩, hq⟩ := h2
  have hyl : y.data.toList.length = y.size := Array.length_toList
  unfold restB at h1
  unfold opB
  simp only at *
  by_cases k1 : k = 1
  · subst k1
    rw [opT1 (by rfl)]
    simp at h1
    obtain ⟨⟨⟨z1, z2⟩, z3⟩, z4⟩ := h1
    subst z1 z2 z4
    subst z3
    unfold opD
    rw [List.append_assoc, numF_vb (by decide) (by decide), if_neg (by simp)]
    show (opK 1 _).2 = _ ∧ opC (opK 1 _).1 = _
    rw [opK1]
    simp only
    rw [textD_vb d (by omega) (by decide)]
    exact ⟨rfl, rfl⟩
  by_cases k2 : k = 2
  · subst k2
    rw [opT2 (by rfl)]
    simp at h1
    obtain ⟨⟨z1, z2⟩, z3⟩ := h1
    subst z1 z2
    subst z3
    unfold opD
    rw [List.append_assoc, numF_vb (by decide) (by decide), if_neg (by simp)]
    show (opK 2 _).2 = _ ∧ opC (opK 2 _).1 = _
    rw [opK2, List.append_assoc, List.append_assoc]
    simp only [timeF]
    rw [numF_vb (by omega) (by omega)]
    simp only
    rw [numF_vb (by omega) (by omega)]
    simp only
    rw [picks_vb q hp r q.length (Nat.le_refl _)]
    simp only [List.take_length, List.drop_length, List.map_nil, vbs, List.flatMap_nil, List.nil_append, true_and]
    simp only [opC, opZ, Int.toNat_of_nonneg ht.1]
    all_goals rfl
  by_cases k3 : k = 3
  · subst k3
    rw [opT3 (by rfl)]
    simp at h1
    obtain ⟨⟨⟨z1, z2⟩, z3⟩, z4⟩ := h1
    subst z1 z2 z4
    subst z3
    unfold opD
    rw [List.append_assoc, numF_vb (by decide) (by decide), if_neg (by simp)]
    show (opK 3 _).2 = _ ∧ opC (opK 3 _).1 = _
    rw [opK3]
    simp only [timeF]
    rw [numF_vb (by omega) (by omega)]
    simp only [opC, opZ, Int.toNat_of_nonneg hs.1, true_and]
    all_goals rfl
  by_cases k4 : k = 4
  · subst k4
    rw [opT4 (by rfl)]
    simp at h1
    obtain ⟨⟨⟨⟨z0, z1⟩, z2⟩, z3⟩, z4⟩ := h1
    subst z0 z1 z2 z4
    subst z3
    unfold opD
    rw [List.append_nil, numF_vb (by decide) (by decide)]
    exact ⟨rfl, rfl⟩
  by_cases k5 : k = 5
  · subst k5
    rw [opT5 (by rfl)]
    simp at h1
    obtain ⟨⟨z0, z2⟩, z4⟩ := h1
    subst z0 z2 z4
    unfold opD
    rw [List.append_assoc, numF_vb (by decide) (by decide), if_neg (by simp)]
    show (opK 5 _).2 = _ ∧ opC (opK 5 _).1 = _
    rw [opK5, List.append_assoc, ← hyl, textD_vb _ (by omega) (by decide)]
    simp only [timeF]
    rw [numF_vb (by omega) (by omega)]
    simp only [opC, opZ, Int.toNat_of_nonneg ht.1, true_and]
    all_goals rfl
  · simp [k1, k2, k3, k4, k5] at h1
theorem ops_ops (os : List OpR) (h : ∀ o ∈ os, opE o = 0) (r : List UInt8) : ∀ k, k ≤ os.length → (opsD k (opsB os ++ r) 0).2 = (opsB (os.drop k) ++ r, 0) ∧ (opsD k (opsB os ++ r) 0).1.map opC = (os.take k).map opC
  | 0, _ => by simp [opsD]
  | k + 1, hk => by
    obtain ⟨h1, h2⟩ := ops_ops os h r k (by omega)
    have h3 := h os[k] (List.getElem_mem _)
    simp only [opsD, h1]
    rw [List.drop_eq_getElem_cons (i := k) (by omega), opsB_cons, List.append_assoc]
    obtain ⟨h4, h5⟩ := opD_op h3 (opsB (os.drop (k + 1)) ++ r)
    refine ⟨h4, ?_⟩
    rw [List.map_append, h2, List.map_singleton, h5, List.take_succ_eq_append_getElem (by omega), List.map_append, List.map_singleton]
/-- Operations that were encoded are decoded as they were. -/
theorem decO_enc {os : List OpR} (h : encE os = 0) : decOE (encO os) = 0 ∧ (decO (encO os)).map opC = os.map opC := by
  have he : encO os = vb os.length ++ opsB os := if_pos h
  unfold encE at h
  by_cases h1 : 4096 < os.length
  · rw [if_pos h1] at h; cases h
  rw [if_neg h1] at h
  have hd : decOp (encO os) = opsD os.length (opsB os) 0 := by
    unfold decOp
    rw [he, numF_vb (by omega) (by omega)]
  obtain ⟨h2, h3⟩ := ops_ops os (opsE_all h) [] os.length (Nat.le_refl _)
  rw [List.append_nil] at h2 h3
  rw [List.drop_length] at h2
  rw [List.take_length] at h3
  have h4 : decOE (encO os) = 0 := by
    unfold decOE
    rw [hd, h2]
    rw [if_neg (by simp), if_neg (by simp [opsB])]
  refine ⟨h4, ?_⟩
  unfold decO
  rw [if_pos h4, hd, h3]
end Go.Proofs.Ytkdbapbmbhmaiaa

/- Operations that come in, opened. -/
namespace Go.Proofs.Ytkdbapbmbhmaiaa
open Go.RowKit Go.WideShapes Go.ChangeShapes Go.Deep
theorem list6 {α : Type} {l : List α} (h : l.length = 6) : ∃ a b c d e f, l = [a, b, c, d, e, f] := by
  match l, h with
  | [a, b, c, d, e, f], _ => exact ⟨a, b, c, d, e, f, rfl⟩
instance : Inhabited OpR := ⟨⟨0, .slice none 0 0, 0, 0, ByteArray.empty, .slice none 0 0, [], []⟩⟩
theorem someMap {α β : Type} {o : Option α} {g : α → β} {b : β} (h : o.map g = some b) : ∃ x, o = some x ∧ g x = b := by
  cases o with
  | none => cases h
  | some x => exact ⟨x, rfl, by simpa using h⟩
section
variable {H : Type} {enc : TypeId × Value → H} {w : World} {base : Nat} {spare : Nat → Bool} {held : Bool}
end
end Go.Proofs.Ytkdbapbmbhmaiaa

/- Items that come in, opened. -/
namespace Go.Proofs.Ytkdbapbmbhmaiaa
open Go.RowKit Go.WideShapes Go.ChangeShapes Go.Deep

theorem fields_it : ∃ fs, Try.prog.underlying 50 = some (.struct fs) ∧ oneCellFields Try.prog fs = true ∧ Try.prog.cellsOf 50 = fs.size ∧ fs.size = 3 ∧ (fs[0]?).map (·.type) = some 9 ∧ (fs[1]?).map (·.type) = some 3 ∧ (fs[2]?).map (·.type) = some 25 :=
  ⟨_, Try.underlying50, by kernel_rfl, by kernel_rfl, rfl, rfl, rfl, rfl⟩
theorem list3i {α : Type} {l : List α} (h : l.length = 3) : ∃ a b c, l = [a, b, c] := by
  match l, h with
  | [a, b, c], _ => exact ⟨a, b, c, rfl⟩
theorem mapSome {α β : Type} {o : Option α} {g : α → β} {b : β} (h : o.map g = some b) : ∃ x, o = some x ∧ g x = b := by
  cases o with
  | none => cases h
  | some x => exact ⟨x, rfl, by simpa using h⟩
instance : Inhabited ItR := ⟨⟨ByteArray.empty, 0, 0⟩⟩
section
variable {H : Type} {enc : TypeId × Value → H} {w : World} {base : Nat} {spare : Nat → Bool} {held : Bool}
set_option maxRecDepth 100000 in
theorem open_it {n : Nat} {cs : List Value} {y : DataW H × List MemPlace} (h : DataW.trod enc Try.prog w base spare held n 50 cs = some y) : ∃ x : ItR, cs = itF x ∧ ItW x := by
  obtain ⟨fs, h1, h2, h3, h4, f0, f1, f2⟩ := fields_it
  obtain ⟨hl, m, hf⟩ := open_fields h1 h2 h3 h
  obtain ⟨a, b, c, rfl⟩ := list3i (hl.trans h4)
  obtain ⟨g0, e0, t0⟩ := mapSome f0
  obtain ⟨g1, e1, t1⟩ := mapSome f1
  obtain ⟨g2, e2, t2⟩ := mapSome f2
  obtain ⟨c0, y0, k0, r0⟩ := hf 0 g0 e0
  obtain ⟨c1, y1, k1, r1⟩ := hf 1 g1 e1
  obtain ⟨c2, y2, k2, r2⟩ := hf 2 g2 e2
  clear hf
  simp at k0 k1 k2
  subst k0 k1 k2
  rw [t0] at r0; rw [t1] at r1; rw [t2] at r2
  obtain ⟨ky, q0, _, s0⟩ := DataW.trod_string Try.underlying9 r0
  obtain ⟨tm, q1, _, s1⟩ := DataW.trod_int Try.underlying3 r1
  obtain ⟨wt, q2, _, s2⟩ := DataW.trod_int Try.underlying25 r2
  simp at q0 q1 q2
  subst q0 q1 q2
  refine ⟨⟨ky, tm, wt⟩, rfl, ?_, ?_, by unfold maxLen at s0; show ky.size ≤ _; omega⟩
  · have := bounds_i64 s1; simp only; omega
  · have := bounds_u64 s2; unfold W64; simp only; omega
theorem open_items {fuel : Nat} {cs : List Value} {x : DataW H × List MemPlace} (h : DataW.trod enc Try.prog w base spare held fuel 22 cs = some x) :
    ∃ a len cap, ∃ l : List ItR, cs = [.slice a len cap] ∧ l.length = len ∧ len ≤ cap ∧ RdL itF 3 w (.slice a len cap) l ∧ ∀ o ∈ l, ItW o := by
  obtain ⟨a, len, cap, l, h1, h2, h3, h4, h5⟩ := open_elems itF 3 Try.underlying22 (by kernel_rfl) (by omega) itF_len ItW (fun n cs y h => open_it h) h
  exact ⟨a, len, cap, l, h1, h2, h3, h4, h5⟩
end
end Go.Proofs.Ytkdbapbmbhmaiaa
