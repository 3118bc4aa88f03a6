/- Several texts in one file; each begins with a comment that says what is proved in it. -/
import Derived.Test.YtkdbapbmbhmaiaaGreatBunAI
import Derived.Test.YtkdbapbmbhmaiaaGreatBunAE
import Derived.Test.YtkdbapbmbhmaiaaGreatBunAD
import Derived.Laws.BytesArg
import Derived.OwnWalk
import Derived.Test.YtkdbapbmbhmaiaaGreatBunAH
import Derived.Test.YtkdbapbmbhmaiaaGreatBunAC
import Derived.Test.YtkdbapbmbhmaiaaGreatBunAA
import Derived.ProofKit
import Derived.ShutString
import Derived.ChangeOld

/- Numbers that were written are read as they were; what is read was written so: plain. -/
namespace Go.Proofs.YtkdbapbmbhmaiaaGreat
open Go.RowKit

theorem bigs_split : ∀ (f : Nat) (p : List UInt8) (b : UInt8) (r : List UInt8), p.length < f → (∀ x ∈ p, 128 ≤ x.toNat) → b.toNat < 128 → bigs f (p ++ b :: r) = p.length
  | 0, _, _, _, h, _, _ => by omega
  | f + 1, [], b, r, _, _, hb => by simp [bigs]; omega
  | f + 1, x :: p, b, r, h, hp, hb => by
    have ih := bigs_split f p b r (by simpa using h) (fun y hy => hp y (by simp [hy])) hb
    have hx := hp x (by simp)
    simp [bigs, hx, ih]
theorem readF_split {p : List UInt8} {b : UInt8} (r : List UInt8) (h1 : ∀ x ∈ p, 128 ≤ x.toNat) (h2 : b.toNat < 128) (h3 : p.length ≤ 9) (h4 : p.length = 9 → b.toNat ≤ 1) (h5 : 0 < p.length → b.toNat ≠ 0) :
    readF (p ++ b :: r) = (valU (p ++ [b]), p.length + 1, 0) := by
  have hb := bigs_split 10 p b r (by omega) h1 h2
  have hl : bigs 10 (p ++ b :: r) < (p ++ b :: r).length := by rw [hb]; simp
  have hg : (p ++ b :: r)[bigs 10 (p ++ b :: r)] = b := by simp [hb]
  rw [readF_ok (by omega) hl (by rw [hg, hb]; omega), hb]
  have : (p ++ b :: r).take (p.length + 1) = p ++ [b] := by
    rw [List.take_append]; simp [List.take_of_length_le]
  rw [this]
theorem readF_parts {l : List UInt8} (h : (readF l).2.2 = 0) : ∃ p b r, l = p ++ b :: r ∧ (∀ x ∈ p, 128 ≤ x.toNat) ∧ b.toNat < 128 ∧ (0 < p.length → b.toNat ≠ 0) ∧ readF l = (valU (p ++ [b]), p.length + 1, 0) := by
  have hle := bigs_le 10 l
  by_cases h1 : bigs 10 l = 10
  · rw [readF_ten h1] at h; cases h
  by_cases h2 : bigs 10 l < l.length
  · by_cases h3 : (bigs 10 l = 9 ∧ 1 < l[bigs 10 l].toNat) ∨ (0 < bigs 10 l ∧ l[bigs 10 l].toNat = 0)
    · rw [readF_bad h1 h2 h3] at h; cases h
    · have hl : (l.take (bigs 10 l)).length = bigs 10 l := by rw [List.length_take]; omega
      refine ⟨l.take (bigs 10 l), l[bigs 10 l], l.drop (bigs 10 l + 1), ?_, ?_, bigs_at (by omega) h2, ?_, ?_⟩
      · rw [List.getElem_cons_drop, List.take_append_drop]
      · intro x hx
        obtain ⟨i, hi, rfl⟩ := List.mem_iff_getElem.1 hx
        rw [List.getElem_take]
        rw [hl] at hi
        exact bigs_lt hi _
      · rw [hl]; intro h0 h4; exact h3 (.inr ⟨h0, h4⟩)
      · rw [readF_ok h1 h2 h3, hl, List.take_succ_eq_append_getElem h2]
  · rw [readF_short h1 (by omega)] at h; cases h
theorem vb_pos (n : Nat) : 1 ≤ (vb n).length := by
  by_cases h : n < 128
  · rw [vb_small h]; simp
  · rw [vb_big h]; simp
theorem vb_parts (n : Nat) : ∃ p b, vb n = p ++ [b] ∧ (∀ x ∈ p, 128 ≤ x.toNat) ∧ b.toNat < 128 ∧ (0 < n → b.toNat ≠ 0) ∧ (0 < p.length → 0 < n) ∧ valU (p ++ [b]) = n := by
  induction n using Nat.strongRecOn with
  | _ n ih =>
    by_cases h : n < 128
    · have hn : (UInt8.ofNat n).toNat = n := by rw [UInt8.toNat_ofNat']; omega
      refine ⟨[], UInt8.ofNat n, by rw [vb_small h]; rfl, by simp, by omega, by omega, by simp, ?_⟩
      simp only [List.nil_append, valU]; omega
    · obtain ⟨p, b, e, h1, h2, h3, h4, h5⟩ := ih (n / 128) (by omega)
      have hn : (UInt8.ofNat (n % 128 + 128)).toNat = n % 128 + 128 := by rw [UInt8.toNat_ofNat']; omega
      refine ⟨UInt8.ofNat (n % 128 + 128) :: p, b, by rw [vb_big h, e]; rfl, ?_, h2, fun _ => h3 (by omega), fun _ => by omega, ?_⟩
      · intro x hx
        rcases List.mem_cons.1 hx with rfl | hx
        · omega
        · exact h1 x hx
      · simp only [List.cons_append, valU, h5, hn]; omega
theorem vb_valU : ∀ (p : List UInt8) (b : UInt8), (∀ x ∈ p, 128 ≤ x.toNat) → b.toNat < 128 → (0 < p.length → b.toNat ≠ 0) → vb (valU (p ++ [b])) = p ++ [b]
  | [], b, _, h2, _ => by
    have e : valU ([] ++ [b]) = b.toNat := by simp only [List.nil_append, valU]; omega
    rw [e, vb_small h2]
    simp
  | x :: p, b, h1, h2, h3 => by
    have hb := h3 (by simp)
    have ih := vb_valU p b (fun y hy => h1 y (by simp [hy])) h2 fun _ => hb
    have hx := h1 x (by simp)
    have hxl := x.toNat_lt
    have hpos : 0 < valU (p ++ [b]) := by
      rw [valU_snoc]
      have : 0 < b.toNat % 128 * 128 ^ p.length := Nat.mul_pos (by omega) (Nat.pow_pos (by omega))
      omega
    simp only [List.cons_append, valU]
    have e1 : (x.toNat % 128 + 128 * valU (p ++ [b])) / 128 = valU (p ++ [b]) := by omega
    have e2 : (x.toNat % 128 + 128 * valU (p ++ [b])) % 128 + 128 = x.toNat := by omega
    rw [vb_big (by omega), e1, e2, ih]
    simp
theorem readF_vb {n : Nat} (h : n < 18446744073709551616) (r : List UInt8) : readF (vb n ++ r) = (n, (vb n).length, 0) := by
  obtain ⟨p, b, e, h1, h2, h3, h4, h5⟩ := vb_parts n
  have ht := vb_ten h
  rw [e] at ht ⊢
  rw [List.length_append, List.length_singleton] at ht ⊢
  rw [List.append_assoc, List.singleton_append, readF_split r h1 h2 (by omega) ?_ fun hp => h3 (h4 hp), h5]
  intro h9
  rw [← h5, valU_snoc, h9] at h
  have e : (128 : Nat) ^ 9 = 9223372036854775808 := by decide
  rw [e] at h
  omega
theorem readF_back {l : List UInt8} (h : (readF l).2.2 = 0) : l = vb (readF l).1 ++ l.drop (readF l).2.1 := by
  obtain ⟨p, b, r, e, h1, h2, h3, h4⟩ := readF_parts h
  rw [h4]
  simp only
  rw [vb_valU p b h1 h2 h3, e, show p ++ b :: r = (p ++ [b]) ++ r by simp, List.drop_left' (by simp)]

/-- A number that is at most most: what it is, what is left, the first error. -/
def numF (most : Nat) (over : Int) (l : List UInt8) (e : Int) : Nat × List UInt8 × Int :=
  if e ≠ 0 then (0, l, e)
  else if (readF l).2.2 ≠ 0 then (0, l, (readF l).2.2)
  else if most < (readF l).1 then (0, l.drop (readF l).2.1, over)
  else ((readF l).1, l.drop (readF l).2.1, 0)
/-- A number of any size. -/
abbrev weiF (l : List UInt8) (e : Int) : Nat × List UInt8 × Int := numF 18446744073709551615 1 l e
theorem readF_err (l : List UInt8) (h : (readF l).2.2 ≠ 0) : (readF l).1 = 0 ∧ (readF l).2.1 = 0 ∧ ((readF l).2.2 = 2 ∨ (readF l).2.2 = 3) := by
  by_cases h1 : bigs 10 l = 10
  · rw [readF_ten h1]; simp
  by_cases h2 : bigs 10 l < l.length
  · by_cases h3 : (bigs 10 l = 9 ∧ 1 < l[bigs 10 l].toNat) ∨ (0 < bigs 10 l ∧ l[bigs 10 l].toNat = 0)
    · rw [readF_bad h1 h2 h3]; simp
    · rw [readF_ok h1 h2 h3] at h; simp at h
  · rw [readF_short h1 (by have := bigs_le 10 l; omega)]; simp
theorem numF_e {most : Nat} {over : Int} {l : List UInt8} {e : Int} (h : e ≠ 0) : numF most over l e = (0, l, e) := if_pos h
theorem numF_w {most : Nat} {over : Int} {l : List UInt8} {e : Int} : (numF most over l e).1 < 18446744073709551616 ∧ (numF most over l e).1 ≤ most := by
  have := readF_w l
  unfold numF
  split
  · simp
  · split
    · simp
    · split
      · simp
      · simp; omega
theorem numF_vb {most n : Nat} {over : Int} (h : n ≤ most) (hn : n < 18446744073709551616) (r : List UInt8) : numF most over (vb n ++ r) 0 = (n, r, 0) := by
  unfold numF
  rw [readF_vb hn]
  simp only [List.drop_left]
  rw [if_neg (by simp), if_neg (by simp), if_neg (by omega)]
theorem numF_back {most : Nat} {over : Int} (ho : over ≠ 0) {l : List UInt8} {e : Int} (h : (numF most over l e).2.2 = 0) : e = 0 ∧ l = vb (numF most over l e).1 ++ (numF most over l e).2.1 := by
  unfold numF at h ⊢
  by_cases h1 : e ≠ 0
  · rw [if_pos h1] at h; exact absurd h h1
  rw [if_neg h1] at h ⊢
  refine ⟨by omega, ?_⟩
  by_cases h2 : (readF l).2.2 ≠ 0
  · rw [if_pos h2] at h; exact absurd h h2
  rw [if_neg h2] at h ⊢
  by_cases h3 : most < (readF l).1
  · rw [if_pos h3] at h; exact absurd h ho
  rw [if_neg h3]
  exact readF_back (by omega)
theorem numF_len {most : Nat} {over : Int} {l : List UInt8} {e : Int} : (numF most over l e).2.1.length ≤ l.length := by
  unfold numF
  split
  · exact Nat.le_refl _
  · split
    · exact Nat.le_refl _
    · split <;> simp
end Go.Proofs.YtkdbapbmbhmaiaaGreat

/- Readers of bytes: the program's and the reference's; numbers. -/
namespace Go.Proofs.YtkdbapbmbhmaiaaGreat
open Go.RowKit Go.Sort

/-- A reader at g, with what is left and the first error; the bytes lie below B. -/
structure Rdr (B : Nat) (w : World) (g : Nat) (l : List UInt8) (e : Int) : Prop where
  ex : ∃ a c, Blk w g #[.slice a l.length c, .int .i64 e] ∧ RdL byF 1 w (.slice a l.length c) l ∧ l.length ≤ c ∧ ∀ ad, a = some ad → 0 < l.length → ad.block < B
  hg : B ≤ g
theorem rd_kept {α : Type} {f : α → List Value} {s : Nat} {w w' : World} {a : Option Addr} {n c : Nat} {l : List α} {r : Option Nat} {B : Nat} (h : RdL f s w (.slice a n c) l) (hg : w.grownBy w' r) (ha : ∀ ad, a = some ad → 0 < l.length → ad.block < B) (hr : ∀ k, r = some k → B ≤ k) : RdL f s w' (.slice a n c) l := by
  cases r with
  | none => exact h.same hg
  | some k => exact Rd.kept0 h hg fun h0 q e a' n' c' hv => by cases e; cases hv; have := ha _ rfl h0; have := hr k rfl; omega
theorem Rdr.kept {B : Nat} {w w' : World} {g : Nat} {l : List UInt8} {e : Int} {r : Option Nat} (h : Rdr B w g l e) (hg : w.grownBy w' r) (hr : r ≠ some g) (hB : ∀ k, r = some k → B ≤ k) : Rdr B w' g l e := by
  obtain ⟨a, c, h1, h2, h3, h4⟩ := h.ex
  exact ⟨⟨a, c, h1.kept hg hr, rd_kept h2 hg h4 hB, h3, h4⟩, h.hg⟩
theorem Rdr.same {B : Nat} {w w' : World} {g : Nat} {l : List UInt8} {e : Int} (h : Rdr B w g l e) (hg : w.grownBy w' none) : Rdr B w' g l e := h.kept hg (by simp) (by simp)
theorem add_block (ad : Addr) (k : Nat) : (ad.add k).block = ad.block := by unfold Addr.add; split <;> rfl
theorem Rdr.setE {B : Nat} {w : World} {g : Nat} {l : List UInt8} {e : Int} (h : Rdr B w g l e) (f : Int) : Rdr B (w.setCell ⟨g, 1, none⟩ (.int .i64 f)) g l f ∧ w.grownBy (w.setCell ⟨g, 1, none⟩ (.int .i64 f)) (some g) := by
  obtain ⟨a, c, h1, h2, h3, h4⟩ := h.ex
  have hg : w.grownBy (w.setCell ⟨g, 1, none⟩ (.int .i64 f)) (some g) := grownBy_set (grownBy_refl w (some g)) 1 (.int .i64 f)
  exact ⟨⟨⟨a, c, h1.set_ 1 _ rfl, rd_kept h2 hg h4 (fun k e => by cases e; exact h.hg), h3, h4⟩, h.hg⟩, hg⟩
theorem Rdr.setB {B : Nat} {w : World} {g : Nat} {l : List UInt8} {e : Int} {a : Option Addr} {c : Nat} (h1 : Blk w g #[.slice a l.length c, .int .i64 e]) (h2 : RdL byF 1 w (.slice a l.length c) l) (h3 : l.length ≤ c) (h4 : ∀ ad, a = some ad → 0 < l.length → ad.block < B) (hB : B ≤ g) {k : Nat} (hk : k ≤ l.length) :
    Rdr B (w.setCell ⟨g, 0, none⟩ (.slice (if c = k then a else a.map (·.add k)) (l.length - k) (c - k))) g (l.drop k) e ∧ w.grownBy (w.setCell ⟨g, 0, none⟩ (.slice (if c = k then a else a.map (·.add k)) (l.length - k) (c - k))) (some g) := by
  have h5 := RdL.drop byF_len h2 hk h3 (c - k)
  rw [Nat.mul_one] at h5
  have hg : w.grownBy (w.setCell ⟨g, 0, none⟩ (.slice (if c = k then a else a.map (·.add k)) (l.length - k) (c - k))) (some g) := grownBy_set (grownBy_refl w (some g)) 0 _
  have h6 : ∀ ad, (if c = k then a else a.map (·.add k)) = some ad → 0 < (l.drop k).length → ad.block < B := by
    intro ad e h0
    have h0' : 0 < l.length := by rw [List.length_drop] at h0; omega
    split at e
    · exact h4 ad e h0'
    · obtain ⟨x, hx, rfl⟩ := Option.map_eq_some_iff.1 e
      rw [add_block]; exact h4 x hx h0'
  generalize (if c = k then a else a.map (·.add k)) = a' at *
  have hl : (l.drop k).length = l.length - k := List.length_drop
  refine ⟨⟨⟨a', c - k, ?_, ?_, by omega, h6⟩, hB⟩, hg⟩
  · rw [hl]; exact h1.set_ 0 _ rfl
  · rw [hl]; exact rd_kept h5 hg h6 fun k e => by cases e; exact hB
/-- Bytes as a text. -/
theorem conv_by {l : List UInt8} {a : Option Addr} {n c : Nat} {w : World} (h : RdL byF 1 w (.slice a n c) l) : (convert 51 9 (.slice a n c)).run Tryz.prog w = .ok (.string ⟨l.toArray⟩) w := by
  obtain ⟨a', c', hv⟩ := Rd.shape h
  cases hv
  rcases h.2.2 with ⟨h0, _⟩ | ⟨g, off, cap, hv, _, hc⟩
  · obtain rfl : l = [] := List.eq_nil_of_length_eq_zero h0
    cases a with
    | none => exact run_convert_bytes_nil w 51 5 Tryz.underlying51 Tryz.underlying5 0 c _ Tryz.underlying9
    | some ad =>
      rw [run_convert_bytes_string w 51 9 5 _ _ c Tryz.underlying51 Tryz.underlying5 Tryz.underlying9]
      rw [show ([] : List UInt8).length = 0 from rfl, run_bytesToString w ad 0 c []]
      · rfl
      · exact run_loadCells_list w ad [] (fun j v hv => by simp at hv)
  · cases hv
    have hcl : ∀ i, i < l.length → w.cell? ⟨g, off + i, none⟩ = some (.int .u8 ((l.map fun b => (b.toNat : Int)).getD i 0)) := by
      intro i hi
      have e : ∀ (l : List UInt8) (i : Nat), i < l.length → (cellsOf byF l)[i]? = some (.int .u8 ((l.map fun b => (b.toNat : Int)).getD i 0)) := by
        intro l
        induction l with
        | nil => intro i hi; simp at hi
        | cons b l ih =>
          intro i hi
          cases i with
          | zero => simp [cellsOf, byF]
          | succ i =>
            have := ih i (by simpa using hi)
            simpa [cellsOf, byF] using this
      exact hc i _ (e l i hi)
    rw [run_convert_bytes_arg w 51 5 Tryz.underlying51 Tryz.underlying5 g off l.length c (l.map fun b => (b.toNat : Int)) (by simp) hcl _ Tryz.underlying9]
    congr 2
    unfold strOfNums
    congr 2
    rw [List.map_map]
    conv => rhs; rw [← List.map_id l]
    apply List.map_congr_left
    intro b _
    simp
def NumP (B g : Nat) (w : World) (F : Nat × List UInt8 × Int) (en : Ending) (w' : World) : Prop :=
  en = .returned (.int .u64 F.1) ∧ Rdr B w' g F.2.1 F.2.2 ∧ w.grownBy w' (some g)

/-- A reader in a block that has just been made. -/
theorem Rdr.new {w : World} {g : Nat} {l : List UInt8} {a : Option Addr} {c : Nat} {w' : World} (hr : RdL byF 1 w (.slice a l.length c) l) (hc : l.length ≤ c) (hb : Blk w' g #[.slice a l.length c, .int .i64 0]) (hg : w.grownBy w' none) (hB : w.heap.size ≤ g) : Rdr w.heap.size w' g l 0 :=
  ⟨⟨a, c, hb, hr.same hg, hc, fun ad e h0 => by subst e; exact Rd.blockLt hr h0 _ _ _ rfl⟩, hB⟩
end Go.Proofs.YtkdbapbmbhmaiaaGreat

/- The program's key of tags: for all tags as the reference's. -/
namespace Go.Proofs.YtkdbapbmbhmaiaaGreat
open Go.RowKit Go.Sort

/-- What stands while the bytes of a tag are put behind the others: the bytes, the tag's block. -/
structure KyS (w0 : World) (gk : Nat) (x : TagR) (v : Value) (l : List UInt8) (w : World) : Prop where
  own : Own byF 1 5 w0.heap.size w v l
  blk : Blk w gk #[.string x.name, .string x.value]
  G : w0.grownBy w none
  ne : ∀ k, v.ownBlock = some k → k ≠ gk
theorem own_ne_blk {B gk : Nat} {w : World} {v : Value} {l : List UInt8} {s : ByteArray} (h : Own byF 1 5 B w v l) (hl : 0 < l.length) (hA : w.cell? ⟨gk, 0, none⟩ = some (.string s)) : ∀ k, v.ownBlock = some k → k ≠ gk := by
  obtain ⟨g, cap, rfl, -, -, -, hcx, -⟩ := h.at_ byF_len hl
  intro k hk e
  have c0 := hcx 0 _ rfl
  have : g = k := by simpa [Value.ownBlock] using hk
  subst this
  subst e
  rw [Nat.zero_mul, Nat.add_zero, hA] at c0
  cases c0
section
variable {w0 w w' : World} {gk : Nat} {x : TagR} {v v' : Value} {l l' : List UInt8}
theorem KyS.grown (h : KyS w0 gk x v l w) (hg : w.grownBy w' v.ownBlock) : w0.grownBy w' none := grown_own h.G h.own (Nat.le_refl _) hg
theorem KyS.next (h : KyS w0 gk x v l w) (o : Own byF 1 5 w0.heap.size w' v' l') (hl : 0 < l'.length) (hg : w.grownBy w' v.ownBlock) : KyS w0 gk x v' l' w' := by
  have hb := h.blk.kept hg (fun e => h.ne gk e rfl)
  exact ⟨o, hb, h.grown hg, own_ne_blk o hl (by rw [hb.cell]; rfl)⟩
end
theorem szB (s : ByteArray) : s.data.toList.length = s.size := Array.length_toList

set_option maxHeartbeats 1000000 in
set_option maxRecDepth 100000 in
theorem tkey_c (v : Value) (L : List TagR) (w : World) (h : RdL tagF 2 w v L) (hW : ∀ t ∈ L, TagW t) : Calls Tryz.prog 42 #[v] w (KeyP L w) := by
  obtain ⟨a, c, rfl⟩ := h.shape
  have C := Lib.hid (tsort_c _ L w h hW)
  have HK := Lib.hid (show keyE L = if sortE L ≠ 0 then sortE L else if 255 < (kyB (sortT L)).length then 4 else 0 from rfl)
  have HY := Lib.hid (show keyY L = if keyE L = 0 then ⟨(kyB (sortT L)).toArray⟩ else ⟨#[]⟩ from rfl)
  have H0 := Lib.hid (sortE_0 (L := L))
  have Hlen := Lib.hid (sortT_len L)
  have HM := Lib.hid (sortT_mem L)
  clear h hW
  go_enter Tryz.func42, Tryz.ntmps42
  by_cases hE : sortE L = 0
  · have C2 := C.out
    unfold SortP at C2
    rw [hE, if_pos rfl] at C2
    have C3 := Lib.hid C2
    obtain ⟨h0, h8, ht, -⟩ := H0.out hE
    have HK2 := Lib.hid (HK.out.trans (if_neg (by omega)))
    have HT := Lib.hid (fun t h => tagE_ok (ht t ((HM.out t).1 h)) : ∀ t ∈ sortT L, _)
    clear C C2 HK H0 HM ht hE
    generalize sortT L = S at *
    have hSl : (S.length : Int) ≤ 8 := by have := Hlen.out; omega
    go_upto_region 6 with (go_at_call 58; refine C3.out.mono ?_; rintro e w2 ⟨v2, rfl, o2, g2⟩; obtain ⟨a2, c2, rfl⟩ := o2.shape)
    have HO := Lib.hid o2
    have HG := Lib.hid g2
    clear o2 g2
    go_loopw [19, 6] (fun s19 s6 wk => ∃ (k : Nat), k ≤ S.length ∧ s19 = .int .i64 k ∧ Own byF 1 5 w2.heap.size wk s6 (kyB (S.take k)) ∧ (kyB (S.take k)).length ≤ 98 * k ∧ w2.grownBy wk none) (fun s19 _ _ => S.length - (RowKit.intOf s19).toNat)
    case atStart => exact ⟨0, Nat.zero_le _, rfl, Own.nil _ _ _ _ _, by simp [kyB], grownBy_refl _ _⟩
    case round =>
      obtain ⟨k, hk, rfl, hO, hOl, hg⟩ := hrel
      by_cases hlt : k < S.length
      · obtain ⟨gx, ox, cx, hv, hgx, hcx⟩ := (RdL.same HO.out.rd hg).at_ tagF_len hlt
        cases hv
        have c0 := hcx 0 _ rfl
        have c1 := hcx 1 _ rfl
        rw [Nat.add_zero] at c0
        obtain ⟨-, -, hn32, hv64⟩ := HT.out _ (List.getElem_mem hlt)
        have HS := Lib.hid (show kyB (S.take (k + 1)) = kyB (S.take k) ++ tkB S[k] by rw [List.take_succ_eq_append_getElem hlt, kyB_snoc])
        clear hcx
        generalize S[k] = x at *
        generalize kyB (S.take k) = O at *
        have hw1 := by_len (n := x.name.size)
        have hw2 := by_len (n := x.value.size)
        have HB := Lib.hid (show tkB x = UInt8.ofNat x.name.size :: nmB x ++ (UInt8.ofNat x.value.size :: vlB x) from rfl)
        obtain ⟨b1, hb1⟩ : ∃ b, UInt8.ofNat x.name.size = b := ⟨_, rfl⟩
        obtain ⟨b2, hb2⟩ : ∃ b, UInt8.ofNat x.value.size = b := ⟨_, rfl⟩
        rw [hb1] at hw1 HB
        rw [hb2] at hw2 HB
        clear hb1 hb2
        have Hcs1 := Lib.hid (show (#[Value.int .u8 (b1.toNat : Int)] : Array Value).toList = byF b1 from rfl)
        have Hcs2 := Lib.hid (show (#[Value.int .u8 (b2.toNat : Int)] : Array Value).toList = byF b2 from rfl)
        obtain ⟨oa, oc, rfl⟩ := hO.shape
        have hol := hO.lt
        go_upto_region 8 with fail
        have S0 : KyS w2 wr.heap.size x (.slice oa O.length oc) O (wr.alloc (.cells #[.string x.name, .string x.value] 76)) :=
          ⟨hO.same (World.grownBy_alloc _ _ _), Blk.new _ _ _, grownBy_new_block hg _, fun k hk e => by have := (hol k hk).2; omega⟩
        generalize wr.alloc (.cells #[.string x.name, .string x.value] 76) = e0 at *
        generalize wr.heap.size = gk at *
        clear hO hol hg c0 c1 hgx
        have a0 := S0.blk.cell
        have hb1 : (O.length + 1) * 1 ≤ 140737488355328 := by omega
        have hb2 : O.length + 1 ≤ 9223372036854775807 := by omega
        have hz := S0.G.size
        go_upto_region 9 with (at_builtin; refine app_one elt_by one_by byF_len S0.own b1 hb1 hb2 hz Hcs1.out (by rfl) _ _ (by rfl) (by rfl) (by rfl) ?_; intro v3 e1 o3 g3 l3)
        have S1 := S0.next o3 (by simp) g3
        clear S0 a0 o3 g3 l3 hb1 hb2 hz
        have hL1 : (O ++ [b1]).length = O.length + 1 := by simp
        generalize hO1 : O ++ [b1] = O1 at *
        have HE1 := Lib.hid hO1.symm
        clear hO1
        obtain ⟨oa1, oc1, rfl⟩ := S1.own.shape
        have a0 := S1.blk.cell
        have hb1 : O1.length + x.name.size ≤ 140737488355328 := by omega
        have hz := S1.G.size
        go_upto_region 10 with (at_builtin; refine app_str S1.own x.name hb1 hz (by rfl) _ _ (by rfl) (by rfl) (by rfl) ?_; intro v4 e2 o4 g4)
        have S2 := S1.next o4 (by simp; omega) g4
        have hL2 : (O1 ++ x.name.data.toList).length = O1.length + x.name.size := by rw [List.length_append, szB]
        have HE2 := Lib.hid (show O1 ++ x.name.data.toList = O1 ++ nmB x from rfl)
        clear S1 a0 o4 g4 hb1 hz
        generalize O1 ++ x.name.data.toList = O2 at *
        obtain ⟨oa2, oc2, rfl⟩ := S2.own.shape
        have a0 := S2.blk.cell
        have hb1 : (O2.length + 1) * 1 ≤ 140737488355328 := by omega
        have hb2 : O2.length + 1 ≤ 9223372036854775807 := by omega
        have hz := S2.G.size
        go_upto_region 11 with (at_builtin; refine app_one elt_by one_by byF_len S2.own b2 hb1 hb2 hz Hcs2.out (by rfl) _ _ (by rfl) (by rfl) (by rfl) ?_; intro v5 e3 o5 g5 l5)
        have S3 := S2.next o5 (by simp) g5
        have hL3 : (O2 ++ [b2]).length = O2.length + 1 := by simp
        have HE3 := Lib.hid (show O2 ++ [b2] = O2 ++ [b2] from rfl)
        clear S2 a0 o5 g5 l5 hb1 hb2 hz
        generalize hO3 : O2 ++ [b2] = O3 at *
        replace HE3 := Lib.hid hO3
        clear hO3
        obtain ⟨oa3, oc3, rfl⟩ := S3.own.shape
        have a0 := S3.blk.cell
        have hb1 : O3.length + x.value.size ≤ 140737488355328 := by omega
        have hz := S3.G.size
        go_upto_region 12 with (at_builtin; refine app_str S3.own x.value hb1 hz (by rfl) _ _ (by rfl) (by rfl) (by rfl) ?_; intro v6 e4 o6 g6)
        have o6' := Lib.hid o6
        have G6 := S3.grown g6
        have hL4 : (O3 ++ x.value.data.toList).length = O3.length + x.value.size := by rw [List.length_append, szB]
        have HEQ := Lib.hid (show O3 ++ x.value.data.toList = kyB (S.take (k + 1)) by rw [HS.out, HB.out, ← HE3.out, HE2.out, HE1.out]; simp [vlB])
        clear S3 a0 o6 g6 hb1 hz
        go_wp2_with fail
        exact ⟨⟨k + 1, by omega, by go_num, by rw [← HEQ.out]; exact o6'.out, by rw [← HEQ.out, hL4]; omega, G6⟩, by simp [RowKit.intOf]; omega⟩
      · have hke : S.take k = S := List.take_of_length_le (by omega)
        rw [hke] at hO hOl
        generalize kyB S = OO at *
        obtain ⟨oa, oc, rfl⟩ := hO.shape
        have hcv := conv_by hO.rd
        clear hke
        by_cases hlong : 255 < OO.length
        · have j1 : (255 : Int) < (OO.length : Int) := by omega
          have HF := Lib.hid (show keyE L = 4 by rw [HK2.out, if_pos hlong])
          clear hlong hcv
          go_wp2_with fail
          go_ret2
          exact ⟨by rw [HF.out, HY.out, HF.out]; rfl, grownBy_trans HG.out hg⟩
        · have j1 : (OO.length : Int) ≤ 255 := by omega
          have HF := Lib.hid (show keyE L = 0 by rw [HK2.out, if_neg hlong])
          have HQ := Lib.hid (show keyY L = ⟨OO.toArray⟩ by rw [HY.out, HF.out, if_pos rfl])
          clear hlong
          go_wp2_with fail
          go_ret2
          exact ⟨by rw [HF.out, HQ.out]; rfl, grownBy_trans HG.out hg⟩
  · have C2 := C.out
    unfold SortP at C2
    have HF := Lib.hid (HK.out.trans (if_pos hE))
    have HF2 := Lib.hid (show keyY L = ⟨#[]⟩ by rw [HY.out, HF.out, if_neg hE])
    generalize sortE L = EE at *
    rw [if_neg hE] at C2
    have C3 := Lib.hid C2
    have he2 : (EE != 0) = true := by simpa using hE
    have he3 : (EE == 0) = false := by simpa using hE
    clear C C2 HK H0 HM hE
    go_wp2_with (go_at_call 58; refine C3.out.mono ?_; rintro e w2 ⟨v2, rfl, o2, g2⟩; obtain ⟨a2, c2, rfl⟩ := o2.shape)
    go_ret2
    exact ⟨by rw [HF.out, HF2.out]; rfl, g2⟩
end Go.Proofs.YtkdbapbmbhmaiaaGreat

/- The program's tags of a key. -/
namespace Go.Proofs.YtkdbapbmbhmaiaaGreat
open Go.RowKit Go.Sort

def SplitP (k : ByteArray) (w : World) (e : Ending) (w' : World) : Prop := ∃ v, e = .returned (.tuple #[v, .int .i64 (splitE k)]) ∧ Own tagF 2 76 w.heap.size w' v (splitL k) ∧ w.grownBy w' none
theorem splitP_bad {k : ByteArray} {w w' : World} {E : Int} (h : splitE k = E) (h0 : E ≠ 0) (hg : w.grownBy w' none) : SplitP k w (.returned (.tuple #[.slice none 0 0, .int .i64 E])) w' :=
  ⟨_, by rw [h], by unfold splitL; rw [if_neg (by omega)]; exact Own.nil _ _ _ _ _, hg⟩
theorem cut_n {r : List UInt8} (h : cutF r = none) (hr : r.length ≤ 1000000) (w : World) : Calls Tryz.prog 41 #[.string ⟨r.toArray⟩] w fun e w' => e = .returned (.tuple #[.string ⟨#[]⟩, .string ⟨#[]⟩, .bool false]) ∧ w.grownBy w' none :=
  (cut_c ⟨r.toArray⟩ w (by simpa [ByteArray.size] using hr)).mono fun e w' h1 => by
    unfold CutP at h1
    rw [show (⟨r.toArray⟩ : ByteArray).data.toList = r from rfl, h] at h1
    exact ⟨h1.2, h1.1⟩
theorem cut_y {r a s : List UInt8} (h : cutF r = some (a, s)) (hr : r.length ≤ 1000000) (w : World) : Calls Tryz.prog 41 #[.string ⟨r.toArray⟩] w fun e w' => e = .returned (.tuple #[.string ⟨a.toArray⟩, .string ⟨s.toArray⟩, .bool true]) ∧ w.grownBy w' none :=
  (cut_c ⟨r.toArray⟩ w (by simpa [ByteArray.size] using hr)).mono fun e w' h1 => by
    unfold CutP at h1
    rw [show (⟨r.toArray⟩ : ByteArray).data.toList = r from rfl, h] at h1
    exact ⟨h1.2, h1.1⟩
theorem ba_cons (b : UInt8) (q : List UInt8) : (⟨(b :: q).toArray⟩ : ByteArray).toList = b :: q := by rw [ByteArray.toList_eq]
theorem cut2_no1 {r : List UInt8} (h : cutF r = none) : cut2 r = none := by unfold cut2; rw [h]
theorem cut2_no2 {r a s : List UInt8} (h : cutF r = some (a, s)) (h2 : cutF s = none) : cut2 r = none := by unfold cut2; rw [h]; simp only; rw [h2]
theorem cut2_yes {r a s b u : List UInt8} (h : cutF r = some (a, s)) (h2 : cutF s = some (b, u)) : cut2 r = some (⟨⟨a.toArray⟩, ⟨b.toArray⟩⟩, u) := by unfold cut2; rw [h]; simp only; rw [h2]
theorem cutF_len {r a s : List UInt8} (h : cutF r = some (a, s)) : a.length + s.length + 1 = r.length := by
  obtain ⟨b, rfl, _⟩ := cutF_app h
  simp

set_option maxHeartbeats 1000000 in
set_option maxRecDepth 100000 in
theorem tsplit_c (k : ByteArray) (w : World) (hk : k.size ≤ 9223372036854775807) : Calls Tryz.prog 23 #[.string k] w (SplitP k w) := by
  by_cases hlong : 255 < k.size
  · have HF := Lib.hid (splitE_long hlong)
    have i1 : (255 : Int) < (k.size : Int) := by omega
    clear hlong
    go_enter Tryz.func23, Tryz.ntmps23
    go_wp2_with fail
    go_ret2
    exact splitP_bad HF.out (by decide) (grownBy_refl _ _)
  have i1 : ¬ (255 : Int) < (k.size : Int) := by omega
  have i2 : (k.size : Int) ≤ 255 := by omega
  have Hl := Lib.hid hlong
  have hkl : k.data.toList.length = k.size := szB k
  clear hlong
  go_enter Tryz.func23, Tryz.ntmps23
  go_upto_region 5 with fail
  go_loopw [5, 4] (fun s5 s4 wk => ∃ (r : List UInt8) (O : List TagR), s5 = .string ⟨r.toArray⟩ ∧ Own tagF 2 76 w.heap.size wk s4 O ∧ splitA O r = splitP k.data.toList ∧ O.length + r.length ≤ 255 ∧ (∀ t ∈ O, TagW t) ∧ w.grownBy wk none) (fun s5 _ _ => match s5 with | .string b => b.size | _ => 0)
  case atStart => exact ⟨k.data.toList, [], rfl, Own.nil _ _ _ _ _, splitA_0 _, by simp; omega, by simp, grownBy_refl _ _⟩
  case round =>
    obtain ⟨r, O, rfl, hO, hA, hOl, hW, hg⟩ := hrel
    have HA := Lib.hid hA
    have HW := Lib.hid hW
    clear hA hW
    obtain ⟨oa, oc, rfl⟩ := hO.shape
    by_cases hr : r = []
    · subst hr
      have HA2 := Lib.hid (show splitP k.data.toList = some O by rw [← HA.out, splitA_nil])
      have CK := Lib.hid (tkey_c _ O wr hO.rd HW.out)
      have HO := Lib.hid hO
      have HG := Lib.hid hg
      clear hO hg HA
      by_cases hE : keyE O = 0
      · have hbe := beT_of (keyY O) k
        by_cases hY : keyY O = k
        · obtain ⟨HF1, HF2⟩ := splitE_ok Hl.out HA2.out hE hY
          have HF1 := Lib.hid HF1
          have HF2 := Lib.hid HF2
          rw [decide_eq_true (by rw [hY])] at hbe
          unfold KeyP at CK
          rw [hE] at CK
          generalize keyY O = ky at *
          clear hE hY
          go_wp2_with (go_at_call 42; refine CK.out.mono ?_; rintro e w2 ⟨rfl, g2⟩)
          go_ret2
          exact ⟨_, by rw [HF1.out]; rfl, by rw [HF2.out]; exact HO.out.same g2, grownBy_trans HG.out g2⟩
        · have HF := Lib.hid (splitE_bad Hl.out HA2.out (.inr hY))
          have hY2 : ¬ (keyY O).data.toList = k.data.toList := fun e => hY (ba_eq e ▸ (ba_eq (a := k) rfl).symm ▸ rfl)
          rw [decide_eq_false hY2] at hbe
          unfold KeyP at CK
          rw [hE] at CK
          generalize keyY O = ky at *
          clear hE hY hY2
          go_wp2_with (go_at_call 42; refine CK.out.mono ?_; rintro e w2 ⟨rfl, g2⟩)
          go_ret2
          exact splitP_bad HF.out (by decide) (grownBy_trans HG.out g2)
      · have HF := Lib.hid (splitE_bad Hl.out HA2.out (.inl hE))
        unfold KeyP at CK
        generalize keyY O = ky at *
        generalize keyE O = EE at *
        have he2 : (EE != 0) = true := by simpa using hE
        have he3 : (EE == 0) = false := by simpa using hE
        clear hE
        go_wp2_with (go_at_call 42; refine CK.out.mono ?_; rintro e w2 ⟨rfl, g2⟩)
        go_ret2
        exact splitP_bad HF.out (by decide) (grownBy_trans HG.out g2)
    · have hre : r.isEmpty = false := by cases r <;> simp_all
      have hrl : r.length ≤ 1000000 := by omega
      have HN := Lib.hid hr
      clear hr
      go_upto_region 8 with fail
      have A2 := Blk.new wr #[.string ⟨#[]⟩, .string ⟨#[]⟩] 76
      have O2 := hO.same (World.grownBy_alloc wr (.cells #[.string ⟨#[]⟩, .string ⟨#[]⟩] 76) none)
      have G2 := grownBy_new_block hg (.cells #[.string ⟨#[]⟩, .string ⟨#[]⟩] 76)
      have hlo := fun k hk => (hO.lt k hk).2
      have hz := hg.size
      generalize wr.alloc (.cells #[.string ⟨#[]⟩, .string ⟨#[]⟩] 76) = w2 at *
      generalize wr.heap.size = gk at *
      clear hO hg
      cases h1 : cutF r with
      | none =>
        have HF := Lib.hid (splitE_no Hl.out (by rw [← HA.out]; exact splitA_no HN.out (cut2_no1 h1)))
        have C1 := Lib.hid (cut_n h1 hrl w2)
        have AA := Lib.hid fun w' h => A2.same (w' := w') h
        go_wp2_with (go_at_call 41; refine C1.out.mono ?_; rintro e w3 ⟨rfl, g3⟩; have a3 := (AA.out _ g3).cell; have f3 := (AA.out _ g3).free)
        go_ret2
        exact splitP_bad HF.out (by decide) (grownBy_setNew (grownBy_trans G2 g3) hz _)
      | some p =>
        obtain ⟨ta, s⟩ := p
        have hsl := cutF_len h1
        have C1 := Lib.hid (cut_y h1 hrl w2)
        have AA := Lib.hid fun w' h => A2.same (w' := w') h
        go_upto_region 11 with (go_at_call 41; refine C1.out.mono ?_; rintro e w3 ⟨rfl, g3⟩; have a3 := (AA.out _ g3).cell; have f3 := (AA.out _ g3).free)
        have A4 := (A2.same g3).set_ 0 (.string ⟨ta.toArray⟩) (cs' := #[.string ⟨ta.toArray⟩, .string ⟨#[]⟩]) rfl
        have O4 := (O2.same g3).kept (grownBy_set (grownBy_refl w3 (some gk)) 0 (.string ⟨ta.toArray⟩)) (fun q hq e => by have := hlo q hq; cases e; omega)
        have G4 := grownBy_setNew (p := ⟨gk, 0, none⟩) (grownBy_trans G2 g3) hz (.string ⟨ta.toArray⟩)
        clear O2 A2 AA C1 G2 a3 f3 g3
        generalize w3.setCell ⟨gk, 0, none⟩ (.string ⟨ta.toArray⟩) = w4 at *
        cases h2 : cutF s with
        | none =>
          have HF := Lib.hid (splitE_no Hl.out (by rw [← HA.out]; exact splitA_no HN.out (cut2_no2 h1 h2)))
          have C1 := Lib.hid (cut_n h2 (by omega) w4)
          have AA := Lib.hid fun w' h => A4.same (w' := w') h
          go_wp2_with (go_at_call 41; refine C1.out.mono ?_; rintro e w5 ⟨rfl, g5⟩; have a5 := (AA.out _ g5).cell; have f5 := (AA.out _ g5).free)
          go_ret2
          exact splitP_bad HF.out (by decide) (grownBy_setNew (grownBy_trans G4 g5) hz _)
        | some p =>
          obtain ⟨tb, u⟩ := p
          have hul := cutF_len h2
          have C1 := Lib.hid (cut_y h2 (by omega) w4)
          have AA := Lib.hid fun w' h => A4.same (w' := w') h
          have HS := Lib.hid (splitA_yes (L := O) HN.out (cut2_yes h1 h2))
          go_upto_region 14 with (go_at_call 41; refine C1.out.mono ?_; rintro e w5 ⟨rfl, g5⟩; have a5 := (AA.out _ g5).cell; have f5 := (AA.out _ g5).free)
          have A6 := (A4.same g5).set_ 1 (.string ⟨tb.toArray⟩) (cs' := #[.string ⟨ta.toArray⟩, .string ⟨tb.toArray⟩]) rfl
          have O6 := (O4.same g5).kept (grownBy_set (grownBy_refl w5 (some gk)) 1 (.string ⟨tb.toArray⟩)) (fun q hq e => by have := hlo q hq; cases e; omega)
          have G6 := grownBy_setNew (p := ⟨gk, 1, none⟩) (grownBy_trans G4 g5) hz (.string ⟨tb.toArray⟩)
          clear O4 A4 AA C1 G4 a5 f5 g5
          generalize w5.setCell ⟨gk, 1, none⟩ (.string ⟨tb.toArray⟩) = w6 at *
          have a6 := A6.cell
          have hb1 : (O.length + 1) * 32 ≤ 140737488355328 := by omega
          have hb2 : O.length + 1 ≤ 9223372036854775807 := by omega
          have hz6 := G6.size
          have hta : ta.length ≤ 255 := by omega
          have htb : tb.length ≤ 255 := by omega
          have HTw := Lib.hid (show TagW ⟨⟨ta.toArray⟩, ⟨tb.toArray⟩⟩ from ⟨by show ta.toArray.size ≤ _; simp; omega, by show tb.toArray.size ≤ _; simp; omega⟩)
          have HOl := Lib.hid (show (O ++ [(⟨⟨ta.toArray⟩, ⟨tb.toArray⟩⟩ : TagR)]).length + u.length ≤ 255 by simp; omega)
          have HUl := Lib.hid (show u.length < r.length by omega)
          go_wp2_with (at_builtin; refine app_one elt_tag one_tag tagF_len O6 ⟨⟨ta.toArray⟩, ⟨tb.toArray⟩⟩ hb1 hb2 hz6 (by rfl) (by rfl) _ _ (by rfl) (by rfl) (by rfl) ?_; intro v7 w7 o7 g7 l7)
          refine ⟨⟨u, _, rfl, o7, by rw [← HS.out, HA.out], HOl.out, ?_, grown_own G6 O6 (Nat.le_refl _) g7⟩, ?_⟩
          · intro t ht
            rcases List.mem_append.1 ht with ht | ht
            · exact HW.out t ht
            · rw [List.mem_singleton.1 ht]; exact HTw.out
          · show u.toArray.size < r.toArray.size
            simpa using HUl.out
end Go.Proofs.YtkdbapbmbhmaiaaGreat

/- query.Ask of a cluster that is new: only keys that are canonical are asked for. -/
namespace Go.Proofs.YtkdbapbmbhmaiaaGreat
open Go.RowKit Go.Sort
attribute [local go_sem ↓] exec_load_cfg
attribute [local go_sem] run_loadCfgS

abbrev ans0 : Value := .agg #[.int .u64 0, .int .u64 0, .bool false, .int .u64 0]
set_option maxHeartbeats 400000 in
theorem askNil_c (k : ByteArray) (n : Int) (w : World) : Calls Tryz.prog 9 #[.pointer none, .string k, .int .i64 n] w (RetVal (.tuple #[ans0, .int .i64 8]) w) := by
  go_enter Tryz.func9, Tryz.ntmps9
  go_wp2_with fail
  refine bodyPost_ret (v := .tuple #[ans0, .int .i64 8]) (by simp [results, Tryz.results9, go_sem]) rfl ?_
  exact retVal rfl (by (repeat (first | exact grownBy_refl _ _ | assumption | refine grownBy_new_block ?_ _ | refine grownBy_drew ?_ | refine grownBy_drewN ?_ _ | refine grownBy_setNew ?_ (by first | (simp; done) | omega | (simp; omega)) _)))

theorem ver_0 {c : Cfg} (h : CfgNums c) : verV c 0 0 = 0 := by
  have h1 : cok c = true := h.cokN
  have h2 : tok 0 = true := by decide
  have hl := h.length
  have ha := h.lateness
  have hw := h.windows
  have e1 : winV c 0 = 0 := by unfold winV; rw [h1, h2]; simp
  have e2 : lowV c 0 = 0 := by
    unfold lowV; rw [h1, h2]
    rw [if_pos (by rfl), show max (0 - c.Lateness) 0 = 0 by omega]
    simp
  exact verV_in (by rw [h1, h2]; rfl) (by omega) (by omega)
theorem win_0 {c : Cfg} : winV c 0 = 0 := by unfold winV; simp
section
variable {B : Nat} {c : Cfg} {l : List (Int × Int)} {t : List Int} {g ga gp : Nat} {vs vl : Value} {sl : List Nat}
set_option maxHeartbeats 1000000 in
set_option maxRecDepth 100000 in
theorem askNew_c (k : ByteArray) (w : World) (h : CluNew B w c l t g ga gp vs vl sl) (hsl : (sl.length : Int) = c.Shards) (hk : k.size ≤ 9223372036854775807) : Calls Tryz.prog 9 #[.pointer (some ⟨g, 0, none⟩), .string k, .int .i64 0] w (RetVal (.tuple #[ans0, .int .i64 (splitE k)]) w) := by
  have H := Lib.hid h
  have HS := Lib.hid fun w => (tsplit_c k w hk).mono (R' := fun e w' => ∃ v, e = .returned (.tuple #[v, .int .i64 (splitE k)]) ∧ w.grownBy w' none) fun e w' ⟨v, h1, _, h3⟩ => ⟨v, h1, h3⟩
  clear h
  by_cases hE : splitE k = 0
  · rw [hE] at HS ⊢
    have HB := Lib.hid fun y (q : w.grownBy y none) => cluBounds_c 0 k y (H.out.same q) hsl ⟨by omega, by omega⟩ hk
    have HQ := Lib.hid fun y (q : w.grownBy y none) => cluQueued_c 0 k y (H.out.same q)
    have HC := Lib.hid fun y (q : w.grownBy y none) => cluConfig_c y (H.out.same q)
    have HM := Lib.hid fun y (q : w.grownBy y none) => cluMark_c y (H.out.same q)
    clear hE
    go_enter Tryz.func9, Tryz.ntmps9
    go_upto_region 3 with fail
    have GA := World.grownBy_alloc w (.cells #[.int .u64 0, .int .u64 0, .bool false, .int .u64 0] 41) none
    have A2 := Blk.new w #[.int .u64 0, .int .u64 0, .bool false, .int .u64 0] 41
    generalize w.alloc (.cells #[.int .u64 0, .int .u64 0, .bool false, .int .u64 0] 41) = w2 at *
    go_upto_region 8 with (go_at_call 23; refine (HS.out _).mono ?_; rintro e w3 ⟨v3, rfl, g3⟩; have A3 := A2.same g3; have G3 := grownBy_trans GA g3)
    go_upto_region 9 with (first
      | (go_at_call 24; refine (HC.out _ G3).mono ?_; rintro e w4 ⟨v1, v2, rfl, R1, R2, g4⟩; have A4 := A3.same g4; have G4 := grownBy_trans G3 g4; (obtain ⟨_, _, e1⟩ := R1.shape); (obtain ⟨_, _, e2⟩ := R2.shape); have oc1 : v1.oneCell' = true := e1 ▸ rfl; have oc2 : v2.oneCell' = true := e2 ▸ rfl; clear e1 e2)
      | (refine alloc_cfg rfl rfl ?_; intro w5 B5 G5 z5; have A5 := A4.same G5; have K5 := grownBy_trans G4 G5)
      | (refine store_cfg rfl _ _ rfl _ rfl (c.with v1 v2) rfl oc1 oc2 Cfg.zero B5 ?_; intro w6 B6 G6; have A6 := A5.kept G6 (by have := A4.lt; simp; omega); have K6 := grownBy_new K5 G6 (Nat.le_trans G4.size (Nat.le_refl _))))
    have HV := Lib.hid fun y => cver_c (c.with v1 v2) 0 0 y
    have HWn := Lib.hid fun y => cwin_c (c.with v1 v2) 0 y
    rw [ver_0 (H.out.nums.with v1 v2)] at HV
    rw [win_0] at HWn
    simp only [Act.put, List.setIfInBounds_toArray, List.set_cons_zero, List.set_cons_succ]
    have K7 : World.grownBy w6 w6.drew none := (by (repeat (first | exact grownBy_refl _ _ | assumption | refine grownBy_new_block ?_ _ | refine grownBy_drew ?_ | refine grownBy_drewN ?_ _ | refine grownBy_setNew ?_ (by first | (simp; done) | omega | (simp; omega)) _)))
    have A9 := A6.same K7
    have B9 := B6.same K7
    have K9 := grownBy_trans K6 K7
    have hz9 : w.heap.size < w6.drew.heap.size := A9.lt
    (refine Rg.wp_region_rgZ 6 #[] (fun w w' => World.grownBy w w' none) (fun k _ w v w' => match k with | 2 => v = .int .i64 0 ∧ World.grownBy w w' none | 4 => v = .int .i64 0 ∧ World.grownBy w w' none | _ => False) (by kernel_rfl) (by kernel_rfl) (fun w => grownBy_refl w none) (fun _ _ _ h k => grownBy_trans h k) (fun _ _ _ _ _ h => h) ?_; simp only [List.take, List.drop])
    have HA9 := Lib.hid A9
    have HB9 := Lib.hid B9
    have HK9 := Lib.hid K9
    clear A9 B9 K9 A6 B6 K6 K7 A2 A3 A4 A5 GA G3 G4 G5 G6 g3 g4 B5 K5 R1 R2
    generalize w6.drew = w9 at *
    generalize w4.heap.size = cb at *
    (refine Rg.tree_op rfl rfl ?_; intro x0 mx0 dx0)
    clear dx0
    have BX := HB9.out.same mx0
    go_wp2_with (refine load_cfg rfl _ rfl _ rfl (c.with v1 v2) BX ?_)
    refine ⟨grownBy_refl _ _, ?_⟩
    clear BX
    (refine Rg.tree_quiet 1 rfl (by first | exact Or.inl rfl | exact Or.inr rfl) ?_; simp only [List.take, List.drop, List.length_cons, List.length_nil, List.replicate, Nat.reduceAdd]; (try simp only [List.cons_append]); (try simp only [List.nil_append]); (repeat (go_big_quiet_step (fail))); refine wpQuiet_nil ?_)
    (refine Rg.tree_call rfl rfl rfl ?_; intro x2 mx2 dx2; refine ⟨?_, ?_⟩; · (unfold Rg.callSpec; go_simp; (refine (HM.out x2 (grownBy_trans HK9.out mx2)).mono ?_; rintro e w' ⟨rfl, rfl⟩; exact ⟨_, rfl, rfl, grownBy_refl _ _⟩)))
    clear dx2
    rintro v5 y5 ⟨rfl, g5⟩
    refine ⟨g5, ?_⟩
    clear g5
    simp only [Act.put, List.setIfInBounds_toArray, List.set_cons_zero, List.set_cons_succ]
    (refine Rg.tree_quiet 1 rfl (by first | exact Or.inl rfl | exact Or.inr rfl) ?_; simp only [List.take, List.drop, List.length_cons, List.length_nil, List.replicate, Nat.reduceAdd]; (try simp only [List.cons_append]); (try simp only [List.nil_append]); (repeat (go_big_quiet_step (fail))); refine wpQuiet_nil ?_)
    (refine Rg.tree_call rfl rfl rfl ?_; intro x4 mx4 dx4; refine ⟨?_, ?_⟩; · (unfold Rg.callSpec; go_simp; (refine (HV.out x4).mono ?_; rintro e w' ⟨rfl, g⟩; exact ⟨_, rfl, rfl, g⟩)))
    clear dx4
    rintro v6 y6 ⟨rfl, g6⟩
    refine ⟨g6, ?_⟩
    clear g6
    simp only [Act.put, List.setIfInBounds_toArray, List.set_cons_zero, List.set_cons_succ]
    (refine Rg.tree_quiet 1 rfl (by first | exact Or.inl rfl | exact Or.inr rfl) ?_; simp only [List.take, List.drop, List.length_cons, List.length_nil, List.replicate, Nat.reduceAdd]; (try simp only [List.cons_append]); (try simp only [List.nil_append]); (repeat (go_big_quiet_step (fail))); refine wpQuiet_nil ?_)
    (refine Rg.tree_nil ?_; intro z mz dz cz)
    have A10 := HA9.out.same mz
    have B10 := HB9.out.same mz
    have K10 := grownBy_trans HK9.out mz
    clear mx0 mx2 mx4 mz dz cz HA9 HB9 HK9 hz9
    go_upto_region 12 with (first
      | (refine load_cfg rfl _ rfl _ rfl (c.with v1 v2) B10 ?_)
      | (go_at_call 27; refine (HWn.out _).mono ?_; rintro e w11 ⟨rfl, g11⟩; have A11 := A10.same g11; have K11 := grownBy_trans K10 g11; clear A10 K10 g11))
    go_upto_region 13 with (go_at_call 28; refine (HB.out _ K11).mono ?_; rintro e w12 ⟨rfl, g12⟩; have A12 := A11.same g12; have K12 := grownBy_trans K11 g12; have a12 := A12.cell; have f12 := A12.free; clear A11 K11 g12)
    clear a12 f12
    have K13 : w.grownBy (((w12.setCell ⟨w.heap.size, 0, none⟩ (.int .u64 0)).setCell ⟨w.heap.size, 1, none⟩ (.int .u64 0)).setCell ⟨w.heap.size, 2, none⟩ (.bool false)) none := (by (repeat (first | exact grownBy_refl _ _ | assumption | refine grownBy_new_block ?_ _ | refine grownBy_drew ?_ | refine grownBy_drewN ?_ _ | refine grownBy_setNew ?_ (by first | (simp; done) | omega | (simp; omega)) _)))
    have A13 := (((A12.set_ 0 (.int .u64 0) (cs' := #[.int .u64 0, .int .u64 0, .bool false, .int .u64 0]) rfl).set_ 1 (.int .u64 0) (cs' := #[.int .u64 0, .int .u64 0, .bool false, .int .u64 0]) rfl).set_ 2 (.bool false) (cs' := #[.int .u64 0, .int .u64 0, .bool false, .int .u64 0]) rfl)
    clear A12 K12
    generalize ((w12.setCell ⟨w.heap.size, 0, none⟩ (.int .u64 0)).setCell ⟨w.heap.size, 1, none⟩ (.int .u64 0)).setCell ⟨w.heap.size, 2, none⟩ (.bool false) = w13 at *
    go_upto_region 14 with (go_at_call 29; refine (HQ.out _ K13).mono ?_; rintro e w14 ⟨rfl, g14⟩; have A14 := A13.same g14; have K14 := grownBy_trans K13 g14; have a14 := A14.cell; have f14 := A14.free; clear A13 K13 g14)
    clear a14 f14
    have K15 : w.grownBy (w14.setCell ⟨w.heap.size, 3, none⟩ (.int .u64 0)) none := (by (repeat (first | exact grownBy_refl _ _ | assumption | refine grownBy_new_block ?_ _ | refine grownBy_drew ?_ | refine grownBy_drewN ?_ _ | refine grownBy_setNew ?_ (by first | (simp; done) | omega | (simp; omega)) _)))
    have A15 := (A14.set_ 3 (.int .u64 0) (cs' := #[.int .u64 0, .int .u64 0, .bool false, .int .u64 0]) rfl)
    clear A14 K14
    generalize w14.setCell ⟨w.heap.size, 3, none⟩ (.int .u64 0) = w15 at *
    have a15 := A15.cell
    have f15 := A15.free
    go_wp2_with fail
    have K16 : w.grownBy ((((w15.setCell ⟨w.heap.size, 0, none⟩ (.int .u64 0)).setCell ⟨w.heap.size, 1, none⟩ (.int .u64 0)).setCell ⟨w.heap.size, 2, none⟩ (.bool false)).setCell ⟨w.heap.size, 3, none⟩ (.int .u64 0)) none := (by (repeat (first | exact grownBy_refl _ _ | assumption | refine grownBy_new_block ?_ _ | refine grownBy_drew ?_ | refine grownBy_drewN ?_ _ | refine grownBy_setNew ?_ (by first | (simp; done) | omega | (simp; omega)) _)))
    have rc := ((((A15.set_ 0 (.int .u64 0) (cs' := #[.int .u64 0, .int .u64 0, .bool false, .int .u64 0]) rfl).set_ 1 (.int .u64 0) (cs' := #[.int .u64 0, .int .u64 0, .bool false, .int .u64 0]) rfl).set_ 2 (.bool false) (cs' := #[.int .u64 0, .int .u64 0, .bool false, .int .u64 0]) rfl).set_ 3 (.int .u64 0) (cs' := #[.int .u64 0, .int .u64 0, .bool false, .int .u64 0]) rfl).cell
    refine bodyPost_ret (v := .tuple #[ans0, .int .i64 0]) (by simp [results, Tryz.results9, go_sem, rc]) rfl ?_
    exact retVal rfl K16
  · have he : (splitE k != 0) = true := by simpa using hE
    have he2 : (splitE k == 0) = false := by simpa using hE
    clear hE
    generalize splitE k = E at *
    go_enter Tryz.func9, Tryz.ntmps9
    go_upto_region 3 with fail
    have GA := World.grownBy_alloc w (.cells #[.int .u64 0, .int .u64 0, .bool false, .int .u64 0] 41) none
    have A2 := Blk.new w #[.int .u64 0, .int .u64 0, .bool false, .int .u64 0] 41
    generalize w.alloc (.cells #[.int .u64 0, .int .u64 0, .bool false, .int .u64 0] 41) = w2 at *
    go_wp2_with (go_at_call 23; refine (HS.out _).mono ?_; rintro e w3 ⟨v3, rfl, g3⟩; have A3 := A2.same g3; have G3 := grownBy_trans GA g3; have a3 := A3.cell; have f3 := A3.free)
    have G4 : w.grownBy ((((w3.setCell ⟨w.heap.size, 0, none⟩ (.int .u64 0)).setCell ⟨w.heap.size, 1, none⟩ (.int .u64 0)).setCell ⟨w.heap.size, 2, none⟩ (.bool false)).setCell ⟨w.heap.size, 3, none⟩ (.int .u64 0)) none := (by (repeat (first | exact grownBy_refl _ _ | assumption | refine grownBy_new_block ?_ _ | refine grownBy_drew ?_ | refine grownBy_drewN ?_ _ | refine grownBy_setNew ?_ (by first | (simp; done) | omega | (simp; omega)) _)))
    have rc := ((((A3.set_ 0 (.int .u64 0) (cs' := #[.int .u64 0, .int .u64 0, .bool false, .int .u64 0]) rfl).set_ 1 (.int .u64 0) (cs' := #[.int .u64 0, .int .u64 0, .bool false, .int .u64 0]) rfl).set_ 2 (.bool false) (cs' := #[.int .u64 0, .int .u64 0, .bool false, .int .u64 0]) rfl).set_ 3 (.int .u64 0) (cs' := #[.int .u64 0, .int .u64 0, .bool false, .int .u64 0]) rfl).cell
    refine bodyPost_ret (v := .tuple #[ans0, .int .i64 E]) (by simp [results, Tryz.results9, go_sem, rc]) rfl ?_
    exact retVal rfl G4
end
end Go.Proofs.YtkdbapbmbhmaiaaGreat

/- The reference's tags of a key. -/
namespace Go.Proofs.YtkdbapbmbhmaiaaGreat
open Go.RowKit Go.Sort

set_option maxHeartbeats 400000 in
set_option maxRecDepth 100000 in
theorem part_c (k : ByteArray) (w : World) (hk : k.size ≤ 1000000) : Calls Tryz.prog 21 #[.string k] w (CutP k.data.toList w) := by
  obtain ⟨⟨l⟩⟩ := k
  cases l with
  | nil =>
    go_enter Tryz.func21, Tryz.ntmps21
    go_wp2_with fail
    go_ret3
    exact cutP_no rfl
  | cons b q =>
    have hs : (⟨(b :: q).toArray⟩ : ByteArray).size = q.length + 1 := by simp [ByteArray.size]
    have hne : (⟨(b :: q).toArray⟩ : ByteArray).toList.isEmpty = false := by rw [ByteArray.toList_eq]; rfl
    have hq : q.length ≤ 1000000 := by have : (⟨(b :: q).toArray⟩ : ByteArray).size ≤ 1000000 := hk; omega
    have hw1 : wrap64 (q.length : Int) = (q.length : Int) := by unfold wrap64; omega
    have hbb := b.toNat_lt
    have hw2 : wrap64 (b.toNat : Int) = (b.toNat : Int) := by unfold wrap64; omega
    have hw3 : wrap64 (1 + (b.toNat : Int)) = 1 + (b.toNat : Int) := by unfold wrap64; omega
    have hx : ∀ h, (⟨⟨b :: q⟩⟩ : ByteArray)[0]'h = b := fun _ => rfl
    by_cases hb : q.length < b.toNat
    · have hz0 : ((q.length : Int) + 1 == 0) = false := by rw [beq_eq_false_iff_ne]; omega
      have hb2 : (q.length : Int) + 1 < 1 + (b.toNat : Int) := by omega
      have hb3 : ((⟨(b :: q).toArray⟩ : ByteArray).size : Int) - 1 < (b.toNat : Int) := by rw [hs]; omega
      go_enter Tryz.func21, Tryz.ntmps21
      go_wp2_with fail
      go_ret3
      exact cutP_no (by simp only [cutF]; rw [if_pos hb])
    · have hz0 : ((q.length : Int) + 1 == 0) = false := by rw [beq_eq_false_iff_ne]; omega
      have hb2 : ¬ (q.length : Int) + 1 < 1 + (b.toNat : Int) := by omega
      have hb3 : ¬ ((⟨(b :: q).toArray⟩ : ByteArray).size : Int) - 1 < (b.toNat : Int) := by rw [hs]; omega
      go_enter Tryz.func21, Tryz.ntmps21
      go_upto_region 3 with fail
      have i1 : (0 : Int) ≤ 1 + (b.toNat : Int) := by omega
      have i2 : (1 : Int) ≤ 1 + (b.toNat : Int) := by omega
      have i3 : 1 + (b.toNat : Int) ≤ (q.length : Int) + 1 := by omega
      have i4 : (1 : Int) ≤ (q.length : Int) + 1 := by omega
      go_quiet (fail)
      go_wp2_with fail
      go_ret3
      rw [ext_text, ext_rest]
      exact cutP_yes (by simp only [cutF]; rw [if_neg hb]) (grownBy_drewN (grownBy_refl w none) nq)
theorem part_n {r : List UInt8} (h : cutF r = none) (hr : r.length ≤ 1000000) (w : World) : Calls Tryz.prog 21 #[.string ⟨r.toArray⟩] w fun e w' => e = .returned (.tuple #[.string ⟨#[]⟩, .string ⟨#[]⟩, .bool false]) ∧ w.grownBy w' none :=
  (part_c ⟨r.toArray⟩ w (by simpa [ByteArray.size] using hr)).mono fun e w' h1 => by
    unfold CutP at h1
    rw [show (⟨r.toArray⟩ : ByteArray).data.toList = r from rfl, h] at h1
    exact ⟨h1.2, h1.1⟩
theorem part_y {r a s : List UInt8} (h : cutF r = some (a, s)) (hr : r.length ≤ 1000000) (w : World) : Calls Tryz.prog 21 #[.string ⟨r.toArray⟩] w fun e w' => e = .returned (.tuple #[.string ⟨a.toArray⟩, .string ⟨s.toArray⟩, .bool true]) ∧ w.grownBy w' none :=
  (part_c ⟨r.toArray⟩ w (by simpa [ByteArray.size] using hr)).mono fun e w' h1 => by
    unfold CutP at h1
    rw [show (⟨r.toArray⟩ : ByteArray).data.toList = r from rfl, h] at h1
    exact ⟨h1.2, h1.1⟩
set_option maxHeartbeats 1000000 in
set_option maxRecDepth 100000 in
theorem rsplit_c (k : ByteArray) (w : World) (hk : k.size ≤ 9223372036854775807) : Calls Tryz.prog 8 #[.string k] w (SplitP k w) := by
  by_cases hlong : 255 < k.size
  · have HF := Lib.hid (splitE_long hlong)
    have i1 : (255 : Int) < (k.size : Int) := by omega
    clear hlong
    go_enter Tryz.func8, Tryz.ntmps8
    go_wp2_with fail
    go_ret2
    exact splitP_bad HF.out (by decide) (grownBy_refl _ _)
  have i1 : ¬ (255 : Int) < (k.size : Int) := by omega
  have i2 : (k.size : Int) ≤ 255 := by omega
  have Hl := Lib.hid hlong
  have hkl : k.data.toList.length = k.size := szB k
  clear hlong
  go_enter Tryz.func8, Tryz.ntmps8
  go_upto_region 5 with fail
  go_loopw [5, 4] (fun s5 s4 wk => ∃ (r : List UInt8) (O : List TagR), s5 = .string ⟨r.toArray⟩ ∧ Own tagF 2 76 w.heap.size wk s4 O ∧ splitA O r = splitP k.data.toList ∧ O.length + r.length ≤ 255 ∧ (∀ t ∈ O, TagW t) ∧ w.grownBy wk none) (fun s5 _ _ => match s5 with | .string b => b.size | _ => 0)
  case atStart => exact ⟨k.data.toList, [], rfl, Own.nil _ _ _ _ _, splitA_0 _, by simp; omega, by simp, grownBy_refl _ _⟩
  case round =>
    obtain ⟨r, O, rfl, hO, hA, hOl, hW, hg⟩ := hrel
    have HA := Lib.hid hA
    have HW := Lib.hid hW
    clear hA hW
    obtain ⟨oa, oc, rfl⟩ := hO.shape
    by_cases hr : r = []
    · subst hr
      have HA2 := Lib.hid (show splitP k.data.toList = some O by rw [← HA.out, splitA_nil])
      have CK := Lib.hid (rkeyT_c _ O wr hO.rd HW.out)
      have HO := Lib.hid hO
      have HG := Lib.hid hg
      clear hO hg HA
      by_cases hE : keyE O = 0
      · have hbe := beT_of (keyY O) k
        by_cases hY : keyY O = k
        · obtain ⟨HF1, HF2⟩ := splitE_ok Hl.out HA2.out hE hY
          have HF1 := Lib.hid HF1
          have HF2 := Lib.hid HF2
          rw [decide_eq_true (by rw [hY])] at hbe
          unfold KeyP at CK
          rw [hE] at CK
          generalize keyY O = ky at *
          clear hE hY
          go_wp2_with (go_at_call 22; refine CK.out.mono ?_; rintro e w2 ⟨rfl, g2⟩)
          go_ret2
          exact ⟨_, by rw [HF1.out]; rfl, by rw [HF2.out]; exact HO.out.same g2, grownBy_trans HG.out g2⟩
        · have HF := Lib.hid (splitE_bad Hl.out HA2.out (.inr hY))
          have hY2 : ¬ (keyY O).data.toList = k.data.toList := fun e => hY (ba_eq e ▸ (ba_eq (a := k) rfl).symm ▸ rfl)
          rw [decide_eq_false hY2] at hbe
          unfold KeyP at CK
          rw [hE] at CK
          generalize keyY O = ky at *
          clear hE hY hY2
          go_wp2_with (go_at_call 22; refine CK.out.mono ?_; rintro e w2 ⟨rfl, g2⟩)
          go_ret2
          exact splitP_bad HF.out (by decide) (grownBy_trans HG.out g2)
      · have HF := Lib.hid (splitE_bad Hl.out HA2.out (.inl hE))
        unfold KeyP at CK
        generalize keyY O = ky at *
        generalize keyE O = EE at *
        have he2 : (EE != 0) = true := by simpa using hE
        have he3 : (EE == 0) = false := by simpa using hE
        clear hE
        go_wp2_with (go_at_call 22; refine CK.out.mono ?_; rintro e w2 ⟨rfl, g2⟩)
        go_ret2
        exact splitP_bad HF.out (by decide) (grownBy_trans HG.out g2)
    · have hre : r.isEmpty = false := by cases r <;> simp_all
      have hrl : r.length ≤ 1000000 := by omega
      have HN := Lib.hid hr
      clear hr
      go_upto_region 8 with fail
      have A2 := Blk.new wr #[.string ⟨#[]⟩, .string ⟨#[]⟩] 76
      have O2 := hO.same (World.grownBy_alloc wr (.cells #[.string ⟨#[]⟩, .string ⟨#[]⟩] 76) none)
      have G2 := grownBy_new_block hg (.cells #[.string ⟨#[]⟩, .string ⟨#[]⟩] 76)
      have hlo := fun k hk => (hO.lt k hk).2
      have hz := hg.size
      generalize wr.alloc (.cells #[.string ⟨#[]⟩, .string ⟨#[]⟩] 76) = w2 at *
      generalize wr.heap.size = gk at *
      clear hO hg
      cases h1 : cutF r with
      | none =>
        have HF := Lib.hid (splitE_no Hl.out (by rw [← HA.out]; exact splitA_no HN.out (cut2_no1 h1)))
        have C1 := Lib.hid (part_n h1 hrl w2)
        have AA := Lib.hid fun w' h => A2.same (w' := w') h
        go_upto_region 9 with (go_at_call 21; refine C1.out.mono ?_; rintro e w3 ⟨rfl, g3⟩; have a3 := (AA.out _ g3).cell; have f3 := (AA.out _ g3).free)
        have A4 := (A2.same g3).set_ 0 (.string ⟨#[]⟩) (cs' := #[.string ⟨#[]⟩, .string ⟨#[]⟩]) rfl
        have G4 := grownBy_setNew (p := ⟨gk, 0, none⟩) (grownBy_trans G2 g3) hz (.string ⟨#[]⟩)
        clear O2 A2 AA C1 G2 a3 f3 g3
        generalize w3.setCell ⟨gk, 0, none⟩ (.string ⟨#[]⟩) = w4 at *
        have C1 := Lib.hid (part_n (r := []) rfl (by simp) w4)
        have AA := Lib.hid fun w' h => A4.same (w' := w') h
        go_wp2_with (go_at_call 21; refine C1.out.mono ?_; rintro e w5 ⟨rfl, g5⟩; have a5 := (AA.out _ g5).cell; have f5 := (AA.out _ g5).free)
        go_ret2
        exact splitP_bad HF.out (by decide) (grownBy_setNew (grownBy_trans G4 g5) hz _)
      | some p =>
        obtain ⟨ta, s⟩ := p
        have hsl := cutF_len h1
        have C1 := Lib.hid (part_y h1 hrl w2)
        have AA := Lib.hid fun w' h => A2.same (w' := w') h
        go_upto_region 9 with (go_at_call 21; refine C1.out.mono ?_; rintro e w3 ⟨rfl, g3⟩; have a3 := (AA.out _ g3).cell; have f3 := (AA.out _ g3).free)
        have A4 := (A2.same g3).set_ 0 (.string ⟨ta.toArray⟩) (cs' := #[.string ⟨ta.toArray⟩, .string ⟨#[]⟩]) rfl
        have O4 := (O2.same g3).kept (grownBy_set (grownBy_refl w3 (some gk)) 0 (.string ⟨ta.toArray⟩)) (fun q hq e => by have := hlo q hq; cases e; omega)
        have G4 := grownBy_setNew (p := ⟨gk, 0, none⟩) (grownBy_trans G2 g3) hz (.string ⟨ta.toArray⟩)
        clear O2 A2 AA C1 G2 a3 f3 g3
        generalize w3.setCell ⟨gk, 0, none⟩ (.string ⟨ta.toArray⟩) = w4 at *
        cases h2 : cutF s with
        | none =>
          have HF := Lib.hid (splitE_no Hl.out (by rw [← HA.out]; exact splitA_no HN.out (cut2_no2 h1 h2)))
          have C1 := Lib.hid (part_n h2 (by omega) w4)
          have AA := Lib.hid fun w' h => A4.same (w' := w') h
          go_wp2_with (go_at_call 21; refine C1.out.mono ?_; rintro e w5 ⟨rfl, g5⟩; have a5 := (AA.out _ g5).cell; have f5 := (AA.out _ g5).free)
          go_ret2
          exact splitP_bad HF.out (by decide) (grownBy_setNew (grownBy_trans G4 g5) hz _)
        | some p =>
          obtain ⟨tb, u⟩ := p
          have hul := cutF_len h2
          have C1 := Lib.hid (part_y h2 (by omega) w4)
          have AA := Lib.hid fun w' h => A4.same (w' := w') h
          have HS := Lib.hid (splitA_yes (L := O) HN.out (cut2_yes h1 h2))
          go_upto_region 10 with (go_at_call 21; refine C1.out.mono ?_; rintro e w5 ⟨rfl, g5⟩; have a5 := (AA.out _ g5).cell; have f5 := (AA.out _ g5).free)
          have A6 := (A4.same g5).set_ 1 (.string ⟨tb.toArray⟩) (cs' := #[.string ⟨ta.toArray⟩, .string ⟨tb.toArray⟩]) rfl
          have O6 := (O4.same g5).kept (grownBy_set (grownBy_refl w5 (some gk)) 1 (.string ⟨tb.toArray⟩)) (fun q hq e => by have := hlo q hq; cases e; omega)
          have G6 := grownBy_setNew (p := ⟨gk, 1, none⟩) (grownBy_trans G4 g5) hz (.string ⟨tb.toArray⟩)
          clear O4 A4 AA C1 G4 a5 f5 g5
          generalize w5.setCell ⟨gk, 1, none⟩ (.string ⟨tb.toArray⟩) = w6 at *
          have a6 := A6.cell
          have hb1 : (O.length + 1) * 32 ≤ 140737488355328 := by omega
          have hb2 : O.length + 1 ≤ 9223372036854775807 := by omega
          have hz6 := G6.size
          have hta : ta.length ≤ 255 := by omega
          have htb : tb.length ≤ 255 := by omega
          have HTw := Lib.hid (show TagW ⟨⟨ta.toArray⟩, ⟨tb.toArray⟩⟩ from ⟨by show ta.toArray.size ≤ _; simp; omega, by show tb.toArray.size ≤ _; simp; omega⟩)
          have HOl := Lib.hid (show (O ++ [(⟨⟨ta.toArray⟩, ⟨tb.toArray⟩⟩ : TagR)]).length + u.length ≤ 255 by simp; omega)
          have HUl := Lib.hid (show u.length < r.length by omega)
          go_wp2_with (at_builtin; refine app_one elt_tag one_tag tagF_len O6 ⟨⟨ta.toArray⟩, ⟨tb.toArray⟩⟩ hb1 hb2 hz6 (by rfl) (by rfl) _ _ (by rfl) (by rfl) (by rfl) ?_; intro v7 w7 o7 g7 l7)
          refine ⟨⟨u, _, rfl, o7, by rw [← HS.out, HA.out], HOl.out, ?_, grown_own G6 O6 (Nat.le_refl _) g7⟩, ?_⟩
          · intro t ht
            rcases List.mem_append.1 ht with ht | ht
            · exact HW.out t ht
            · rw [List.mem_singleton.1 ht]; exact HTw.out
          · show u.toArray.size < r.toArray.size
            simpa using HUl.out
end Go.Proofs.YtkdbapbmbhmaiaaGreat

/- The law QueryCanonical: its walk. -/
namespace Go.Proofs.YtkdbapbmbhmaiaaGreat
open Go.RowKit Go.Sort
attribute [local go_sem ↓] exec_load_cfg
attribute [local go_sem] run_loadCfgS

abbrev tQ : TagR := ⟨⟨#[97]⟩, ⟨#[]⟩⟩
abbrev kQ : ByteArray := ⟨#[1, 97, 0]⟩
theorem keyE_Q : keyE [tQ] = 0 := by decide
theorem key_Q : keyY [tQ] = kQ := by unfold keyY; rw [if_pos keyE_Q]; rfl
theorem split_Q : splitE kQ = 0 := by
  refine (splitE_ok (L := [tQ]) (by decide) ?_ keyE_Q key_Q).1
  show splitP [1, 97, 0] = _
  rw [splitP_yes (t := tQ) (s := []) (by simp) rfl, splitP_nil]; rfl
theorem split_bad : splitE ⟨#[97]⟩ = 3 := splitE_no (by decide) (splitP_no (by decide) rfl)
/-- A cluster of the configuration of no numbers. -/
theorem rd_nil (w : World) : Rd w 1 (.slice none 0 0) 0 (([] : List Int).map (fun x => Value.int .i64 x)) := ⟨by simp, by simp, .inl ⟨rfl, _, _, rfl⟩⟩
set_option maxHeartbeats 1000000 in
set_option maxRecDepth 100000 in
theorem awake31_c (w : World) : Calls Tryz.prog 4 #[] w (RetBool true w) := by
  go_enter Tryz.func4, Tryz.ntmps4
  go_upto_region 2 with (first
    | (go_at_call 6; refine (new_c (.slice none 0 0) 0 [] _ (rd_nil _)).mono ?_; rintro e w1 ⟨rfl, D1, G1⟩)
    | (go_at_call 7; refine (config4_c _ _ D1 (Nat.le_refl _)).mono ?_; rintro e w2 ⟨c, l, t, rfl, N2, M2, _, G2, _, _, _, F2⟩; replace G2 := grownBy_new G1 G2 (Nat.le_refl _))
    | (go_at_call 5; refine (cluNew_c c l t _ N2 M2 F2).mono ?_; rintro e w3 ⟨ck, g, ga, gp, vs, vl, sl, rfl, C3, hsl, _, G3⟩; replace G3 := grownBy_trans G2 G3; clear G2 G1 D1))
  have HC := Lib.hid C3
  have HA1 := Lib.hid fun y (q : w3.grownBy y none) => askNew_c kQ y (HC.out.same q) hsl (by decide)
  have HA2 := Lib.hid fun y (q : w3.grownBy y none) => askNew_c ⟨#[97]⟩ y (HC.out.same q) hsl (by decide)
  rw [split_Q] at HA1
  rw [split_bad] at HA2
  clear C3 N2 M2 F2 hsl
  go_upto_region 3 with (go_at_call 9; refine (HA1.out _ (grownBy_refl _ _)).mono ?_; rintro e w4 ⟨rfl, g4⟩)
  have A5 := Blk.new w4 #[.int .u64 0, .int .u64 0, .bool false, .int .u64 0] 41
  have g5 := grownBy_new_block g4 (.cells #[.int .u64 0, .int .u64 0, .bool false, .int .u64 0] 41)
  clear HA1 g4
  generalize w4.alloc (.cells #[.int .u64 0, .int .u64 0, .bool false, .int .u64 0] 41) = w5 at *
  generalize w4.heap.size = b5 at *
  go_upto_region 4 with (go_at_call 9; refine (HA2.out _ g5).mono ?_; rintro e w6 ⟨rfl, g6⟩)
  have A7 := (A5.same g6).same (World.grownBy_alloc w6 (.cells #[.int .u64 0, .int .u64 0, .bool false, .int .u64 0] 41) none)
  have g7 := grownBy_new_block (grownBy_trans g5 g6) (.cells #[.int .u64 0, .int .u64 0, .bool false, .int .u64 0] 41)
  clear HA2 A5 g5 g6
  generalize w6.alloc (.cells #[.int .u64 0, .int .u64 0, .bool false, .int .u64 0] 41) = w7 at *
  generalize w6.heap.size = b7 at *
  go_upto_region 5 with (go_at_call 9; refine (askNil_c kQ 0 _).mono ?_; rintro e w8 ⟨rfl, g8⟩)
  have A9 := (A7.same g8).same (World.grownBy_alloc w8 (.cells #[.int .u64 0, .int .u64 0, .bool false, .int .u64 0] 41) none)
  have g9 := grownBy_trans G3 (grownBy_new_block (grownBy_trans g7 g8) (.cells #[.int .u64 0, .int .u64 0, .bool false, .int .u64 0] 41))
  clear A7 g7 g8 HC G3
  generalize w8.alloc (.cells #[.int .u64 0, .int .u64 0, .bool false, .int .u64 0] 41) = w9 at *
  generalize w8.heap.size = b9 at *
  have a9 := A9.cell
  go_wp2_with fail
  go_ret
  exact retBool rfl g9

set_option maxHeartbeats 1000000 in
set_option maxRecDepth 100000 in
theorem qcan_w (k : ByteArray) (w : World) (hk : k.size ≤ 9223372036854775807) : Calls Tryz.prog 3 #[.string k] w (RetBool true w) := by
  by_cases hl : 300 < k.size
  · have hl2 : (300 : Int) < (k.size : Int) := by omega
    go_enter Tryz.func3, Tryz.ntmps3
    go_wp2_with (go_at_call 4; refine (awake31_c _).mono ?_; rintro e w6 ⟨rfl, G6⟩)
    go_ret
    exact retBool rfl G6
  have hl2 : ¬ (300 : Int) < (k.size : Int) := by omega
  have HR := Lib.hid fun w => (rsplit_c k w hk).mono (R' := fun e w' => ∃ v, e = .returned (.tuple #[v, .int .i64 (splitE k)]) ∧ w.grownBy w' none) fun e w' ⟨v, h1, _, h3⟩ => ⟨v, h1, h3⟩
  have HA := Lib.hid fun B c l t g ga gp vs vl sl y (h : CluNew B y c l t g ga gp vs vl sl) (hsl : (sl.length : Int) = c.Shards) => askNew_c k y h hsl hk
  generalize splitE k = E at *
  go_enter Tryz.func3, Tryz.ntmps3
  go_upto_region 4 with (first
    | (go_at_call 6; refine (new_c (.slice none 0 0) 0 [] _ (rd_nil _)).mono ?_; rintro e w1 ⟨rfl, D1, G1⟩)
    | (go_at_call 7; refine (config4_c _ _ D1 (Nat.le_refl _)).mono ?_; rintro e w2 ⟨c, l, t, rfl, N2, M2, _, G2, _, _, _, F2⟩; replace G2 := grownBy_new G1 G2 (Nat.le_refl _))
    | (go_at_call 5; refine (cluNew_c c l t _ N2 M2 F2).mono ?_; rintro e w3 ⟨ck, g, ga, gp, vs, vl, sl, rfl, C3, hsl, _, G3⟩; replace G3 := grownBy_trans G2 G3; clear G2 G1 D1))
  have HC := Lib.hid C3
  have Hsl := Lib.hid hsl
  clear C3 N2 M2 F2 hsl
  go_upto_region 5 with (go_at_call 8; refine (HR.out _).mono ?_; rintro e w4 ⟨v4, rfl, g4⟩)
  go_upto_region 6 with (go_at_call 9; refine (HA.out _ _ _ _ _ _ _ _ _ _ _ (HC.out.same g4) Hsl.out).mono ?_; rintro e w5 ⟨rfl, g5⟩)
  have g9 := grownBy_new_block (grownBy_trans G3 (grownBy_trans g4 g5)) (.cells #[.int .u64 0, .int .u64 0, .bool false, .int .u64 0] 41)
  generalize w5.alloc (.cells #[.int .u64 0, .int .u64 0, .bool false, .int .u64 0] 41) = w9 at *
  go_wp2_with (go_at_call 4; refine (awake31_c _).mono ?_; rintro e w6 ⟨rfl, G6⟩)
  go_ret
  exact retBool rfl (grownBy_trans g9 G6)
end Go.Proofs.YtkdbapbmbhmaiaaGreat

/- Arguments that come in: slices of ints. -/
namespace Go.Proofs.YtkdbapbmbhmaiaaGreat
open Go.RowKit

theorem own : ownKnob Tryz.prog.godebug = none := by kernel_rfl
theorem laidOut : laidOutB Tryz.prog = true := by kernel_rfl

/-- A slice of integers that came in: it is nil; or it leads to a row of 'cap' cells, the numbers 'zs' (the first 'len' are its elements), each fitting its kind. -/
def IsRow (k : IntKind) (w : World) (a : Option Addr) (len cap : Nat) (zs : List Int) : Prop :=
  (a = none ∧ len = 0 ∧ cap = 0 ∧ zs = []) ∨
  ∃ x, a = some x ∧ len ≤ cap ∧ cap ≤ maxLen ∧ zs.length = cap ∧ (∀ i, i < zs.length → w.cell? (x.add i) = some (.int k (zs.getD i 0))) ∧ ∀ n ∈ zs, (Lit.int k n).wf = true

theorem IsRow.rd {k : IntKind} {w : World} {a : Option Addr} {len cap : Nat} {zs : List Int} (h : IsRow k w a len cap zs) : Rd w 1 (.slice a len cap) len ((zs.take len).map (fun x => Value.int k x)) := by
  rcases h with ⟨rfl, rfl, rfl, rfl⟩ | ⟨x, rfl, h1, h2, h3, h4, h5⟩
  · exact ⟨by simp, by omega, .inl ⟨rfl, _, _, rfl⟩⟩
  · have hm : len ≤ 9223372036854775807 := by unfold maxLen at h2; omega
    rcases Nat.eq_zero_or_pos len with rfl | h0
    · exact ⟨by simp, by omega, .inl ⟨rfl, _, _, rfl⟩⟩
    · obtain ⟨b, off, spot⟩ := x
      have hc := h4 0 (by omega)
      cases spot with
      | some s =>
        exfalso
        unfold Addr.add at hc
        simp [World.cell?] at hc
        split at hc <;> simp_all
      | none =>
        refine ⟨by simp; omega, hm, .inr ⟨b, off, cap, rfl, block_lt_of_cell hc, fun j u hu => ?_⟩⟩
        have hj : j < len := by
          have := (List.getElem?_eq_some_iff.1 hu).1
          simp at this; omega
        have := h4 j (by omega)
        have ha : (⟨b, off, none⟩ : Addr).add j = ⟨b, off + j, none⟩ := by unfold Addr.add; split <;> simp_all
        rw [ha] at this
        rw [this, ← hu]
        simp [hj, List.getElem?_eq_getElem (show j < zs.length by omega)]
end Go.Proofs.YtkdbapbmbhmaiaaGreat
