/- Several texts in one file; each begins with a comment that says what is proved in it. -/
import Derived.Test.YtkdbapbmbhmaiaaBunAH
import Derived.Test.YtkdbapbmbhmaiaaBunAD
import Derived.OwnWalk
import Derived.Test.YtkdbapbmbhmaiaaBunAC
import Derived.Test.YtkdbapbmbhmaiaaBunAG
import Derived.Test.YtkdbapbmbhmaiaaBunAF
import Derived.Test.YtkdbapbmbhmaiaaBunAA
import Derived.Test.YtkdbapbmbhmaiaaShelf
import Derived.Shelf.SlIter.Keys
import Derived.Shelf.SlIter.Sorted
import Derived.Shelf.AbstractIn
import Derived.StringKeys

/- The program's key of tags: for all tags as the reference's. -/
namespace Go.Proofs.Ytkdbapbmbhmaiaa
open Go.RowKit Go.Sort

/-- What stands while the bytes of a tag are put behind the others: the bytes, the tag's block. -/
structure KyS (w0 : World) (gk : Nat) (x : TagR) (v : Value) (l : List UInt8) (w : World) : Prop where
  own : Own byF 1 5 w0.heap.size w v l
  blk : Blk w gk #[.string x.name, .string x.value]
  G : w0.grownBy w none
  ne : ∀ k, v.ownBlock = some k → k ≠ gk
theorem own_ne_blk {B gk : Nat} {w : World} {v : Value} {l : List UInt8} {s : ByteArray} (h : Own byF 1 5 B w v l) (hl : 0 < l.length) (hA : w.cell? ⟨gk, 0, none⟩ = some (.string s)) : ∀ k, v.ownBlock = some k → k ≠ gk := by
  obtain ⟨g, cap, rfl, -, -, -, hcx, -⟩ := h.at_ byF_len hl
  intro k hk e
  have c0 := hcx 0 _ rfl
  have : g = k := by simpa [Value.ownBlock] using hk
  subst this
  subst e
  rw [Nat.zero_mul, Nat.add_zero, hA] at c0
  cases c0
section
variable {w0 w w' : World} {gk : Nat} {x : TagR} {v v' : Value} {l l' : List UInt8}
theorem KyS.grown (h : KyS w0 gk x v l w) (hg : w.grownBy w' v.ownBlock) : w0.grownBy w' none := grown_own h.G h.own (Nat.le_refl _) hg
theorem KyS.next (h : KyS w0 gk x v l w) (o : Own byF 1 5 w0.heap.size w' v' l') (hl : 0 < l'.length) (hg : w.grownBy w' v.ownBlock) : KyS w0 gk x v' l' w' := by
  have hb := h.blk.kept hg (fun e => h.ne gk e rfl)
  exact ⟨o, hb, h.grown hg, own_ne_blk o hl (by rw [hb.cell]; rfl)⟩
end
theorem szB (s : ByteArray) : s.data.toList.length = s.size := Array.length_toList

set_option maxHeartbeats 1000000 in
set_option maxRecDepth 100000 in
theorem tkey_c (v : Value) (L : List TagR) (w : World) (h : RdL tagF 2 w v L) (hW : ∀ t ∈ L, TagW t) : Calls Try.prog 48 #[v] w (KeyP L w) := by
  obtain ⟨a, c, rfl⟩ := h.shape
  have C := Lib.hid (tsort_c _ L w h hW)
  have HK := Lib.hid (show keyE L = if sortE L ≠ 0 then sortE L else if 255 < (kyB (sortT L)).length then 4 else 0 from rfl)
  have HY := Lib.hid (show keyY L = if keyE L = 0 then ⟨(kyB (sortT L)).toArray⟩ else ⟨#[]⟩ from rfl)
  have H0 := Lib.hid (sortE_0 (L := L))
  have Hlen := Lib.hid (sortT_len L)
  have HM := Lib.hid (sortT_mem L)
  clear h hW
  go_enter Try.func48, Try.ntmps48
  by_cases hE : sortE L = 0
  · have C2 := C.out
    unfold SortP at C2
    rw [hE, if_pos rfl] at C2
    have C3 := Lib.hid C2
    obtain ⟨h0, h8, ht, -⟩ := H0.out hE
    have HK2 := Lib.hid (HK.out.trans (if_neg (by omega)))
    have HT := Lib.hid (fun t h => tagE_ok (ht t ((HM.out t).1 h)) : ∀ t ∈ sortT L, _)
    clear C C2 HK H0 HM ht hE
    generalize sortT L = S at *
    have hSl : (S.length : Int) ≤ 8 := by have := Hlen.out; omega
    go_upto_region 6 with (go_at_call 58; refine C3.out.mono ?_; rintro e w2 ⟨v2, rfl, o2, g2⟩; obtain ⟨a2, c2, rfl⟩ := o2.shape)
    have HO := Lib.hid o2
    have HG := Lib.hid g2
    clear o2 g2
    go_loopw [19, 6] (fun s19 s6 wk => ∃ (k : Nat), k ≤ S.length ∧ s19 = .int .i64 k ∧ Own byF 1 5 w2.heap.size wk s6 (kyB (S.take k)) ∧ (kyB (S.take k)).length ≤ 98 * k ∧ w2.grownBy wk none) (fun s19 _ _ => S.length - (intOf s19).toNat)
    case atStart => exact ⟨0, Nat.zero_le _, rfl, Own.nil _ _ _ _ _, by simp [kyB], grownBy_refl _ _⟩
    case round =>
      obtain ⟨k, hk, rfl, hO, hOl, hg⟩ := hrel
      by_cases hlt : k < S.length
      · obtain ⟨gx, ox, cx, hv, hgx, hcx⟩ := (RdL.same HO.out.rd hg).at_ tagF_len hlt
        cases hv
        have c0 := hcx 0 _ rfl
        have c1 := hcx 1 _ rfl
        rw [Nat.add_zero] at c0
        obtain ⟨-, -, hn32, hv64⟩ := HT.out _ (List.getElem_mem hlt)
        have HS := Lib.hid (show kyB (S.take (k + 1)) = kyB (S.take k) ++ tkB S[k] by rw [List.take_succ_eq_append_getElem hlt, kyB_snoc])
        clear hcx
        generalize S[k] = x at *
        generalize kyB (S.take k) = O at *
        have hw1 := by_len (n := x.name.size)
        have hw2 := by_len (n := x.value.size)
        have HB := Lib.hid (show tkB x = UInt8.ofNat x.name.size :: nmB x ++ (UInt8.ofNat x.value.size :: vlB x) from rfl)
        obtain ⟨b1, hb1⟩ : ∃ b, UInt8.ofNat x.name.size = b := ⟨_, rfl⟩
        obtain ⟨b2, hb2⟩ : ∃ b, UInt8.ofNat x.value.size = b := ⟨_, rfl⟩
        rw [hb1] at hw1 HB
        rw [hb2] at hw2 HB
        clear hb1 hb2
        have Hcs1 := Lib.hid (show (#[Value.int .u8 (b1.toNat : Int)] : Array Value).toList = byF b1 from rfl)
        have Hcs2 := Lib.hid (show (#[Value.int .u8 (b2.toNat : Int)] : Array Value).toList = byF b2 from rfl)
        obtain ⟨oa, oc, rfl⟩ := hO.shape
        have hol := hO.lt
        go_upto_region 8 with fail
        have S0 : KyS w2 wr.heap.size x (.slice oa O.length oc) O (wr.alloc (.cells #[.string x.name, .string x.value] 43)) :=
          ⟨hO.same (World.grownBy_alloc _ _ _), Blk.new _ _ _, grownBy_new_block hg _, fun k hk e => by have := (hol k hk).2; omega⟩
        generalize wr.alloc (.cells #[.string x.name, .string x.value] 43) = e0 at *
        generalize wr.heap.size = gk at *
        clear hO hol hg c0 c1 hgx
        have a0 := S0.blk.cell
        have hb1 : (O.length + 1) * 1 ≤ 140737488355328 := by omega
        have hb2 : O.length + 1 ≤ 9223372036854775807 := by omega
        have hz := S0.G.size
        go_upto_region 9 with (at_builtin; refine app_one elt_by one_by byF_len S0.own b1 hb1 hb2 hz Hcs1.out (by rfl) _ _ (by rfl) (by rfl) (by rfl) ?_; intro v3 e1 o3 g3 l3)
        have S1 := S0.next o3 (by simp) g3
        clear S0 a0 o3 g3 l3 hb1 hb2 hz
        have hL1 : (O ++ [b1]).length = O.length + 1 := by simp
        generalize hO1 : O ++ [b1] = O1 at *
        have HE1 := Lib.hid hO1.symm
        clear hO1
        obtain ⟨oa1, oc1, rfl⟩ := S1.own.shape
        have a0 := S1.blk.cell
        have hb1 : O1.length + x.name.size ≤ 140737488355328 := by omega
        have hz := S1.G.size
        go_upto_region 10 with (at_builtin; refine app_str S1.own x.name hb1 hz (by rfl) _ _ (by rfl) (by rfl) (by rfl) ?_; intro v4 e2 o4 g4)
        have S2 := S1.next o4 (by simp; omega) g4
        have hL2 : (O1 ++ x.name.data.toList).length = O1.length + x.name.size := by rw [List.length_append, szB]
        have HE2 := Lib.hid (show O1 ++ x.name.data.toList = O1 ++ nmB x from rfl)
        clear S1 a0 o4 g4 hb1 hz
        generalize O1 ++ x.name.data.toList = O2 at *
        obtain ⟨oa2, oc2, rfl⟩ := S2.own.shape
        have a0 := S2.blk.cell
        have hb1 : (O2.length + 1) * 1 ≤ 140737488355328 := by omega
        have hb2 : O2.length + 1 ≤ 9223372036854775807 := by omega
        have hz := S2.G.size
        go_upto_region 11 with (at_builtin; refine app_one elt_by one_by byF_len S2.own b2 hb1 hb2 hz Hcs2.out (by rfl) _ _ (by rfl) (by rfl) (by rfl) ?_; intro v5 e3 o5 g5 l5)
        have S3 := S2.next o5 (by simp) g5
        have hL3 : (O2 ++ [b2]).length = O2.length + 1 := by simp
        have HE3 := Lib.hid (show O2 ++ [b2] = O2 ++ [b2] from rfl)
        clear S2 a0 o5 g5 l5 hb1 hb2 hz
        generalize hO3 : O2 ++ [b2] = O3 at *
        replace HE3 := Lib.hid hO3
        clear hO3
        obtain ⟨oa3, oc3, rfl⟩ := S3.own.shape
        have a0 := S3.blk.cell
        have hb1 : O3.length + x.value.size ≤ 140737488355328 := by omega
        have hz := S3.G.size
        go_upto_region 12 with (at_builtin; refine app_str S3.own x.value hb1 hz (by rfl) _ _ (by rfl) (by rfl) (by rfl) ?_; intro v6 e4 o6 g6)
        have o6' := Lib.hid o6
        have G6 := S3.grown g6
        have hL4 : (O3 ++ x.value.data.toList).length = O3.length + x.value.size := by rw [List.length_append, szB]
        have HEQ := Lib.hid (show O3 ++ x.value.data.toList = kyB (S.take (k + 1)) by rw [HS.out, HB.out, ← HE3.out, HE2.out, HE1.out]; simp [vlB])
        clear S3 a0 o6 g6 hb1 hz
        go_wp2_with fail
        exact ⟨⟨k + 1, by omega, by go_num, by rw [← HEQ.out]; exact o6'.out, by rw [← HEQ.out, hL4]; omega, G6⟩, by simp [intOf]; omega⟩
      · have hke : S.take k = S := List.take_of_length_le (by omega)
        rw [hke] at hO hOl
        generalize kyB S = OO at *
        obtain ⟨oa, oc, rfl⟩ := hO.shape
        have hcv := conv_by hO.rd
        clear hke
        by_cases hlong : 255 < OO.length
        · have j1 : (255 : Int) < (OO.length : Int) := by omega
          have HF := Lib.hid (show keyE L = 4 by rw [HK2.out, if_pos hlong])
          clear hlong hcv
          go_wp2_with fail
          go_ret2
          exact ⟨by rw [HF.out, HY.out, HF.out]; rfl, grownBy_trans HG.out hg⟩
        · have j1 : (OO.length : Int) ≤ 255 := by omega
          have HF := Lib.hid (show keyE L = 0 by rw [HK2.out, if_neg hlong])
          have HQ := Lib.hid (show keyY L = ⟨OO.toArray⟩ by rw [HY.out, HF.out, if_pos rfl])
          clear hlong
          go_wp2_with fail
          go_ret2
          exact ⟨by rw [HF.out, HQ.out]; rfl, grownBy_trans HG.out hg⟩
  · have C2 := C.out
    unfold SortP at C2
    have HF := Lib.hid (HK.out.trans (if_pos hE))
    have HF2 := Lib.hid (show keyY L = ⟨#[]⟩ by rw [HY.out, HF.out, if_neg hE])
    generalize sortE L = EE at *
    rw [if_neg hE] at C2
    have C3 := Lib.hid C2
    have he2 : (EE != 0) = true := by simpa using hE
    have he3 : (EE == 0) = false := by simpa using hE
    clear C C2 HK H0 HM hE
    go_wp2_with (go_at_call 58; refine C3.out.mono ?_; rintro e w2 ⟨v2, rfl, o2, g2⟩; obtain ⟨a2, c2, rfl⟩ := o2.shape)
    go_ret2
    exact ⟨by rw [HF.out, HF2.out]; rfl, g2⟩
end Go.Proofs.Ytkdbapbmbhmaiaa

/- The program's tags of a key. -/
namespace Go.Proofs.Ytkdbapbmbhmaiaa
open Go.RowKit Go.Sort

def SplitP (k : ByteArray) (w : World) (e : Ending) (w' : World) : Prop := ∃ v, e = .returned (.tuple #[v, .int .i64 (splitE k)]) ∧ Own tagF 2 43 w.heap.size w' v (splitL k) ∧ w.grownBy w' none
theorem splitP_bad {k : ByteArray} {w w' : World} {E : Int} (h : splitE k = E) (h0 : E ≠ 0) (hg : w.grownBy w' none) : SplitP k w (.returned (.tuple #[.slice none 0 0, .int .i64 E])) w' :=
  ⟨_, by rw [h], by unfold splitL; rw [if_neg (by omega)]; exact Own.nil _ _ _ _ _, hg⟩
theorem cut_n {r : List UInt8} (h : cutF r = none) (hr : r.length ≤ 1000000) (w : World) : Calls Try.prog 47 #[.string ⟨r.toArray⟩] w fun e w' => e = .returned (.tuple #[.string ⟨#[]⟩, .string ⟨#[]⟩, .bool false]) ∧ w.grownBy w' none :=
  (cut_c ⟨r.toArray⟩ w (by simpa [ByteArray.size] using hr)).mono fun e w' h1 => by
    unfold CutP at h1
    rw [show (⟨r.toArray⟩ : ByteArray).data.toList = r from rfl, h] at h1
    exact ⟨h1.2, h1.1⟩
theorem cut_y {r a s : List UInt8} (h : cutF r = some (a, s)) (hr : r.length ≤ 1000000) (w : World) : Calls Try.prog 47 #[.string ⟨r.toArray⟩] w fun e w' => e = .returned (.tuple #[.string ⟨a.toArray⟩, .string ⟨s.toArray⟩, .bool true]) ∧ w.grownBy w' none :=
  (cut_c ⟨r.toArray⟩ w (by simpa [ByteArray.size] using hr)).mono fun e w' h1 => by
    unfold CutP at h1
    rw [show (⟨r.toArray⟩ : ByteArray).data.toList = r from rfl, h] at h1
    exact ⟨h1.2, h1.1⟩
theorem ba_cons (b : UInt8) (q : List UInt8) : (⟨(b :: q).toArray⟩ : ByteArray).toList = b :: q := by rw [ByteArray.toList_eq]
theorem cut2_no1 {r : List UInt8} (h : cutF r = none) : cut2 r = none := by unfold cut2; rw [h]
theorem cut2_no2 {r a s : List UInt8} (h : cutF r = some (a, s)) (h2 : cutF s = none) : cut2 r = none := by unfold cut2; rw [h]; simp only; rw [h2]
theorem cut2_yes {r a s b u : List UInt8} (h : cutF r = some (a, s)) (h2 : cutF s = some (b, u)) : cut2 r = some (⟨⟨a.toArray⟩, ⟨b.toArray⟩⟩, u) := by unfold cut2; rw [h]; simp only; rw [h2]
theorem cutF_len {r a s : List UInt8} (h : cutF r = some (a, s)) : a.length + s.length + 1 = r.length := by
  obtain ⟨b, rfl, _⟩ := cutF_app h
  simp

set_option maxHeartbeats 1000000 in
set_option maxRecDepth 100000 in
theorem tsplit_c (k : ByteArray) (w : World) (hk : k.size ≤ 9223372036854775807) : Calls Try.prog 29 #[.string k] w (SplitP k w) := by
  by_cases hlong : 255 < k.size
  · have HF := Lib.hid (splitE_long hlong)
    have i1 : (255 : Int) < (k.size : Int) := by omega
    clear hlong
    go_enter Try.func29, Try.ntmps29
    go_wp2_with fail
    go_ret2
    exact splitP_bad HF.out (by decide) (grownBy_refl _ _)
  have i1 : ¬ (255 : Int) < (k.size : Int) := by omega
  have i2 : (k.size : Int) ≤ 255 := by omega
  have Hl := Lib.hid hlong
  have hkl : k.data.toList.length = k.size := szB k
  clear hlong
  go_enter Try.func29, Try.ntmps29
  go_upto_region 5 with fail
  go_loopw [5, 4] (fun s5 s4 wk => ∃ (r : List UInt8) (O : List TagR), s5 = .string ⟨r.toArray⟩ ∧ Own tagF 2 43 w.heap.size wk s4 O ∧ splitA O r = splitP k.data.toList ∧ O.length + r.length ≤ 255 ∧ (∀ t ∈ O, TagW t) ∧ w.grownBy wk none) (fun s5 _ _ => match s5 with | .string b => b.size | _ => 0)
  case atStart => exact ⟨k.data.toList, [], rfl, Own.nil _ _ _ _ _, splitA_0 _, by simp; omega, by simp, grownBy_refl _ _⟩
  case round =>
    obtain ⟨r, O, rfl, hO, hA, hOl, hW, hg⟩ := hrel
    have HA := Lib.hid hA
    have HW := Lib.hid hW
    clear hA hW
    obtain ⟨oa, oc, rfl⟩ := hO.shape
    by_cases hr : r = []
    · subst hr
      have HA2 := Lib.hid (show splitP k.data.toList = some O by rw [← HA.out, splitA_nil])
      have CK := Lib.hid (tkey_c _ O wr hO.rd HW.out)
      have HO := Lib.hid hO
      have HG := Lib.hid hg
      clear hO hg HA
      by_cases hE : keyE O = 0
      · have hbe := beT_of (keyY O) k
        by_cases hY : keyY O = k
        · obtain ⟨HF1, HF2⟩ := splitE_ok Hl.out HA2.out hE hY
          have HF1 := Lib.hid HF1
          have HF2 := Lib.hid HF2
          rw [decide_eq_true (by rw [hY])] at hbe
          unfold KeyP at CK
          rw [hE] at CK
          generalize keyY O = ky at *
          clear hE hY
          go_wp2_with (go_at_call 48; refine CK.out.mono ?_; rintro e w2 ⟨rfl, g2⟩)
          go_ret2
          exact ⟨_, by rw [HF1.out]; rfl, by rw [HF2.out]; exact HO.out.same g2, grownBy_trans HG.out g2⟩
        · have HF := Lib.hid (splitE_bad Hl.out HA2.out (.inr hY))
          have hY2 : ¬ (keyY O).data.toList = k.data.toList := fun e => hY (ba_eq e ▸ (ba_eq (a := k) rfl).symm ▸ rfl)
          rw [decide_eq_false hY2] at hbe
          unfold KeyP at CK
          rw [hE] at CK
          generalize keyY O = ky at *
          clear hE hY hY2
          go_wp2_with (go_at_call 48; refine CK.out.mono ?_; rintro e w2 ⟨rfl, g2⟩)
          go_ret2
          exact splitP_bad HF.out (by decide) (grownBy_trans HG.out g2)
      · have HF := Lib.hid (splitE_bad Hl.out HA2.out (.inl hE))
        unfold KeyP at CK
        generalize keyY O = ky at *
        generalize keyE O = EE at *
        have he2 : (EE != 0) = true := by simpa using hE
        have he3 : (EE == 0) = false := by simpa using hE
        clear hE
        go_wp2_with (go_at_call 48; refine CK.out.mono ?_; rintro e w2 ⟨rfl, g2⟩)
        go_ret2
        exact splitP_bad HF.out (by decide) (grownBy_trans HG.out g2)
    · have hre : r.isEmpty = false := by cases r <;> simp_all
      have hrl : r.length ≤ 1000000 := by omega
      have HN := Lib.hid hr
      clear hr
      go_upto_region 8 with fail
      have A2 := Blk.new wr #[.string ⟨#[]⟩, .string ⟨#[]⟩] 43
      have O2 := hO.same (World.grownBy_alloc wr (.cells #[.string ⟨#[]⟩, .string ⟨#[]⟩] 43) none)
      have G2 := grownBy_new_block hg (.cells #[.string ⟨#[]⟩, .string ⟨#[]⟩] 43)
      have hlo := fun k hk => (hO.lt k hk).2
      have hz := hg.size
      generalize wr.alloc (.cells #[.string ⟨#[]⟩, .string ⟨#[]⟩] 43) = w2 at *
      generalize wr.heap.size = gk at *
      clear hO hg
      cases h1 : cutF r with
      | none =>
        have HF := Lib.hid (splitE_no Hl.out (by rw [← HA.out]; exact splitA_no HN.out (cut2_no1 h1)))
        have C1 := Lib.hid (cut_n h1 hrl w2)
        have AA := Lib.hid fun w' h => A2.same (w' := w') h
        go_wp2_with (go_at_call 47; refine C1.out.mono ?_; rintro e w3 ⟨rfl, g3⟩; have a3 := (AA.out _ g3).cell; have f3 := (AA.out _ g3).free)
        go_ret2
        exact splitP_bad HF.out (by decide) (grownBy_setNew (grownBy_trans G2 g3) hz _)
      | some p =>
        obtain ⟨ta, s⟩ := p
        have hsl := cutF_len h1
        have C1 := Lib.hid (cut_y h1 hrl w2)
        have AA := Lib.hid fun w' h => A2.same (w' := w') h
        go_upto_region 11 with (go_at_call 47; refine C1.out.mono ?_; rintro e w3 ⟨rfl, g3⟩; have a3 := (AA.out _ g3).cell; have f3 := (AA.out _ g3).free)
        have A4 := (A2.same g3).set_ 0 (.string ⟨ta.toArray⟩) (cs' := #[.string ⟨ta.toArray⟩, .string ⟨#[]⟩]) rfl
        have O4 := (O2.same g3).kept (grownBy_set (grownBy_refl w3 (some gk)) 0 (.string ⟨ta.toArray⟩)) (fun q hq e => by have := hlo q hq; cases e; omega)
        have G4 := grownBy_setNew (p := ⟨gk, 0, none⟩) (grownBy_trans G2 g3) hz (.string ⟨ta.toArray⟩)
        clear O2 A2 AA C1 G2 a3 f3 g3
        generalize w3.setCell ⟨gk, 0, none⟩ (.string ⟨ta.toArray⟩) = w4 at *
        cases h2 : cutF s with
        | none =>
          have HF := Lib.hid (splitE_no Hl.out (by rw [← HA.out]; exact splitA_no HN.out (cut2_no2 h1 h2)))
          have C1 := Lib.hid (cut_n h2 (by omega) w4)
          have AA := Lib.hid fun w' h => A4.same (w' := w') h
          go_wp2_with (go_at_call 47; refine C1.out.mono ?_; rintro e w5 ⟨rfl, g5⟩; have a5 := (AA.out _ g5).cell; have f5 := (AA.out _ g5).free)
          go_ret2
          exact splitP_bad HF.out (by decide) (grownBy_setNew (grownBy_trans G4 g5) hz _)
        | some p =>
          obtain ⟨tb, u⟩ := p
          have hul := cutF_len h2
          have C1 := Lib.hid (cut_y h2 (by omega) w4)
          have AA := Lib.hid fun w' h => A4.same (w' := w') h
          have HS := Lib.hid (splitA_yes (L := O) HN.out (cut2_yes h1 h2))
          go_upto_region 14 with (go_at_call 47; refine C1.out.mono ?_; rintro e w5 ⟨rfl, g5⟩; have a5 := (AA.out _ g5).cell; have f5 := (AA.out _ g5).free)
          have A6 := (A4.same g5).set_ 1 (.string ⟨tb.toArray⟩) (cs' := #[.string ⟨ta.toArray⟩, .string ⟨tb.toArray⟩]) rfl
          have O6 := (O4.same g5).kept (grownBy_set (grownBy_refl w5 (some gk)) 1 (.string ⟨tb.toArray⟩)) (fun q hq e => by have := hlo q hq; cases e; omega)
          have G6 := grownBy_setNew (p := ⟨gk, 1, none⟩) (grownBy_trans G4 g5) hz (.string ⟨tb.toArray⟩)
          clear O4 A4 AA C1 G4 a5 f5 g5
          generalize w5.setCell ⟨gk, 1, none⟩ (.string ⟨tb.toArray⟩) = w6 at *
          have a6 := A6.cell
          have hb1 : (O.length + 1) * 32 ≤ 140737488355328 := by omega
          have hb2 : O.length + 1 ≤ 9223372036854775807 := by omega
          have hz6 := G6.size
          have hta : ta.length ≤ 255 := by omega
          have htb : tb.length ≤ 255 := by omega
          have HTw := Lib.hid (show TagW ⟨⟨ta.toArray⟩, ⟨tb.toArray⟩⟩ from ⟨by show ta.toArray.size ≤ _; simp; omega, by show tb.toArray.size ≤ _; simp; omega⟩)
          have HOl := Lib.hid (show (O ++ [(⟨⟨ta.toArray⟩, ⟨tb.toArray⟩⟩ : TagR)]).length + u.length ≤ 255 by simp; omega)
          have HUl := Lib.hid (show u.length < r.length by omega)
          go_wp2_with (at_builtin; refine app_one elt_tag one_tag tagF_len O6 ⟨⟨ta.toArray⟩, ⟨tb.toArray⟩⟩ hb1 hb2 hz6 (by rfl) (by rfl) _ _ (by rfl) (by rfl) (by rfl) ?_; intro v7 w7 o7 g7 l7)
          refine ⟨⟨u, _, rfl, o7, by rw [← HS.out, HA.out], HOl.out, ?_, grown_own G6 O6 (Nat.le_refl _) g7⟩, ?_⟩
          · intro t ht
            rcases List.mem_append.1 ht with ht | ht
            · exact HW.out t ht
            · rw [List.mem_singleton.1 ht]; exact HTw.out
          · show u.toArray.size < r.toArray.size
            simpa using HUl.out
end Go.Proofs.Ytkdbapbmbhmaiaa

/- Which reports are accepted for a configuration: the program. -/
namespace Go.Proofs.Ytkdbapbmbhmaiaa
open Go.RowKit Go.Sort

/-- The greatest distance of bounds. -/
def limV (mode slots tot : Int) : Int := if slots < 1 ∨ 64 < slots then tot else if mode = 1 then tot / slots else if mode = 2 then tot / (slots + 1) else tot
theorem div_w {t k : Int} (ht : W64 t) (hk : 1 ≤ k) : W64 (t / k) := by
  unfold W64 at *
  have h1 : 0 ≤ t / k := Int.ediv_nonneg ht.1 (by omega)
  have h2 : t / k ≤ t := Int.ediv_le_self _ ht.1
  omega
theorem limV_w {mode slots tot : Int} (ht : W64 tot) : W64 (limV mode slots tot) := by
  unfold limV
  split
  · exact ht
  · split
    · exact div_w ht (by omega)
    · split
      · exact div_w ht (by omega)
      · exact ht
set_option maxHeartbeats 400000 in
theorem share_c (t k : Int) (w : World) (ht : W64 t) (hk : 1 ≤ k ∧ k ≤ 100) : Calls Try.prog 46 #[.int .u64 t, .int .i64 k] w fun e w' => e = .returned (.int .u64 (t / k)) ∧ w' = w := by
  have h1 : ¬ k < 1 := by omega
  have hw : IntKind.u64.wrap k = k := IntWalk.u64_in _ (by omega)
  have hd : Int.tdiv t k = t / k := Int.tdiv_eq_ediv_of_nonneg ht.1
  have hk0 : k ≠ 0 := by omega
  have hk1 : (k == 0) = false := by simpa using hk0
  have hq := div_w ht hk.1
  have hw2 : IntKind.u64.wrap (t / k) = t / k := IntWalk.u64_in _ (by unfold W64 at hq; omega)
  have HX := Lib.hid (show t / k = t / k from rfl)
  go_enter Try.func46, Try.ntmps46
  go_wp2_with fail
  go_ret
  exact ⟨rfl, rfl⟩
set_option maxHeartbeats 400000 in
theorem tlimit_c (mode slots tot : Int) (w : World) (ht : W64 tot) : Calls Try.prog 28 #[.int .i64 mode, .int .i64 slots, .int .u64 tot] w fun e w' => e = .returned (.int .u64 (limV mode slots tot)) ∧ w' = w := by
  have HL := Lib.hid (show limV mode slots tot = if slots < 1 ∨ 64 < slots then tot else if mode = 1 then tot / slots else if mode = 2 then tot / (slots + 1) else tot from rfl)
  generalize limV mode slots tot = L at *
  by_cases h1 : slots < 1
  · have HF := Lib.hid (HL.out.trans (if_pos (.inl h1)))
    clear HL
    go_enter Try.func28, Try.ntmps28
    go_wp2_with fail
    go_ret
    exact ⟨by rw [HF.out]; rfl, rfl⟩
  by_cases h2 : 64 < slots
  · have HF := Lib.hid (HL.out.trans (if_pos (.inr h2)))
    clear HL
    go_enter Try.func28, Try.ntmps28
    go_wp2_with fail
    go_ret
    exact ⟨by rw [HF.out]; rfl, rfl⟩
  have HF := Lib.hid (HL.out.trans (if_neg (by omega)))
  have HS := Lib.hid fun k w' hk => share_c tot k w' ht hk
  have hw : IntKind.i64.wrap (slots + 1) = slots + 1 := IntWalk.i64_in _ (by omega)
  clear HL
  by_cases h3 : mode = 1
  · have h3' : (mode == 1) = true := by simpa using h3
    have HF2 := Lib.hid (HF.out.trans (if_pos h3))
    go_enter Try.func28, Try.ntmps28
    go_wp2_with (go_at_call 46; refine (HS.out _ _ (by omega)).mono ?_; rintro e w' ⟨rfl, rfl⟩)
    go_ret
    exact ⟨by rw [HF2.out]; rfl, rfl⟩
  have h3' : (mode == 1) = false := by simpa using h3
  have HF2 := Lib.hid (HF.out.trans (if_neg h3))
  by_cases h4 : mode = 2
  · have h4' : (mode == 2) = true := by simpa using h4
    have HF3 := Lib.hid (HF2.out.trans (if_pos h4))
    go_enter Try.func28, Try.ntmps28
    go_wp2_with (go_at_call 46; refine (HS.out _ _ (by omega)).mono ?_; rintro e w' ⟨rfl, rfl⟩)
    go_ret
    exact ⟨by rw [HF3.out]; rfl, rfl⟩
  have h4' : (mode == 2) = false := by simpa using h4
  have HF3 := Lib.hid (HF2.out.trans (if_neg h4))
  go_enter Try.func28, Try.ntmps28
  go_wp2_with fail
  go_ret
  exact ⟨by rw [HF3.out]; rfl, rfl⟩

/-- A line is not as it must be: its key, or the distance of its bounds. -/
def lineBad (lim : Int) (x : Ln) : Bool := decide (splitE x.key ≠ 0) || decide (lim < x.hi - x.lo)
def audBad (c : Cfg) (r : Rep) : Bool := decide (c.Top < r.lines.length) || (decide ((r.lines.length : Int) < c.Top) && decide ((r.lines.length : Int) < r.trk)) || (decide (r.trk = r.lines.length) && decide (limV c.Mode c.Slots r.tot < r.rest))
/-- Which reports are accepted for a configuration, and the error of others. -/
def auditE (c : Cfg) (r : Rep) : Int := if repErr r ≠ 0 then repErr r else if audBad c r = true then 13 else if r.lines.any (lineBad (limV c.Mode c.Slots r.tot)) = true then 13 else 0
theorem audit_line {lim : Int} {l : List Ln} {k : Nat} (hk : k < l.length) (h : lineBad lim l[k] = true) : l.any (lineBad lim) = true := List.any_eq_true.2 ⟨_, List.getElem_mem hk, h⟩
theorem audit_fine {lim : Int} {l : List Ln} (h : ∀ i (hi : i < l.length), lineBad lim l[i] = false) : l.any (lineBad lim) = false := by
  rw [List.any_eq_false]
  intro x hx
  obtain ⟨i, hi, rfl⟩ := List.getElem_of_mem hx
  simp [h i hi]
theorem capOf {a : Option Addr} {n c : Nat} {v : Value} (h : v = .slice a n c) : v = .slice a n c := h

set_option maxHeartbeats 2000000 in
set_option maxRecDepth 100000 in
theorem acheck_c (c : Cfg) (r : Rep) (w : World) (hR : RepRd w r) (hW : RepW r) : Calls Try.prog 12 #[c.val, repV r.win r.tot r.vl r.over r.trk r.rest r.vr] w (RetInt (auditE c r) w) := by
  have HA := Lib.hid (show auditE c r = if repErr r ≠ 0 then repErr r else if audBad c r = true then 13 else if r.lines.any (lineBad (limV c.Mode c.Slots r.tot)) = true then 13 else 0 from rfl)
  have HR := Lib.hid hR
  have HW := Lib.hid hW
  obtain ⟨la, lc, e1⟩ := hR.lines.shape
  obtain ⟨ra, rc, e2⟩ := hR.rej.shape
  have hlm := hR.lines.2.1
  have CR := Lib.hid fun w' (h : w.grownBy w' none) => repcheck_c r w' (hR.same h) hW
  rw [e1, e2] at CR ⊢
  have E1 := Lib.hid e1
  clear hR e1 e2
  generalize auditE c r = AE at *
  go_enter Try.func12, Try.ntmps12
  go_upto_region 1 with (refine box_cfg rfl _ rfl c rfl ?_; intro w1 B1 G1 z1)
  have D2 := Blk.new w1 (repA r.win r.tot (.slice la r.lines.length lc) r.over r.trk r.rest (.slice ra r.rej.length rc)) 48
  have B2 := B1.same (World.grownBy_alloc w1 (.cells #[.int .i64 r.win, .int .u64 r.tot, .slice la r.lines.length lc, .int .u64 r.over, .int .i64 r.trk, .int .u64 r.rest, .slice ra r.rej.length rc] 48) none)
  have G2 := grownBy_new_block G1 (.cells #[.int .i64 r.win, .int .u64 r.tot, .slice la r.lines.length lc, .int .u64 r.over, .int .i64 r.trk, .int .u64 r.rest, .slice ra r.rej.length rc] 48)
  generalize w1.alloc (.cells #[.int .i64 r.win, .int .u64 r.tot, .slice la r.lines.length lc, .int .u64 r.over, .int .i64 r.trk, .int .u64 r.rest, .slice ra r.rej.length rc] 48) = w2 at *
  generalize w1.heap.size = rb at *
  clear B1 G1
  by_cases hE : repErr r = 0
  case neg =>
    have HF := Lib.hid (HA.out.trans (if_pos hE))
    have C2 := Lib.hid (CR.out w2 G2)
    generalize repErr r = E at *
    have he2 : (E != 0) = true := by simpa using hE
    have he3 : (E == 0) = false := by simpa using hE
    clear hE HA
    go_wp2_with (first
      | (refine load_rep rfl _ rfl _ rfl D2 ?_)
      | (go_at_call 27; refine C2.out.mono ?_; rintro e w3 ⟨rfl, g3⟩))
    go_ret
    exact retInt HF.out (grownBy_trans G2 g3)
  case pos =>
    have HF := Lib.hid (HA.out.trans (if_neg (by omega)))
    have C2 := Lib.hid (CR.out w2 G2)
    have OK := Lib.hid (rep_ok hE)
    have CL := Lib.hid fun w' => tlimit_c c.Mode c.Slots r.tot w' HW.out.tot
    have HLw := Lib.hid (limV_w (mode := c.Mode) (slots := c.Slots) HW.out.tot)
    rw [hE] at C2
    have HBd := Lib.hid (show audBad c r = (decide (c.Top < r.lines.length) || (decide ((r.lines.length : Int) < c.Top) && decide ((r.lines.length : Int) < r.trk)) || (decide (r.trk = r.lines.length) && decide (limV c.Mode c.Slots r.tot < r.rest))) from rfl)
    generalize limV c.Mode c.Slots r.tot = lim at *
    clear hE HA
    have b2 := B2.cell
    go_upto_region 2 with (first
      | (refine load_rep rfl _ rfl _ rfl D2 ?_)
      | (go_at_call 27; refine C2.out.mono ?_; rintro e w3 ⟨rfl, g3⟩))
    have D3 := D2.same g3
    have B3 := B2.same g3
    have G3 := grownBy_trans G2 g3
    clear b2 D2 B2 G2 g3
    have b3 := B3.cell
    have d3 := D3.cell
    go_upto_region 6 with (go_at_call 28; refine (CL.out _).mono ?_; rintro e w4 ⟨rfl, hw4⟩; subst w4)
    generalize audBad c r = bb at *
    go_cut [27, 28, 29, 30, 31, 32, 33, 34, 35, 36, 37, 38, 39, 40, 41, 42, 43, 44, 45, 46, 47, 48, 49, 50, 51, 52, 53, 54] (fun _ _ _ _ _ _ _ _ _ _ _ _ _ _ _ _ _ _ _ _ _ _ _ _ _ _ _ s54 wx => s54 = .bool bb ∧ w3 = wx)
    case first =>
      have HBe := Lib.hid (show decide (r.trk = (r.lines.length : Int)) = (r.trk == (r.lines.length : Int)) by rw [Bool.eq_iff_iff]; simp)
      have HB2 := HBd.out
      rw [HBe.out] at HB2
      clear HBd HBe
      generalize x1e : decide (c.Top < (r.lines.length : Int)) = x1 at *
      generalize x2e : decide ((r.lines.length : Int) < c.Top) = x2 at *
      generalize x3e : decide ((r.lines.length : Int) < r.trk) = x3 at *
      generalize x4e : (r.trk == (r.lines.length : Int)) = x4 at *
      generalize x5e : decide (lim < r.rest) = x5 at *
      have HB3 := Lib.hid HB2
      clear HB2
      cases x1
      · cases x2
        · cases x4
          · go_wp2_with fail
            go_meet
            exact ⟨by rw [HB3.out]; rfl, rfl⟩
          · go_wp2_with fail
            go_meet
            exact ⟨by rw [HB3.out]; rfl, rfl⟩
        · cases x3
          · cases x4
            · go_wp2_with fail
              go_meet
              exact ⟨by rw [HB3.out]; rfl, rfl⟩
            · go_wp2_with fail
              go_meet
              exact ⟨by rw [HB3.out]; rfl, rfl⟩
          · go_wp2_with fail
            go_meet
            exact ⟨by rw [HB3.out]; rfl, rfl⟩
      · go_wp2_with fail
        go_meet
        exact ⟨by rw [HB3.out]; rfl, rfl⟩
    obtain ⟨rfl, rfl⟩ := hcut
    cases bb with
    | true =>
      have HF2 := Lib.hid (HF.out.trans (if_pos rfl))
      clear HF
      go_wp2_with fail
      go_ret
      exact retInt HF2.out G3
    | false =>
      have HF2 := Lib.hid (HF.out.trans (if_neg (by simp)))
      clear HF HBd
      go_upto_region 9 with fail
      have G3' := Lib.hid G3
      clear D3 B3 b3 d3 G3 C2 CL
      go_loopw [58] (fun s58 wk => ∃ k : Nat, k ≤ r.lines.length ∧ s58 = .int .i64 k ∧ (∀ i (hi : i < r.lines.length), i < k → lineBad lim r.lines[i] = false) ∧ w3.grownBy wk none) (fun s58 _ => r.lines.length - (intOf s58).toNat)
      case atStart => exact ⟨0, Nat.zero_le _, rfl, by intro i hi h; omega, grownBy_refl _ _⟩
      case round =>
        obtain ⟨k, hk, rfl, hall, hg⟩ := hrel
        have Hall := Lib.hid hall
        have HG := Lib.hid (grownBy_trans G3'.out hg)
        clear hall
        by_cases hlt : k < r.lines.length
        · obtain ⟨g, off, cap, hv, hgl, hc⟩ := (HR.out.lines.same HG.out).at_ lnF_len hlt
          rw [E1.out] at hv
          cases hv
          have c0 := hc 0 _ rfl
          have c1 := hc 1 _ rfl
          have c2 := hc 2 _ rfl
          rw [Nat.add_zero] at c0
          obtain ⟨-, hks, hlh, hht⟩ := OK.out.ln hlt
          have hlw := HW.out.lines _ (List.getElem_mem hlt)
          have HY := Lib.hid (p := lineBad lim r.lines[k] = true → AE = 13) (fun h => HF2.out.trans (if_pos (audit_line hlt h)))
          have HN := Lib.hid (p := lineBad lim r.lines[k] = false → ∀ i (hi : i < r.lines.length), i < k + 1 → lineBad lim r.lines[i] = false) (fun h i hi hik => by
            rcases Nat.lt_or_ge i k with h1 | h1
            · exact Hall.out i hi h1
            · obtain rfl : i = k := by omega
              exact h)
          have CS := Lib.hid fun w' => tsplit_c r.lines[k].key w' hlw.key
          have HBl := Lib.hid (show lineBad lim r.lines[k] = (decide (splitE r.lines[k].key ≠ 0) || decide (lim < r.lines[k].hi - r.lines[k].lo)) from rfl)
          clear hc
          have hlo := hlw.lo
          have hhi := hlw.hi
          unfold W64 at hlo hhi
          clear hlw
          generalize lineBad lim r.lines[k] = bl at *
          generalize r.lines[k] = x at *
          have hwr : IntKind.u64.wrap (x.hi - x.lo) = x.hi - x.lo := IntWalk.u64_in _ (by omega)
          by_cases hs : splitE x.key = 0
          · unfold SplitP at CS
            rw [hs] at CS
            by_cases hl : lim < x.hi - x.lo
            · have HQ := Lib.hid (HY.out (by rw [HBl.out, decide_eq_true hl]; simp))
              have hl2 : decide (lim < x.hi - x.lo) = true := decide_eq_true hl
              clear hs HY HN HBl
              go_wp2_with (go_at_call 29; refine (CS.out _).mono ?_; rintro e w5 ⟨v5, rfl, o5, g5⟩; obtain ⟨a5, c5, rfl⟩ := o5.shape; have a6 := ((Blk.new wr #[.string x.key, .int .u64 x.lo, .int .u64 x.hi] 46).same g5).cell)
              go_ret
              exact retInt HQ.out (grownBy_trans HG.out (grownBy_trans (World.grownBy_alloc _ _ _) g5))
            · have HQ := Lib.hid (HN.out (by rw [HBl.out, decide_eq_false hl, decide_eq_false (by simpa using hs)]; rfl))
              have hl2 : decide (lim < x.hi - x.lo) = false := decide_eq_false hl
              clear hs HY HN HBl
              go_wp2_with (go_at_call 29; refine (CS.out _).mono ?_; rintro e w5 ⟨v5, rfl, o5, g5⟩; obtain ⟨a5, c5, rfl⟩ := o5.shape; have a6 := ((Blk.new wr #[.string x.key, .int .u64 x.lo, .int .u64 x.hi] 46).same g5).cell)
              exact ⟨⟨k + 1, by omega, by go_num, HQ.out, grownBy_trans hg (grownBy_trans (World.grownBy_alloc _ _ _) g5)⟩, by simp [intOf]; omega⟩
          · have HQ := Lib.hid (HY.out (by rw [HBl.out, decide_eq_true hs]; rfl))
            unfold SplitP at CS
            generalize splitE x.key = E at *
            have he2 : (E != 0) = true := by simpa using hs
            have he3 : (E == 0) = false := by simpa using hs
            clear hs HY HN HBl
            go_wp2_with (go_at_call 29; refine (CS.out _).mono ?_; rintro e w5 ⟨v5, rfl, o5, g5⟩)
            go_ret
            exact retInt HQ.out (grownBy_trans HG.out (grownBy_trans (World.grownBy_alloc _ _ _) g5))
        · have HQ := Lib.hid (HF2.out.trans (if_neg (by rw [audit_fine fun i hi => Hall.out i hi (by omega)]; simp)))
          go_wp2_with fail
          go_ret
          exact retInt HQ.out HG.out
end Go.Proofs.Ytkdbapbmbhmaiaa

/- The verdict on a report and events: plain. -/
namespace Go.Proofs.Ytkdbapbmbhmaiaa
open Go.RowKit Go.Maps

/-- The total of weights, and whether it fits. -/
def agT (L : List KW) : Int × Bool := L.foldl (fun a p => (satA a.1 p.2, a.2 && fitA a.1 p.2)) (0, true)
theorem agT_snoc (L : List KW) (p : KW) : agT (L ++ [p]) = (satA (agT L).1 p.2, (agT L).2 && fitA (agT L).1 p.2) := by simp [agT]
theorem agT_w {L : List KW} (h : ∀ p ∈ L, W64 p.2) : W64 (agT L).1 := by
  have key : ∀ k, k ≤ L.length → W64 (agT (L.take k)).1 := by
    intro k
    induction k with
    | zero => intro _; simp [agT, W64]
    | succ k ih =>
      intro hk
      rw [List.take_succ_eq_append_getElem (by omega), agT_snoc]
      exact satA_w (ih (by omega)) (h _ (List.getElem_mem _))
  have := key L.length (Nat.le_refl _)
  rwa [List.take_of_length_le (Nat.le_refl _)] at this
/-- A key is struck. -/
def ctDel (L : List KW) (w : Bytes) : List KW := L.filter fun p => !decide (p.1 = w)
theorem ascB_del {L : List KW} {w : Bytes} (h : AscB L) : AscB (ctDel L w) := List.Pairwise.sublist List.filter_sublist h
theorem ctHas_del {w v : Bytes} : ∀ {L : List KW}, ctHas (ctDel L w) v = (!decide (v = w) && ctHas L v)
  | [] => by simp [ctDel, ctHas]
  | p :: L => by
    have ih := ctHas_del (w := w) (v := v) (L := L)
    unfold ctDel at ih ⊢
    by_cases h : p.1 = w
    · rw [List.filter_cons_of_neg (by simp [h]), ih]
      simp only [ctHas]
      by_cases e : v = w
      · simp [e]
      · have : ¬ p.1 = v := fun e2 => e (e2.symm.trans h)
        simp [this]
    · rw [List.filter_cons_of_pos (by simp [h])]
      simp only [ctHas, ih]
      by_cases e : v = w
      · have : ¬ p.1 = v := fun e2 => h (e2.trans e)
        simp [e, show ¬ p.1 = w from h]
      · simp [e]
theorem ctAt_del {w v : Bytes} : ∀ {L : List KW}, ctAt (ctDel L w) v = if v = w then 0 else ctAt L v
  | [] => by simp [ctDel, ctAt]
  | p :: L => by
    have ih := ctAt_del (w := w) (v := v) (L := L)
    unfold ctDel at ih ⊢
    by_cases h : p.1 = w
    · rw [List.filter_cons_of_neg (by simp [h]), ih]
      simp only [ctAt]
      by_cases e : v = w
      · simp [e]
      · have : ¬ p.1 = v := fun e2 => e (e2.symm.trans h)
        simp [e, this]
    · rw [List.filter_cons_of_pos (by simp [h])]
      simp only [ctAt, ih]
      by_cases e : v = w
      · have : ¬ p.1 = v := fun e2 => h (e2.trans e)
        simp [e, show ¬ p.1 = w from h]
      · simp [e]
def delAll (L : List KW) (ks : List Bytes) : List KW := ks.foldl ctDel L
theorem delAll_snoc (L : List KW) (ks : List Bytes) (w : Bytes) : delAll L (ks ++ [w]) = ctDel (delAll L ks) w := by simp [delAll]
theorem delAll_asc {L : List KW} (h : AscB L) : ∀ ks, AscB (delAll L ks) := by
  intro ks
  induction ks generalizing L with
  | nil => exact h
  | cons k ks ih => exact ih (ascB_del h)
theorem ctAt_delAll {L : List KW} {ks : List Bytes} {w : Bytes} (h : w ∉ ks) : ctAt (delAll L ks) w = ctAt L w := by
  induction ks generalizing L with
  | nil => rfl
  | cons k ks ih =>
    have h1 : w ≠ k := fun e => h (e ▸ List.mem_cons_self)
    show ctAt (delAll (ctDel L k) ks) w = _
    rw [ih fun hm => h (List.mem_cons_of_mem k hm), ctAt_del, if_neg h1]
theorem ctAt_in : ∀ {L : List KW} {w : Bytes}, ctHas L w = true → (w, ctAt L w) ∈ L
  | [], w, h => by simp [ctHas] at h
  | p :: L, w, h => by
    simp only [ctAt]
    by_cases e : p.1 = w
    · rw [if_pos e, ← e]; simp
    · rw [if_neg e]
      simp only [ctHas, decide_eq_false e, Bool.false_or] at h
      exact List.mem_cons_of_mem p (ctAt_in h)
theorem ctHas_snoc {p : KW} {v : Bytes} : ∀ {L : List KW}, ctHas (L ++ [p]) v = (ctHas L v || decide (p.1 = v))
  | [] => by simp [ctHas]
  | q :: L => by simp only [List.cons_append, ctHas, ctHas_snoc (L := L), Bool.or_assoc]
theorem ctAt_snoc {p : KW} {v : Bytes} : ∀ {L : List KW}, ctHas L p.1 = false → ctAt (L ++ [p]) v = if v = p.1 then p.2 else ctAt L v
  | [], _ => by
    simp only [List.nil_append, ctAt]
    by_cases e : v = p.1
    · rw [if_pos e.symm, if_pos e]
    · rw [if_neg (fun e2 => e e2.symm), if_neg e]
  | q :: L, h => by
    simp only [ctHas, Bool.or_eq_false_iff, decide_eq_false_iff_not] at h
    simp only [List.cons_append, ctAt, ctAt_snoc h.2]
    by_cases e : q.1 = v
    · rw [if_pos e, if_pos e, if_neg]
      exact fun e2 => h.1 (e.trans e2)
    · rw [if_neg e, if_neg e]
section
variable {H : Type} {D : DataW H} {L : List KW}
theorem CntD.snoc (h : CntD D L) (hD : IsMap D) {p : KW} (hp : ctHas L p.1 = false) (hk : WideAt.IsKeyLit (.string p.1)) : CntD (D.put (.string p.1) (.lit (.int .u64 p.2))) (L ++ [p]) := by
  constructor
  · intro k
    rw [ctHas_snoc]
    by_cases e : k = p.1
    · subst e; rw [has_put_same hD hk]; simp
    · rw [has_put_other (litS_ne e), h.has]; simp [show ¬ p.1 = k from fun e2 => e e2.symm]
  · intro k
    rw [ctAt_snoc hp]
    by_cases e : k = p.1
    · subst e; rw [atKey_put_same hD hk, if_pos rfl]
    · rw [atKey_put_other (litS_ne e), h.at_, if_neg e]
theorem CntD.del (h : CntD D L) {w : Bytes} : CntD (D.del (.string w)) (ctDel L w) := by
  constructor
  · intro k
    rw [ctHas_del]
    by_cases e : k = w
    · subst e; rw [has_del_same]; simp
    · rw [has_del_other (litS_ne e), h.has]; simp [e]
  · intro k
    rw [ctAt_del]
    by_cases e : k = w
    · subst e; rw [atKey_del_same, if_pos rfl]
    · rw [atKey_del_other (litS_ne e), h.at_, if_neg e]
end
theorem asc_new {L : List KW} {p : KW} (h : AscB (L ++ [p])) : ctHas L p.1 = false := by
  cases hh : ctHas L p.1 with
  | false => rfl
  | true =>
    have h1 := ctAt_in hh
    have h2 := (List.pairwise_append.1 h).2.2 _ h1 p (by simp)
    exact absurd h2 (b_irrefl _)
def lineOff (L : List KW) (x : Ln) : Bool := !(decide (x.lo ≤ ctAt L x.key.data.toList) && decide (ctAt L x.key.data.toList ≤ x.hi))
/-- The verdict on a report and events. -/
def agE (c : Cfg) (r : Rep) (l : List ItR) : Int := if auditE c r ≠ 0 then auditE c r
  else if (agT (cntL c r.win l)).2 = false ∨ (agT (cntL c r.win l)).1 ≠ r.tot then 13
  else if r.lines.any (lineOff (cntL c r.win l)) = true then 13
  else if (delAll (cntL c r.win l) (keysN r.lines)).any (fun p => decide (r.rest < p.2)) = true then 13 else 0
end Go.Proofs.Ytkdbapbmbhmaiaa

/- The example of chapter 34: plain. -/
namespace Go.Proofs.Ytkdbapbmbhmaiaa
open Go.RowKit Go.Sort

def kA : ByteArray := ⟨#[1, 97, 0]⟩
def kB : ByteArray := ⟨#[1, 98, 0]⟩
def tA : TagR := ⟨⟨#[97]⟩, ⟨#[]⟩⟩
def tB : TagR := ⟨⟨#[98]⟩, ⟨#[]⟩⟩
theorem keyE_A : keyE [tA] = 0 := by decide
theorem keyE_B : keyE [tB] = 0 := by decide
theorem key_A : keyY [tA] = kA := by unfold keyY; rw [if_pos keyE_A]; rfl
theorem key_B : keyY [tB] = kB := by unfold keyY; rw [if_pos keyE_B]; rfl
theorem split_A : splitE kA = 0 := by
  refine (splitE_ok (L := [tA]) (by decide) ?_ keyE_A key_A).1
  show splitP [1, 97, 0] = _
  rw [splitP_yes (t := tA) (s := []) (by simp) rfl, splitP_nil]; rfl
def awk34C : Cfg := ⟨10, 0, 1, 0, 0, 0, 1, 4, 0, 0, 0, 0, 1, 0, .slice none 0 0, .slice none 0 0, 0⟩
def awk34R (vl vr : Value) : Rep := ⟨0, 7, vl, 2, 2, 2, vr, [⟨kA, 5, 5⟩], [0, 0, 0, 0, 0, 0, 0]⟩
theorem awk34_rep (vl vr : Value) : repErr (awk34R vl vr) = 0 := by rfl
theorem awk34_bad (vl vr : Value) : audBad awk34C (awk34R vl vr) = false := by rfl
theorem awk34_aud (vl vr : Value) : auditE awk34C (awk34R vl vr) = 0 := by
  unfold auditE
  rw [awk34_rep, if_neg (by simp), awk34_bad, if_neg (by simp), if_neg]
  show ¬ ([⟨kA, 5, 5⟩] : List Ln).any (lineBad 1) = true
  simp [lineBad, split_A]
def itA : ItR := ⟨kA, 3, 5⟩
def itB : ItR := ⟨kB, 4, 2⟩
def itC : ItR := ⟨kA, 5, 1⟩
theorem awk34_l1 : cntL awk34C 0 [itA, itB] = [([1, 97, 0], 5), ([1, 98, 0], 2)] := by rfl
theorem awk34_l2 : cntL awk34C 0 [itA, itB, itC] = [([1, 97, 0], 6), ([1, 98, 0], 2)] := by rfl
theorem agE_of {c : Cfg} {r : Rep} {l : List ItR} {L : List KW} (hL : cntL c r.win l = L) (h : auditE c r = 0) : agE c r l = if (agT L).2 = false ∨ (agT L).1 ≠ r.tot then 13
  else if r.lines.any (lineOff L) = true then 13
  else if (delAll L (keysN r.lines)).any (fun p => decide (r.rest < p.2)) = true then 13 else 0 := by
  subst hL
  unfold agE
  rw [if_neg (by omega)]
theorem awk34_ag1 (vl vr : Value) : agE awk34C (awk34R vl vr) [itA, itB] = 0 := by
  rw [agE_of (r := awk34R vl vr) awk34_l1 (awk34_aud vl vr)]
  rfl
theorem awk34_ag2 (vl vr : Value) : agE awk34C (awk34R vl vr) [itA, itB, itC] = 13 := by
  rw [agE_of (r := awk34R vl vr) awk34_l2 (awk34_aud vl vr)]
  rfl
theorem awk34_w (vl vr : Value) : RepW (awk34R vl vr) := by
  refine ⟨by unfold I64 awk34R; simp, by unfold W64 awk34R; simp, by unfold W64 awk34R; simp, by unfold I64 awk34R; simp, by unfold W64 awk34R; simp, fun x hx => ?_, fun n hn => ?_⟩
  · simp only [awk34R, List.mem_singleton] at hx
    subst hx
    exact ⟨by unfold W64; simp, by unfold W64; simp, by show (3 : Nat) ≤ _; omega⟩
  · simp only [awk34R, List.mem_cons, List.not_mem_nil, or_false, or_self] at hn
    subst hn
    unfold W64; simp
theorem itABC_w : ∀ x ∈ [itA, itB, itC], ItW x := by
  intro x hx
  simp only [List.mem_cons, List.not_mem_nil, or_false] at hx
  rcases hx with rfl | rfl | rfl
  · exact ⟨by show (-9223372036854775808 : Int) ≤ 3 ∧ (3 : Int) ≤ _; omega, by show W64 5; unfold W64; omega, by show (3 : Nat) ≤ _; omega⟩
  · exact ⟨by show (-9223372036854775808 : Int) ≤ 4 ∧ (4 : Int) ≤ _; omega, by show W64 2; unfold W64; omega, by show (3 : Nat) ≤ _; omega⟩
  · exact ⟨by show (-9223372036854775808 : Int) ≤ 5 ∧ (5 : Int) ≤ _; omega, by show W64 1; unfold W64; omega, by show (3 : Nat) ≤ _; omega⟩
theorem tag_w1 {t : TagR} (h : t.name.size = 1 ∧ t.value.size = 0) : TagW t := ⟨by omega, by omega⟩
end Go.Proofs.Ytkdbapbmbhmaiaa

/- The keys of a map of weights, in ascending order. -/
namespace Go.Proofs.Ytkdbapbmbhmaiaa
open Go.RowKit Go.Maps Go.Sort Go.Shelf

def stF (s : Bytes) : List Value := [encStr s]
theorem stF_len (s : Bytes) : (stF s).length = 1 := rfl
theorem cells_st (l : List Bytes) : cellsOf stF l = l.map encStr := by
  induction l with
  | nil => rfl
  | cons x l ih => simp only [cellsOf, List.flatMap_cons, List.map_cons] at *; rw [ih]; rfl
theorem sortsS (m : Nat) : AnyZ.SortsIn Try.prog Try.sortedS_ren Fence.wide m :=
  ⟨fun blk off cap ss W hH hblk hsz => callsIn_wide.2 (Try.slices_Sort_string blk off cap ss W hH hblk hsz),
   fun p cap W => callsIn_wide.2 (Try.slices_Sort_string_none p cap W)⟩
theorem grown_of_belowS {a b : World} (h : Below a.heap.size a b) : a.grownBy b none := ⟨h.os, h.tape, h.output, h.size, fun i hi _ => h.block i hi⟩
/-- The keys, sorted. -/
theorem CntD.sorted {H : Type} {D : DataW H} {L : List KW} (h : CntD D L) (hA : AscB L) {P : Program} {k : TypeId} {R : Value → Option (DataW H × List MemPlace)} {w : World} {b n : Nat} (hown : w.ownsMap P k R b n D) (hk : P.underlying k = some .string) {ss : List Bytes} (hp : ss.Perm (strKeys D)) :
    ss.mergeSort (fun x y => decide (x ≤ y)) = L.map (·.1) := by
  have h2 : (L.map (·.1)).Perm (strKeys D) := Collected.perm (left := fun _ => false) ⟨ascB_nodup hA, fun x => by rw [h.has, ctHas_iff]; simp⟩ hown (string_keyed hk) hk (fun _ => rfl)
  have h3 : (ss.mergeSort (fun x y => decide (x ≤ y))).Perm (L.map (·.1)) := (List.mergeSort_perm _ _).trans (hp.trans h2.symm)
  refine List.Perm.eq_of_pairwise (le := fun x y : Bytes => decide (x ≤ y) = true) (fun a b _ _ h1 h2 => ?_) (List.pairwise_mergeSort (fun a b c h1 h2 => ?_) (fun a b => ?_) ss) (ascB_sorted hA) h3
  · simp only [decide_eq_true_eq] at h1 h2; exact List.le_antisymm h1 h2
  · simp only [decide_eq_true_eq] at *; exact List.le_trans h1 h2
  · simp only [Bool.or_eq_true, decide_eq_true_eq]; exact List.le_total a b

theorem keysW_c (mb : Nat) (W : World) : Calls Try.prog 23 #[.map (some mb)] W fun e w' =>
    e = .returned (.func (.func 40) #[] #[.pointer (some ⟨W.heap.size, 0, none⟩)]) ∧ w' = W.alloc (.cells #[.map (some mb)] 63) :=
  (callsIn_wide (n := 5)).1 (AnyZ.keys_in Try.keysS Fence.wide 5 trivial rfl (some mb) W)

set_option maxHeartbeats 1000000 in
theorem sortedW_c (g mb n : Nat) (D : DataW Unit) (L : List KW) (w : World) (hg : g < w.heap.size) (hc : w.cell? ⟨g, 0, none⟩ = some (.map (some mb))) (hown : w.ownsMap Try.prog 9 (plainElem Try.prog 25) mb n D) (hD : CntD D L) (hA : AscB L) (hn : n ≤ 1000000) :
    Calls Try.prog 22 #[.func (.func 40) #[] #[.pointer (some ⟨g, 0, none⟩)]] w (RetOwn stF 1 9 (L.map (·.1)) w) := by
  have HS := Lib.hid fun (ss : List Bytes) (hp : ss.Perm (strKeys D)) => hD.sorted hA hown Try.underlying9 hp
  have hsz := hown.size_le
  have hmax : Maps.size D ≤ maxLen := by unfold maxLen; omega
  have hbytes : Maps.size D * 16 ≤ 140737488355328 := by omega
  have hseq : SeqGives Fence.wide 2 Try.prog 40 #[.pointer (some ⟨g, 0, none⟩)] encStr (fun ss => ss.Perm (strKeys D)) (Maps.size D) w :=
    AnyZ.keys_gives (ρ := Try.keysS_ren) { Try.keysS with } Fence.wide _ trivial rfl (by omega) g mb n D w hg hc hown
  have cS := AnyZ.sorted_in Try.sortedS Fence.wide 5 trivial trivial trivial trivial rfl (by omega) (sortsS _) (enters_of Try.func39 (by kernel_rfl) rfl) 40 #[.pointer (some ⟨g, 0, none⟩)] trivial (enters_of Try.func40 (by kernel_rfl) rfl) _ _ hmax hbytes _ hseq
  change CallsIn _ _ Try.prog 22 _ _ _ at cS
  refine ((callsIn_wide (n := 5)).1 cS).mono ?_
  rintro e w' ⟨v, ss, rfl, hS, hrow, hnil, hb⟩
  have hss := HS.out ss hS
  rw [hss] at hrow
  have hl : ss.length = (L.map (·.1)).length := by rw [← hss, List.length_mergeSort]
  rw [hl] at hrow
  refine ⟨v, rfl, ?_, grown_of_belowS hb⟩
  unfold Own
  rw [cells_st]
  exact hrow
end Go.Proofs.Ytkdbapbmbhmaiaa

/- The weights of keys in a window: the program. -/
namespace Go.Proofs.Ytkdbapbmbhmaiaa
open Go.RowKit Go.Sort Go.Maps Go.WideMaps

theorem keyS : Keyed Try.prog 9 := string_keyed Try.underlying9
theorem zeroU (w : World) : (zeroValue 25).run Try.prog w = .ok (.int .u64 0) w := by kernel_rfl
theorem ctAt_mem : ∀ {L : List KW} {p : KW}, AscB L → p ∈ L → ctAt L p.1 = p.2
  | [], p, _, h => by simp at h
  | q :: L, p, hA, h => by
    obtain ⟨h1, h2⟩ := ascB_cons hA
    simp only [ctAt]
    rcases List.mem_cons.1 h with rfl | h
    · rw [if_pos rfl]
    · rw [if_neg (b_ne (h1 p h)), ctAt_mem h2 h]
theorem cntL_key (c : Cfg) (win : Int) (l : List ItR) {N : Nat} (h : ∀ x ∈ l, x.key.size ≤ N) : ∀ p ∈ cntL c win l, p.1.length ≤ N := cntL_take (fun L => ∀ p ∈ L, p.1.length ≤ N) c win l (by simp) fun L x hx hL => by
  unfold cntS; split
  · intro p hp
    rcases mem_ctPut hp with e | hp
    · rw [e]; exact (Array.length_toList (xs := x.key.data)).symm ▸ h x hx
    · exact hL p hp
  · exact hL
attribute [local go_sem ↓] exec_load_cfg
attribute [local go_sem] run_loadCfgS

set_option maxHeartbeats 2000000 in
set_option maxRecDepth 100000 in
theorem acount_c (c : Cfg) (win : Int) (v : Value) (l : List ItR) (w : World) (h : RdL itF 3 w v l) (hW : ∀ x ∈ l, ItW x) (hl : l.length ≤ 1000000) :
    Calls Try.prog 9 #[c.val, .int .i64 win, v] w (RetOwn lnF 3 46 ((cntL c win l).map kwLn) w) := by
  obtain ⟨a, cp, rfl⟩ := h.shape
  have hm := h.2.1
  have H := Lib.hid h
  have HW := Lib.hid hW
  have HAsc := Lib.hid (fun k => cntL_asc c win (l.take k))
  have HLen := Lib.hid (fun k => cntL_len c win (l.take k))
  have HCw := Lib.hid (fun k => cntL_w c win (l.take k) fun x hx => hW x (List.mem_of_mem_take hx))
  clear h hW
  have hmm := @run_makeMap Try.prog
  go_enter Try.func9, Try.ntmps9
  go_upto_region 1 with (refine box_cfg rfl _ rfl c rfl ?_; intro w1 B1 G1 z1)
  go_upto_region 2 with fail
  have M2 := World.ownsMap_made w1 Try.prog 9 (plainElem (H := Unit) Try.prog 25)
  have B2 := B1.same (World.grownBy_alloc w1 (.map #[] 0) none)
  have G2 := grownBy_new_block G1 (.map #[] 0)
  have hmb : w1.heap.size < (w1.alloc (.map #[] 0)).heap.size := by simp
  have hmw : w.heap.size < w1.heap.size := z1
  generalize w1.alloc (.map #[] 0) = w2 at *
  generalize w1.heap.size = mb at *
  have B2' := Lib.hid B2
  have HG2 := Lib.hid G2
  clear B1 G1 hmm B2 G2
  go_upto_region 3 with fail
  go_loopw [16] (fun s16 wk => ∃ j : Nat, j ≤ l.length ∧ s16 = .int .i64 j ∧ (∃ D n, wk.ownsMap Try.prog 9 (plainElem (H := Unit) Try.prog 25) mb n D ∧ n ≤ j ∧ CntD D (cntL c win (l.take j))) ∧ w2.grownBy wk (some mb)) (fun s16 _ => l.length - (intOf s16).toNat)
  case atStart => exact ⟨0, Nat.zero_le _, rfl, ⟨_, 0, M2, Nat.le_refl _, CntD.nil⟩, grownBy_refl _ _⟩
  case round =>
    clear M2
    obtain ⟨j, hj, rfl, ⟨D, n, hM, hnj, hD⟩, hg⟩ := hrel
    by_cases hjl : j < l.length
    · have hgw := grownBy_new HG2.out hg (by omega)
      obtain ⟨gx, ox, cx, hv, hgx, hcx⟩ := (RdL.same H.out hgw).at_ itF_len hjl
      cases hv
      have c0 := hcx 0 _ rfl
      have c1 := hcx 1 _ rfl
      have c2 := hcx 2 _ rfl
      rw [Nat.add_zero] at c0
      have HT := Lib.hid (show cntL c win (l.take (j + 1)) = cntS c win (cntL c win (l.take j)) l[j] by rw [List.take_succ_eq_append_getElem hjl, cntL_snoc])
      have hwx := HW.out _ (List.getElem_mem hjl)
      have hA := HAsc.out j
      have hCw := HCw.out j
      clear hcx
      generalize cntL c win (l.take j) = L at *
      generalize l[j] = it at *
      have HS0 := Lib.hid (show inWin c win it = false → cntS c win L it = L from fun h => by unfold cntS; rw [h]; rfl)
      have HS1 := Lib.hid (show inWin c win it = true → cntS c win L it = ctPut L it.key.data.toList it.weight from fun h => by unfold cntS; rw [h]; rfl)
      have HIn := Lib.hid (show inWin c win it = (decide (0 ≤ it.time) && decide (it.time ≤ 1099511627776) && decide (winV c it.time = win)) from rfl)
      generalize inWin c win it = iw at *
      go_upto_region 5 with fail
      have M3 := hM.alloc (.cells #[.string it.key, .int .i64 it.time, .int .u64 it.weight] 50)
      have A3 := Blk.new wr #[.string it.key, .int .i64 it.time, .int .u64 it.weight] 50
      have G3 := grownBy_new_block hg (.cells #[.string it.key, .int .i64 it.time, .int .u64 it.weight] 50)
      have hmk := hM.lt
      generalize wr.alloc (.cells #[.string it.key, .int .i64 it.time, .int .u64 it.weight] 50) = w3 at *
      generalize wr.heap.size = gk at *
      have B3 := B2'.out.kept G3 (by simp; omega)
      clear hM hg hgw c0 c1 c2 hgx
      have a3 := A3.cell
      have CW := Lib.hid fun w' => cwin_c c it.time w'
      by_cases t0 : 0 ≤ it.time
      case neg =>
        have HF := Lib.hid (HT.out.trans (HS0.out (by rw [HIn.out, decide_eq_false t0]; rfl)))
        have d0 : decide (0 ≤ it.time) = false := decide_eq_false t0
        go_wp2_with fail
        exact ⟨⟨j + 1, by omega, by go_num, ⟨D, n, M3, by omega, by rw [HF.out]; exact hD⟩, G3⟩, by simp [intOf]; omega⟩
      have d0 : decide (0 ≤ it.time) = true := decide_eq_true t0
      by_cases t1 : it.time ≤ 1099511627776
      case neg =>
        have HF := Lib.hid (HT.out.trans (HS0.out (by rw [HIn.out, decide_eq_false t1]; simp)))
        have d1 : decide (it.time ≤ 1099511627776) = false := decide_eq_false t1
        go_wp2_with fail
        exact ⟨⟨j + 1, by omega, by go_num, ⟨D, n, M3, by omega, by rw [HF.out]; exact hD⟩, G3⟩, by simp [intOf]; omega⟩
      have d1 : decide (it.time ≤ 1099511627776) = true := decide_eq_true t1
      by_cases t2 : winV c it.time = win
      case neg =>
        have HF := Lib.hid (HT.out.trans (HS0.out (by rw [HIn.out, decide_eq_false t2]; simp)))
        have d2 : (winV c it.time != win) = true := by simpa using t2
        have d3 : (winV c it.time == win) = false := by simpa using t2
        generalize winV c it.time = q at *
        clear HIn HS0 HS1
        go_wp2_with (first
          | (refine load_cfg_if rfl _ rfl _ rfl c (by assumption) ?_)
          | (go_at_call 20; refine (CW.out _).mono ?_; rintro e w4 ⟨rfl, g4⟩))
        exact ⟨⟨j + 1, by omega, by go_num, ⟨D, n, M3.kept g4 (by simp), by omega, by rw [HF.out]; exact hD⟩, grownBy_trans G3 (grownBy_some g4 _)⟩, by simp [intOf]; omega⟩
      case pos =>
        have HF := Lib.hid (HT.out.trans (HS1.out (by rw [HIn.out, d0, d1, decide_eq_true t2]; rfl)))
        have d2 : (winV c it.time != win) = false := by simpa using t2
        have d3 : (winV c it.time == win) = true := by simpa using t2
        generalize winV c it.time = qw at *
        have hkey := keyOf_string_mk Try.underlying9 (s := it.key) (by unfold maxLen; exact hwx.key)
        have HK := Lib.hid (show WideAt.IsKeyLit (.string it.key.data.toList) from trivial)
        have hnm : n < maxLen := by unfold maxLen; omega
        have hat := Lib.hid (hD.at_ it.key.data.toList)
        have hq : W64 (ctAt L it.key.data.toList) := ctAt_w hCw
        have hsw := satA_w hq hwx.weight
        have hwf : (Lit.int .u64 (satA (ctAt L it.key.data.toList) it.weight)).wf = true := WalkArith.wf_u64 (by unfold W64 at hsw; omega)
        have HP := Lib.hid (p := ∀ D', D' = D.put (.string it.key.data.toList) (.lit (.int .u64 (satA (ctAt L it.key.data.toList) it.weight))) → CntD D' (cntL c win (l.take (j + 1)))) (fun D' e => by rw [e, HF.out]; exact hD.put hA M3.isMap HK.out)
        have Hwx := Lib.hid hwx.weight
        have Hq := Lib.hid hq
        have CA := Lib.hid fun w' => satAdd_c (ctAt L it.key.data.toList) it.weight w' hq hwx.weight
        clear HIn HS0 HS1 HF HT hA hCw hwx hq hsw hD
        generalize satA (ctAt L it.key.data.toList) it.weight = sa at *
        generalize fitA (ctAt L it.key.data.toList) it.weight = fa at *
        generalize ctAt L it.key.data.toList = qa at *
        go_upto_region 6 with (first
          | (refine load_cfg_if rfl _ rfl _ rfl c (by assumption) ?_)
          | (go_at_call 20; refine (CW.out _).mono ?_; rintro e w4 ⟨rfl, g4⟩))
        have M4 := M3.kept g4 (by simp)
        have A4 := A3.same g4
        have G4 := grownBy_trans G3 (grownBy_some g4 (some mb))
        clear M3 A3 a3 G3 g4 B3 CW d0 d1 d2 d3 t0 t1 t2
        have Gd : w4.grownBy w4.drew none := (by (repeat (first | exact grownBy_refl _ _ | assumption | refine grownBy_new_block ?_ _ | refine grownBy_drew ?_ | refine grownBy_drewN ?_ _ | refine grownBy_setNew ?_ (by first | (simp; done) | omega | (simp; omega)) _)))
        (refine Rg.wp_region_rgZ 13 #[false, false, false, false, false, false, false, false, false, false, false, false, true] (fun w w' => World.grownBy w w' none) (fun k _ w v w' => match k with | 9 => v = .tuple #[.int .u64 sa, .bool fa] ∧ World.grownBy w w' none | _ => False) (by kernel_rfl) (by kernel_rfl) (fun w => grownBy_refl w none) (fun _ _ _ h k => grownBy_trans h k) (fun _ _ _ _ _ h => h) ?_; simp only [List.take, List.drop])
        (refine Rg.tree_quiet 2 rfl (by first | exact Or.inl rfl | exact Or.inr rfl) ?_; simp only [List.take, List.drop, List.length_cons, List.length_nil, List.replicate, Nat.reduceAdd]; (try simp only [List.cons_append]); (try simp only [List.nil_append]); (repeat (go_big_quiet_step (fail))); refine wpQuiet_nil ?_)
        (refine Rg.tree_op rfl rfl ?_; intro y2 my2 dy2)
        clear dy2
        have a2 := (A4.same (grownBy_trans Gd my2)).cell
        go_wp2_with fail
        refine ⟨grownBy_refl _ _, ?_⟩
        clear a2
        (refine Rg.tree_quiet 2 rfl (by first | exact Or.inl rfl | exact Or.inr rfl) ?_; simp only [List.take, List.drop, List.length_cons, List.length_nil, List.replicate, Nat.reduceAdd]; (try simp only [List.cons_append]); (try simp only [List.nil_append]); (repeat (go_big_quiet_step (fail))); refine wpQuiet_nil ?_)
        (refine Rg.tree_op rfl rfl ?_; intro y5 my5 dy5)
        clear dy5
        have a2 := (A4.same (grownBy_trans Gd my5)).cell
        go_wp2_with fail
        refine ⟨grownBy_refl _ _, ?_⟩
        clear a2
        (refine Rg.tree_op rfl rfl ?_; intro y6 my6 dy6)
        clear dy6
        have M6 := M4.kept (grownBy_trans Gd my6) (by simp)
        go_wp2_with (at_lookup; refine wpList_lookup_own_int _ rfl _ _ 63 rfl 9 25 .u64 keyS Try.underlying63 Try.underlying25 (zeroU _) mb n D rfl M6 _ _ rfl hkey ?_; intro c hc hwc; rw [hat.out] at hc; cases hc; clear hwc)
        refine ⟨grownBy_refl _ _, ?_⟩
        clear M6
        (refine Rg.tree_quiet 1 rfl (by first | exact Or.inl rfl | exact Or.inr rfl) ?_; simp only [List.take, List.drop, List.length_cons, List.length_nil, List.replicate, Nat.reduceAdd]; (try simp only [List.cons_append]); (try simp only [List.nil_append]); (repeat (go_big_quiet_step (fail))); refine wpQuiet_nil ?_)
        (refine Rg.tree_op rfl rfl ?_; intro y8 my8 dy8)
        clear dy8
        have a2 := (A4.same (grownBy_trans Gd my8)).cell
        go_wp2_with fail
        refine ⟨grownBy_refl _ _, ?_⟩
        clear a2
        (refine Rg.tree_call rfl rfl rfl ?_; intro x9 mx9 dx9; refine ⟨?_, ?_⟩; · (unfold Rg.callSpec; go_simp; (refine (CA.out x9).mono ?_; rintro e w' ⟨rfl, rfl⟩; exact ⟨_, rfl, rfl, grownBy_refl _ _⟩)))
        clear dx9
        rintro v y ⟨rfl, g⟩
        refine ⟨g, ?_⟩
        clear g
        simp only [Act.put, List.setIfInBounds_toArray, List.set_cons_zero, List.set_cons_succ]
        (refine Rg.tree_quiet 3 rfl (by first | exact Or.inl rfl | exact Or.inr rfl) ?_; simp only [List.take, List.drop, List.length_cons, List.length_nil, List.replicate, Nat.reduceAdd]; (try simp only [List.cons_append]); (try simp only [List.nil_append]); (repeat (go_big_quiet_step (fail))); refine wpQuiet_nil ?_)
        (refine Rg.tree_nil ?_; intro z mz dz cz)
        clear dz cz
        have M5 := M4.kept (grownBy_trans Gd mz) (by simp)
        go_wp2_with (at_mapUpdate; refine wpList_mapUpdate_own _ rfl _ _ _ 63 rfl 9 25 keyS Try.underlying63 _ mb n D rfl M5 hnm _ _ _ rfl rfl hkey _ [] (plainElem_int Try.underlying25 hwf) ?_; intro w7 M7 g7)
        exact ⟨⟨j + 1, by omega, by go_num, ⟨_, n + 1, M7, by omega, HP.out _ rfl⟩, grownBy_trans (grownBy_trans G4 (grownBy_some (grownBy_trans Gd mz) _)) g7⟩, by simp [intOf]; omega⟩
    · have hke : l.take j = l := List.take_of_length_le (by omega)
      have hA := HAsc.out j
      rw [hke] at hD hA
      have HWl := Lib.hid (show (cntL c win l).length ≤ l.length from cntL_len c win l)
      have hgw := Lib.hid (grownBy_new HG2.out hg (by omega))
      have HKs := Lib.hid (cntL_key c win l (N := 9223372036854775807) fun x hx => (HW.out x hx).key)
      generalize cntL c win l = L at *
      have HM := Lib.hid hM
      have HD := Lib.hid hD
      have HA := Lib.hid hA
      have HB := Lib.hid (grownBy_trans hg (World.grownBy_alloc wr (.cells #[.map (some mb)] 63) (some mb)))
      have hml := hM.lt
      have HC := Lib.hid (show (wr.alloc (.cells #[.map (some mb)] 63)).cell? ⟨wr.heap.size, 0, none⟩ = some (.map (some mb)) by rw [(Blk.new wr #[.map (some mb)] 63).cell]; rfl)
      have CS := Lib.hid (sortedW_c wr.heap.size mb n D L _ (by simp) HC.out (hM.alloc (.cells #[.map (some mb)] 63)) hD hA (by omega))
      clear hM hD hA hke hg
      go_upto_region 10 with (first
        | (go_at_call 23; refine (keysW_c mb _).mono ?_; rintro e w3 ⟨rfl, rfl⟩)
        | (go_at_call 22; refine CS.out.mono ?_; rintro e w4 ⟨v4, rfl, o4, g4⟩; obtain ⟨a4, c4, rfl⟩ := o4.shape))
      have M4 := Lib.hid ((HM.out.alloc (.cells #[.map (some mb)] 63)).kept g4 (by simp))
      have G4 := Lib.hid (grownBy_trans (grownBy_new_block hgw.out (.cells #[.map (some mb)] 63)) g4)
      have hz4 := g4.size
      have hz5 : wr.heap.size < w4.heap.size := Nat.lt_of_lt_of_le (by simp) hz4
      have HO := Lib.hid o4
      have hLl : (L.map (·.1)).length = L.length := by simp
      clear o4 g4 CS HB HC HM hz4
      go_loopw [54, 10] (fun s54 s10 wk => ∃ k : Nat, k ≤ L.length ∧ s54 = .int .i64 k ∧ Own lnF 3 46 w4.heap.size wk s10 ((L.take k).map kwLn) ∧ w4.grownBy wk none) (fun s54 _ _ => L.length - (intOf s54).toNat)
      case atStart => exact ⟨0, Nat.zero_le _, rfl, Own.nil _ _ _ _ _, grownBy_refl _ _⟩
      case round =>
        obtain ⟨k, hk, rfl, hOk, hg⟩ := hrel
        by_cases hkl : k < L.length
        · obtain ⟨gx, ox, cx, hv, hgx, hcx⟩ := (RdL.same HO.out.rd hg).at_ stF_len (show k < (L.map (·.1)).length by omega)
          obtain ⟨rfl, -, rfl⟩ : a4 = some ⟨gx, ox, none⟩ ∧ (L.map (·.1)).length = (L.map (·.1)).length ∧ c4 = cx := by simpa only [Value.slice.injEq] using hv
          have c0 := hcx 0 _ rfl
          rw [List.getElem_map, Nat.mul_one, Nat.add_zero] at c0
          have M5 := M4.out.kept hg (by simp)
          have hat := HD.out.at_ L[k].1
          rw [ctAt_mem HA.out (List.getElem_mem hkl)] at hat
          have hks := HKs.out _ (List.getElem_mem hkl)
          have HT := Lib.hid (show (L.take (k + 1)).map kwLn = (L.take k).map kwLn ++ [kwLn L[k]] by rw [List.take_succ_eq_append_getElem hkl, List.map_append]; rfl)
          have hSl : ((L.take k).map kwLn).length ≤ 1000000 := by rw [List.length_map, List.length_take]; have := HWl.out; omega
          obtain ⟨S, hS⟩ : ∃ S, (L.take k).map kwLn = S := ⟨_, rfl⟩
          rw [hS] at hOk hSl HT
          have Hk1 := Lib.hid (show k + 1 ≤ L.length from hkl)
          clear hcx hv hS
          obtain ⟨oa, oc, rfl⟩ := hOk.shape
          generalize L[k] = p at *
          obtain ⟨kb, kn⟩ := p
          have c0 : wr.cell? ⟨gx, ox + k, none⟩ = some (.string ⟨kb.toArray⟩) := c0
          have Hat := Lib.hid hat
          have hkey := keyOf_string_mk (P := Try.prog) Try.underlying9 (s := ⟨kb.toArray⟩) (show kb.toArray.size ≤ _ by unfold maxLen; simpa using hks)
          have hb1 : (S.length + 1) * 32 ≤ 140737488355328 := by omega
          have hb2 : S.length + 1 ≤ 9223372036854775807 := by omega
          have hz := hg.size
          clear hat hks
          have hk1 := Hk1.out
          have hLb := Nat.le_trans HWl.out hl
          go_wp2_with (first
            | (at_lookup; refine wpList_lookup_own_int _ rfl _ _ 63 rfl 9 25 .u64 keyS Try.underlying63 Try.underlying25 (zeroU _) mb n D rfl M5 _ _ rfl hkey ?_; intro c hc hwc; rw [Hat.out] at hc; cases hc; clear hwc)
            | (at_builtin; refine app_one elt_ln one_ln lnF_len hOk (kwLn (kb, kn)) hb1 hb2 hz (by rfl) (by rfl) _ _ (by rfl) (by rfl) (by rfl) ?_; intro v7 w7 o7 g7 l7))
          exact ⟨⟨k + 1, hk1, by go_num, by rw [HT.out]; exact o7, grown_own hg hOk (Nat.le_refl _) g7⟩, by simp [intOf]; omega⟩
        · have hke : L.take k = L := List.take_of_length_le (by omega)
          rw [hke] at hOk
          generalize L.map kwLn = S at *
          obtain ⟨oa, oc, rfl⟩ := hOk.shape
          go_wp2_with fail
          go_ret
          have hzz := G4.out.size
          exact ⟨_, rfl, hOk.base (fun q hq => Nat.le_trans hzz (hOk.lt q hq).1), grownBy_trans G4.out hg⟩
end Go.Proofs.Ytkdbapbmbhmaiaa
