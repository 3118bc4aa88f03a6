/- The key of tags: the reference. -/
import Derived.Test.YtniokdflljchgaaTagS
import Derived.Laws.BytesString
namespace Go.Proofs.Ytniokdflljchgaa
open Go.RowKit Go.Sort

theorem conv1b (w : World) (g : Nat) (b : UInt8) (h : w.cell? ⟨g, 0, none⟩ = some (.int .u8 b.toNat)) : (convert 28 9 (.slice (some ⟨g, 0, none⟩) 1 1)).run Try.prog w = .ok (.string ⟨#[b]⟩) w := by
  rw [run_convert_bytes_string w 28 9 5 _ 1 1 Try.underlying28 Try.underlying5 Try.underlying9]
  rw [run_bytesToString w ⟨g, 0, none⟩ 1 1 [(b.toNat : Int)]]
  · show Result.ok (Value.string _) w = _
    congr 2
    simp [ByteArray.push, ByteArray.empty, ByteArray.emptyWithCapacity]
    all_goals rfl
  · exact run_loadCells_list w ⟨g, 0, none⟩ [.int .u8 b.toNat] (fun j v hv => by
      cases j with
      | zero => simp at hv; subst hv; exact h
      | succ j => simp at hv)
theorem ba_app (a b : ByteArray) : (a ++ b).data.toList = a.data.toList ++ b.data.toList := by
  simp [ByteArray.data_append]
theorem ba_eq {a : ByteArray} {l : List UInt8} (h : a.data.toList = l) : a = ⟨l.toArray⟩ := by
  obtain ⟨⟨x⟩⟩ := a
  subst h; rfl
theorem by_len {n : Nat} : IntKind.u8.wrap (n : Int) = (((UInt8.ofNat n).toNat : Nat) : Int) := by
  rw [by_wrap, UInt8.toNat_ofNat']
def KeyP (L : List TagR) (w : World) (e : Ending) (w' : World) : Prop := e = .returned (.tuple #[.string (keyY L), .int .i64 (keyE L)]) ∧ w.grownBy w' none

set_option maxHeartbeats 1000000 in
set_option maxRecDepth 100000 in
theorem rkeyT_c (v : Value) (L : List TagR) (w : World) (h : RdL tagF 2 w v L) (hW : ∀ t ∈ L, TagW t) : Calls Try.prog 81 #[v] w (KeyP L w) := by
  obtain ⟨a, c, rfl⟩ := h.shape
  have C := Lib.hid (rsortT_c _ L w h hW)
  have HK := Lib.hid (show keyE L = if sortE L ≠ 0 then sortE L else if 255 < (kyB (sortT L)).length then 4 else 0 from rfl)
  have HY := Lib.hid (show keyY L = if keyE L = 0 then ⟨(kyB (sortT L)).toArray⟩ else ⟨#[]⟩ from rfl)
  have H0 := Lib.hid (sortE_0 (L := L))
  have Hlen := Lib.hid (sortT_len L)
  have HM := Lib.hid (sortT_mem L)
  clear h hW
  go_enter Try.func81, Try.ntmps81
  by_cases hE : sortE L = 0
  · have C2 := C.out
    unfold SortP at C2
    rw [hE, if_pos rfl] at C2
    have C3 := Lib.hid C2
    obtain ⟨h0, h8, ht, -⟩ := H0.out hE
    have HK2 := Lib.hid (HK.out.trans (if_neg (by omega)))
    have HT := Lib.hid (fun t h => tagE_ok (ht t ((HM.out t).1 h)) : ∀ t ∈ sortT L, _)
    clear C C2 HK H0 HM ht hE
    generalize sortT L = S at *
    have hSl : (S.length : Int) ≤ 8 := by have := Hlen.out; omega
    go_wp2_with (go_at_call 92; refine C3.out.mono ?_; rintro e w2 ⟨v2, rfl, o2, g2⟩; obtain ⟨a2, c2, rfl⟩ := o2.shape)
    have HO := Lib.hid o2
    have HG := Lib.hid g2
    clear o2 g2
    go_loopw [19, 6] (fun s19 s6 wk => ∃ (k : Nat) (O : ByteArray), k ≤ S.length ∧ s19 = .int .i64 k ∧ s6 = .string O ∧ O.data.toList = kyB (S.take k) ∧ O.size ≤ 98 * k ∧ w2.grownBy wk none) (fun s19 _ _ => S.length - (intOf s19).toNat)
    case atStart => exact ⟨0, ⟨#[]⟩, Nat.zero_le _, rfl, rfl, rfl, by simp [ByteArray.size], grownBy_refl _ _⟩
    case round =>
      obtain ⟨k, O, hk, rfl, rfl, hO, hOl, hg⟩ := hrel
      have HOl := Lib.hid hO
      clear hO
      by_cases hlt : k < S.length
      · obtain ⟨gx, ox, cx, hv, hgx, hcx⟩ := (RdL.same HO.out.rd hg).at_ tagF_len hlt
        cases hv
        have c0 := hcx 0 _ rfl
        have c1 := hcx 1 _ rfl
        rw [Nat.add_zero] at c0
        obtain ⟨-, -, hn32, hv64⟩ := HT.out _ (List.getElem_mem hlt)
        have HS := Lib.hid (show kyB (S.take (k + 1)) = kyB (S.take k) ++ tkB S[k] by rw [List.take_succ_eq_append_getElem hlt, kyB_snoc])
        clear hcx
        generalize S[k] = x at *
        have hw1 := by_len (n := x.name.size)
        have hw2 := by_len (n := x.value.size)
        have HB := Lib.hid (show tkB x = UInt8.ofNat x.name.size :: nmB x ++ (UInt8.ofNat x.value.size :: vlB x) from rfl)
        obtain ⟨b1, hb1⟩ : ∃ b, UInt8.ofNat x.name.size = b := ⟨_, rfl⟩
        obtain ⟨b2, hb2⟩ : ∃ b, UInt8.ofNat x.value.size = b := ⟨_, rfl⟩
        rw [hb1] at hw1 HB
        rw [hb2] at hw2 HB
        clear hb1 hb2
        have hc1 := fun w' g h => conv1b w' g b1 h
        have hc2 := fun w' g h => conv1b w' g b2 h
        go_wp2_with fail
        have hsz : (O ++ (⟨#[b1]⟩ ++ x.name ++ ⟨#[b2]⟩ ++ x.value)).size ≤ 98 * (k + 1) := by
          simp only [ByteArray.size_append]
          have e1 : (⟨#[b1]⟩ : ByteArray).size = 1 := rfl
          have e2 : (⟨#[b2]⟩ : ByteArray).size = 1 := rfl
          rw [e1, e2]; omega
        exact ⟨⟨k + 1, _, by omega, by go_num, rfl, by rw [HS.out, HB.out]; simp only [ba_app]; rw [HOl.out]; simp [nmB, vlB], hsz, grownBy_new_block (grownBy_new_block (grownBy_new_block hg _) _) _⟩, by simp [intOf]; omega⟩
      · have hke : S.take k = S := List.take_of_length_le (by omega)
        have HOf := HOl.out
        rw [hke] at HOf
        clear hke
        by_cases hlong : 255 < O.size
        · have j1 : (255 : Int) < (O.size : Int) := by omega
          have HF := Lib.hid (show keyE L = 4 by rw [HK2.out, ← HOf, if_pos (show 255 < O.data.toList.length from hlong)])
          clear hlong HOf
          go_wp2_with fail
          go_ret2
          exact ⟨by rw [HF.out, HY.out, HF.out]; rfl, grownBy_trans HG.out hg⟩
        · have j1 : (O.size : Int) ≤ 255 := by omega
          have HF := Lib.hid (show keyE L = 0 by rw [HK2.out, ← HOf, if_neg (show ¬ 255 < O.data.toList.length from hlong)])
          have HQ := Lib.hid (show keyY L = O by rw [HY.out, HF.out, if_pos rfl]; exact (ba_eq HOf).symm)
          clear hlong HOf
          go_wp2_with fail
          go_ret2
          exact ⟨by rw [HF.out, HQ.out]; rfl, grownBy_trans HG.out hg⟩
  · have C2 := C.out
    unfold SortP at C2
    have HF := Lib.hid (HK.out.trans (if_pos hE))
    have HF2 := Lib.hid (show keyY L = ⟨#[]⟩ by rw [HY.out, HF.out, if_neg hE])
    generalize sortE L = EE at *
    rw [if_neg hE] at C2
    have C3 := Lib.hid C2
    have he2 : (EE != 0) = true := by simpa using hE
    have he3 : (EE == 0) = false := by simpa using hE
    clear C C2 HK H0 HM hE
    go_wp2_with (go_at_call 92; refine C3.out.mono ?_; rintro e w2 ⟨v2, rfl, o2, g2⟩; obtain ⟨a2, c2, rfl⟩ := o2.shape)
    go_ret2
    exact ⟨by rw [HF.out, HF2.out]; rfl, g2⟩
end Go.Proofs.Ytniokdflljchgaa
