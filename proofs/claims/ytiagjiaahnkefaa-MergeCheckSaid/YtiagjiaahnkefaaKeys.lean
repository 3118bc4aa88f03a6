/- The keys of summaries: the program (sorted, compacted) and the reference (inserted one by one). -/
import Derived.Test.YtiagjiaahnkefaaKeysP
import Derived.Test.YtiagjiaahnkefaaBounds
import Derived.Sort.OwnSorted
namespace Go.Proofs.Ytiagjiaahnkefaa
open Go.RowKit Go.Sort

def strB (b : Bytes) : List Value := [.string ⟨b.toArray⟩]
theorem strB_len (b : Bytes) : (strB b).length = 1 := rfl
theorem strB_one (b : Bytes) : strB b = [.string ⟨b.toArray⟩] := rfl
theorem one_str : OneF strB := by intro x u hu; simp [strB] at hu; subst hu; rfl
theorem elt_str : Elt 59 9 (.string ⟨#[]⟩) 1 16 := ⟨Try.underlying59, by kernel_rfl, rfl, by decide⟩
theorem enc_key (k : ByteArray) : Value.string ⟨k.data.toList.toArray⟩ = .string k := by simp
theorem cells_strB (l : List Bytes) : cellsOf strB l = l.map encStr := by
  induction l with
  | nil => rfl
  | cons x l ih => simp only [cellsOf, List.flatMap_cons, List.map_cons] at *; rw [ih]; rfl

theorem ksort_c (B : Nat) (a : Option Addr) (c : Nat) (L : List Bytes) (w : World) (h : Own strB 1 9 B w (.slice a L.length c) L) (hL : L.length ≤ 1000000) :
    Calls Try.prog 85 #[.slice a L.length c] w fun e w' =>
      e = .returned (.tuple #[]) ∧ Own strB 1 9 B w' (.slice a L.length c) (sortL L) ∧ w.grownBy w' (Value.ownBlock (.slice a L.length c)) := by
  have hl : (sortL L).length = L.length := (List.mergeSort_perm L _).length_eq
  rcases h.2 with ⟨hn, h0⟩ | ⟨g, cap, cur, hv, hb, hg, h1, h2, h3, h4⟩
  · have hL0 : L = [] := List.length_eq_zero_iff.1 h0
    subst hL0
    cases hn
    refine (Try.slices_Sort_string_none none 0 w).mono ?_
    rintro e w' ⟨rfl, rfl⟩
    exact ⟨rfl, by simpa [sortL] using h, grownBy_refl _ _⟩
  · cases hv
    have hH : Holds encStr w g 0 L.toArray := holds_of_block hg (by rw [← cells_strB, ← h4]; simp)
    refine (Try.slices_Sort_string g 0 c L w hH (Array.getElem?_eq_some_iff.1 hg).1 (by omega)).mono ?_
    rintro e w' ⟨rfl, q, os, rfl⟩
    have hown := ownsRow_sorted (w := w) (n := q) (os := os) (e := 9) (ss := L) (ts := sortL L) hl hb hg h1 h2 h3
    refine ⟨rfl, ?_, grownBy_sorted (w := w) (g := g) (n := q) (os := os) (sortL L).toArray⟩
    unfold Own
    rw [cells_strB, hl]
    exact hown
theorem kcompact_c (B : Nat) (a : Option Addr) (c : Nat) (L : List Bytes) (w : World) (h : Own strB 1 9 B w (.slice a L.length c) L) :
    Calls Try.prog 86 #[.slice a L.length c] w fun e w' =>
      e = .returned (.slice a (Lib.compact L).length c) ∧ Own strB 1 9 B w' (.slice a (Lib.compact L).length c) (Lib.compact L) ∧ w.grownBy w' (Value.ownBlock (.slice a L.length c)) := by
  have hle : (Lib.compact L).length ≤ L.length := Lib.compact_length_le L
  rcases h.2 with ⟨hn, h0⟩ | ⟨g, cap, cur, hv, hb, hg, h1, h2, h3, h4⟩
  · have hL0 : L = [] := List.length_eq_zero_iff.1 h0
    subst hL0
    cases hn
    refine (Try.slices_Compact_string_empty none 0 w).mono ?_
    rintro e w' ⟨rfl, rfl⟩
    exact ⟨rfl, h, grownBy_refl _ _⟩
  · cases hv
    have hH : Holds encStr w g 0 L.toArray := holds_of_block hg (by rw [← cells_strB, ← h4]; simp)
    refine (Try.slices_Compact_string g 0 c L w hH (by unfold maxLen at h2; omega) h1).mono ?_
    rintro e w' ⟨rfl, q, rfl⟩
    have hts : (Lib.compact L ++ List.replicate (L.length - (Lib.compact L).length) []).length = L.length := by simp; omega
    have hown := ownsRow_sorted (w := w) (n := q) (os := #[]) (e := 9) (ss := L) (ts := Lib.compact L ++ List.replicate (L.length - (Lib.compact L).length) []) hts hb hg h1 h2 h3
    rw [grow_empty] at hown
    refine ⟨rfl, ?_, ?_⟩
    · rcases hown.2 with ⟨hn, _⟩ | ⟨g', cap', cur', hv', hb', hg', q1, q2, q3, q4⟩
      · cases hn
      cases hv'
      refine ⟨by rw [length_cellsOf _ 1 strB_len], .inr ⟨g, c, cur', rfl, hb, hg', by omega, q2, q3, ?_⟩⟩
      have e2 : cur'.toList.take ((Lib.compact L).length * 1) = (cur'.toList.take (L.length * 1)).take ((Lib.compact L).length * 1) := by rw [List.take_take, Nat.min_eq_left (by omega)]
      rw [e2, q4, cells_strB, List.map_append, Nat.mul_one, List.take_left' (by simp)]
    · have := grownBy_sorted (w := w) (g := g) (n := q) (os := #[]) (Lib.compact L ++ List.replicate (L.length - (Lib.compact L).length) []).toArray
      rw [grow_empty] at this
      exact this

def entK (e : Ent) : Bytes := e.key.data.toList
theorem keysL_snoc (l : List Summ) (s : Summ) : keysL (l ++ [s]) = keysL l ++ s.es.map entK := by simp [keysL, entK]
theorem keysL_take_le (l : List Summ) (k : Nat) : (keysL (l.take k)).length ≤ (keysL l).length := by
  have : keysL l = keysL (l.take k) ++ keysL (l.drop k) := by unfold keysL; rw [← List.flatMap_append, List.take_append_drop]
  rw [this, List.length_append]; omega

set_option maxHeartbeats 600000 in
set_option maxRecDepth 100000 in
theorem mkeys_c (v : Value) (l : List Summ) (w : World) (h : SumsRd w v l) (hs : (keysL l).length ≤ 100000) : Calls Try.prog 39 #[v] w (RetOwn strB 1 9 (keysF l) w) := by
  obtain ⟨a, c, rfl⟩ := h.rd.shape
  have hm := h.rd.2.1
  have H := Lib.hid h
  have Hs := Lib.hid hs
  clear h hs
  go_enter Try.func39, Try.ntmps39
  go_wp2_with fail
  go_loopw [3, 10] (fun s3 s10 wk => ∃ (k : Nat), k ≤ l.length ∧ s10 = .int .i64 k ∧ Own strB 1 9 w.heap.size wk s3 (keysL (l.take k)) ∧ w.grownBy wk none) (fun _ s10 _ => l.length - (intOf s10).toNat)
  case atStart => exact ⟨0, Nat.zero_le _, rfl, Own.nil _ _ _ _ _, grownBy_refl _ _⟩
  case round =>
    obtain ⟨k, hk, rfl, hO, hg⟩ := hrel
    by_cases hlt : k < l.length
    · obtain ⟨g, off, cap, hv, hgl, c0, c1, c2, c3, hR, hW⟩ := (H.out.same hg).at_ hlt
      cases hv
      have HS := Lib.hid (take_succ hlt)
      have Hk := Lib.hid (keysL_snoc (l.take k) l[k])
      have hbig := Lib.hid (keysL_take_le l (k + 1))
      obtain ⟨a1, k1, e1⟩ := hR.es.shape
      obtain ⟨a2, k2, e2⟩ := hR.vs.shape
      have Hes := Lib.hid (H.out.all _ (List.getElem_mem hlt)).es
      rw [e1] at c1 Hes
      rw [e2] at c3
      rw [HS.out] at hbig
      clear hR hW e1 e2
      generalize keysL (l.take k) = K at *
      generalize l[k] = s at *
      have hem := Hes.out.2.1
      go_upto_region 6 with fail
      have O1 := hO.same (World.grownBy_alloc wr (.cells #[.int .u64 s.total, .slice a1 s.es.length k1, .int .u64 s.untr, .slice a2 s.vs.length k2] 68) none)
      have G1 := grownBy_new_block hg (.cells #[.int .u64 s.total, .slice a1 s.es.length k1, .int .u64 s.untr, .slice a2 s.vs.length k2] 68)
      have hn0 : wr.heap.size ≤ (wr.alloc (.cells #[.int .u64 s.total, .slice a1 s.es.length k1, .int .u64 s.untr, .slice a2 s.vs.length k2] 68)).heap.size := by simp
      generalize wr.alloc (.cells #[.int .u64 s.total, .slice a1 s.es.length k1, .int .u64 s.untr, .slice a2 s.vs.length k2] 68) = w1 at *
      clear hO hg c0 c1 c2 c3 hgl
      have hKb : K.length + s.es.length ≤ 100000 := by
        have h1 := hbig.out
        have h2 := Hs.out
        rw [Hk.out, List.length_append, List.length_map] at h1
        omega
      go_loopw [3, 17] (fun s3 s17 wk => ∃ (j : Nat), j ≤ s.es.length ∧ s17 = .int .i64 j ∧ Own strB 1 9 w.heap.size wk s3 (K ++ (s.es.take j).map entK) ∧ w.grownBy wk none) (fun _ s17 _ => s.es.length - (intOf s17).toNat)
      case atStart => exact ⟨0, Nat.zero_le _, rfl, by simpa using O1, G1⟩
      case round =>
        obtain ⟨j, hj, rfl, hO, hg⟩ := hrel
        by_cases hjl : j < s.es.length
        · obtain ⟨ge, oe, ce, hve, hge, d0, d1, d2⟩ := RdL.ent (RdL.same Hes.out hg) hjl
          cases hve
          have HT := Lib.hid (take_succ hjl)
          have hbb : (K ++ (s.es.take j).map entK).length ≤ 100000 := by rw [List.length_append, List.length_map, List.length_take]; omega
          have hb1 : ((K ++ (s.es.take j).map entK).length + 1) * 16 ≤ 140737488355328 := by omega
          have hb2 : (K ++ (s.es.take j).map entK).length + 1 ≤ 9223372036854775807 := by omega
          generalize hKK : K ++ (s.es.take j).map entK = KK at *
          have HKK := Lib.hid hKK
          clear hKK
          generalize s.es[j] = en at *
          go_upto_region 8 with fail
          have O2 := hO.same (World.grownBy_alloc wr (.cells #[.string en.key, .int .u64 en.own, .int .u64 en.slack] 77) none)
          have G2 := grownBy_new_block hg (.cells #[.string en.key, .int .u64 en.own, .int .u64 en.slack] 77)
          have A2 := (Blk.new wr #[.string en.key, .int .u64 en.own, .int .u64 en.slack] 77).cell
          have hsz := G2.size
          have Hcs := Lib.hid (show (#[Value.string en.key] : Array Value).toList = strB (entK en) by simp [strB, entK])
          generalize wr.alloc (.cells #[.string en.key, .int .u64 en.own, .int .u64 en.slack] 77) = w2 at *
          clear hO hg d0 d1 d2 hge
          go_wp2_with (at_builtin; refine app_one elt_str one_str strB_len O2 (entK en) hb1 hb2 hsz Hcs.out rfl (.tmp 21) (.tmp 24) rfl rfl rfl ?_; intro v3 w3 o3 g3 l3)
          exact ⟨⟨j + 1, by omega, by go_num, by rw [HT.out, List.map_append, ← List.append_assoc, HKK.out]; exact o3, grown_own G2 O2 (Nat.le_refl _) g3⟩, by simp [intOf]; omega⟩
        · have hje : s.es.take j = s.es := List.take_of_length_le (by omega)
          rw [hje] at hO
          go_wp2_with fail
          exact ⟨⟨k + 1, by omega, by go_num, by rw [HS.out, Hk.out]; exact hO, hg⟩, by simp [intOf]; omega⟩
    · have hke : l.take k = l := List.take_of_length_le (by omega)
      rw [hke] at hO
      obtain ⟨ra, rc, rfl⟩ := hO.shape
      have HO := Lib.hid hO
      have hb := Hs.out
      have HF := Lib.hid (show keysF l = Lib.compact (sortL (keysL l)) from rfl)
      have hsl : (sortL (keysL l)).length = (keysL l).length := (List.mergeSort_perm _ _).length_eq
      clear hO
      generalize keysF l = FF at *
      generalize keysL l = K at *
      have hc1 := ksort_c w.heap.size ra rc K wr HO.out (by omega)
      have Hc2 := Lib.hid fun w' h => kcompact_c w.heap.size ra rc (sortL K) w' h
      rw [hsl] at Hc2
      rw [← HF.out] at Hc2
      go_wp2_with (first
        | (go_at_call 85; refine hc1.mono ?_; rintro e w2 ⟨rfl, o2, g2⟩)
        | (go_at_call 86; refine (Hc2.out _ o2).mono ?_; rintro e w3 ⟨rfl, o3, g3⟩))
      go_ret
      exact ⟨_, rfl, o3, grown_own (grown_own hg HO.out (Nat.le_refl _) g2) o2 (Nat.le_refl _) g3⟩
end Go.Proofs.Ytiagjiaahnkefaa
