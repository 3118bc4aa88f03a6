/- The lines of all tracked keys: the reference. Lists of texts compared. -/
import Derived.Test.YtiagjiaahnkefaaAll
import Derived.Test.YtiagjiaahnkefaaRkeys
import Derived.Test.YtiagjiaahnkefaaLine3
namespace Go.Proofs.Ytiagjiaahnkefaa
open Go.RowKit Go.Sort
attribute [local go_sem ↓] exec_load_cfg
attribute [local go_sem] run_loadCfgS

set_option maxHeartbeats 1000000 in
set_option maxRecDepth 100000 in
theorem rall_c (c : Cfg) (t : List Int) (lv : Value) (l : List Summ) (w : World) (h : RCfg w c t) (hl : SumsRd w lv l) (ho : SumsOk l) (hs : (keysL l).length ≤ 100000) (hk : ∀ s ∈ l, ∀ e ∈ s.es, e.key.size ≤ 9223372036854775807) :
    Calls Try.prog 46 #[c.val, lv] w (RetOwn lnF 3 71 (allF c t l) w) := by
  obtain ⟨la, lc, rfl⟩ := hl.rd.shape
  have Hc1 := Lib.hid fun w' (h : w.grownBy w' none) => rkeys_c _ l w' (hl.same h) hs
  have Hc2 := Lib.hid fun (b : Bytes) (hb : b ∈ keysF l) w' (g : w.grownBy w' none) => rline_c c t _ l (bA b) w' (h.same g) (hl.same g) ho (by
    obtain ⟨s, h1, e, h2, rfl⟩ := mem_keysF hb
    have := hk s h1 e h2
    show (entK e).toArray.size ≤ _
    simpa [entK] using this)
  have HKl := Lib.hid (keysF_len l)
  have HA := Lib.hid (show allF c t l = (keysF l).map (lnOf c t l) from rfl)
  have hln : ∀ b, lnOf c t l b = ⟨bA b, (lineF c t l (bA b)).1, (lineF c t l (bA b)).2⟩ := fun _ => rfl
  have Hln := Lib.hid hln
  have Hs := Lib.hid hs
  clear h hl ho hs hk hln
  generalize allF c t l = AL at *
  generalize keysF l = K at *
  go_enter Try.func46, Try.ntmps46
  go_upto_region 2 with (refine box_cfg rfl _ rfl c rfl ?_; intro w1 B1 G1 z1)
  go_wp2_with (go_at_call 40; refine (Hc1.out _ G1).mono ?_; rintro e w2 ⟨v2, rfl, o2, g2⟩; have R2 := o2.rd; obtain ⟨ka, kc, rfl⟩ := R2.shape)
  have B2 := B1.same g2
  have K2 := grownBy_trans G1 g2
  have hkm := R2.2.1
  clear o2 B1 Hc1
  go_loopw [5, 11] (fun s7 s13 wk => ∃ (j : Nat), j ≤ K.length ∧ s13 = .int .i64 j ∧ Own lnF 3 71 w2.heap.size wk s7 ((K.take j).map (lnOf c t l)) ∧ w2.grownBy wk none) (fun _ s13 _ => K.length - (intOf s13).toNat)
  case atStart => exact ⟨0, Nat.zero_le _, rfl, Own.nil _ _ _ _ _, grownBy_refl _ _⟩
  case round =>
    obtain ⟨j, hj, rfl, hO, hg⟩ := hrel
    have B3 := B2.same hg
    by_cases hjl : j < K.length
    · obtain ⟨gk, ok, ck, hvk, hgk, ck0⟩ := (R2.same hg).one strB_one hjl
      cases hvk
      have HT := Lib.hid (show (K.take (j + 1)).map (lnOf c t l) = (K.take j).map (lnOf c t l) ++ [lnOf c t l K[j]] by rw [take_succ hjl, List.map_append]; rfl)
      have hcl := Lib.hid (Hc2.out _ (List.getElem_mem hjl))
      have hlb := Lib.hid (Hln.out K[j])
      have hb1 : (((K.take j).map (lnOf c t l)).length + 1) * 32 ≤ 140737488355328 := by have := HKl.out; have := Hs.out; rw [List.length_map, List.length_take]; omega
      have hb2 : ((K.take j).map (lnOf c t l)).length + 1 ≤ 9223372036854775807 := by omega
      generalize (K.take j).map (lnOf c t l) = M at *
      have hbA : (⟨K[j].toArray⟩ : ByteArray) = bA K[j] := rfl
      rw [hbA] at ck0
      generalize lnOf c t l K[j] = x at *
      generalize bA K[j] = kk at *
      generalize (lineF c t l kk).1 = lo at *
      generalize (lineF c t l kk).2 = hi at *
      have hx := hlb.out
      subst hx
      clear hlb hbA
      go_upto_region 6 with (first | (refine load_cfg rfl _ rfl _ rfl c (by assumption) ?_) | (go_at_call 43; refine (hcl.out _ (grownBy_trans K2 hg)).mono ?_; rintro e w4 ⟨rfl, g4⟩; have O4 := hO.same g4; have G4 := grownBy_trans hg g4; have hsz := G4.size; have Hcs := Lib.hid (show (#[Value.string kk, .int .u64 lo, .int .u64 hi] : Array Value).toList = lnF ⟨kk, lo, hi⟩ from rfl)) | (at_builtin; refine app_one elt_ln one_ln lnF_len O4 ⟨kk, lo, hi⟩ hb1 hb2 hsz Hcs.out rfl (.tmp 15) (.tmp 20) rfl rfl rfl ?_; intro v5 w5 o5 g5 l5))
      have K5 := grown_own G4 O4 (Nat.le_refl _) g5
      go_wp2_with fail
      exact ⟨⟨j + 1, by omega, by go_num, by rw [HT.out]; exact o5, K5⟩, by simp [intOf]; omega⟩
    · have hke : K.take j = K := List.take_of_length_le (by omega)
      rw [hke] at hO
      go_wp2_with fail
      go_ret
      refine ⟨_, rfl, ?_, grownBy_trans K2 hg⟩
      rw [HA.out]
      exact hO.base fun k hk => Nat.le_trans K2.size (hO.lt k hk).1

set_option maxHeartbeats 400000 in
theorem sameTexts_c (v v' : Value) (L : List Bytes) (w : World) (h : RdL strB 1 w v L) (h' : RdL strB 1 w v' L) : Calls Try.prog 38 #[v, v'] w (RetBool true w) := by
  obtain ⟨a, c, rfl⟩ := h.shape
  obtain ⟨a', c', rfl⟩ := h'.shape
  have hm := h.2.1
  have hne : ((L.length : Int) != (L.length : Int)) = false := by simp
  have H := Lib.hid h
  have H' := Lib.hid h'
  clear h h'
  go_enter Try.func38, Try.ntmps38
  go_wp2_with fail
  go_loopw [13] (fun s13 wr => ∃ k : Nat, k ≤ L.length ∧ s13 = .int .i64 k ∧ w.grownBy wr none) (fun s13 _ => L.length - (intOf s13).toNat)
  case atStart => exact ⟨0, Nat.zero_le _, rfl, grownBy_refl _ _⟩
  case round =>
    obtain ⟨k, hk, rfl, hg⟩ := hrel
    by_cases hlt : k < L.length
    · obtain ⟨g, off, cap, hv, hgl, hc⟩ := (RdL.same H.out hg).one strB_one hlt
      obtain ⟨g', off', cap', hv', hgl', hc'⟩ := (RdL.same H'.out hg).one strB_one hlt
      cases hv
      cases hv'
      generalize L[k] = x at *
      have hk0 : (0 : Int) ≤ (k : Int) := by omega
      have hk1 : (k : Int) < (L.length : Int) := by omega
      go_wp2_with fail
      go_quiet (fail)
      go_wp2_with fail
      exact ⟨⟨k + 1, by omega, by go_num, grownBy_drewN hg _⟩, by simp [intOf]; omega⟩
    · go_wp2_with fail
      go_ret
      exact retBool rfl hg
end Go.Proofs.Ytiagjiaahnkefaa
