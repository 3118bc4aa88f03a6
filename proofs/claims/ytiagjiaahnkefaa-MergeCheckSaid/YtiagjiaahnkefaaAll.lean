/- The lines of all tracked keys: the program; lists of lines compared. -/
import Derived.Test.YtiagjiaahnkefaaKeys
import Derived.Test.YtiagjiaahnkefaaLine2
import Derived.Test.YtiagjiaahnkefaaLn
namespace Go.Proofs.Ytiagjiaahnkefaa
open Go.RowKit Go.Sort
attribute [local go_sem ↓] exec_load_cfg
attribute [local go_sem] run_loadCfgS

def bA (b : Bytes) : ByteArray := ⟨b.toArray⟩
def lnOf (c : Cfg) (t : List Int) (l : List Summ) (b : Bytes) : Ln := ⟨bA b, (lineF c t l (bA b)).1, (lineF c t l (bA b)).2⟩
def allF (c : Cfg) (t : List Int) (l : List Summ) : List Ln := (keysF l).map (lnOf c t l)
theorem mem_keysF {l : List Summ} {b : Bytes} (h : b ∈ keysF l) : ∃ s ∈ l, ∃ e ∈ s.es, b = entK e := by
  have := ((ascF_ok _).2 b).1 h
  obtain ⟨s, hs, he⟩ := List.mem_flatMap.1 this
  obtain ⟨e, h1, h2⟩ := List.mem_map.1 he
  exact ⟨s, hs, e, h1, h2.symm⟩
theorem keysF_len (l : List Summ) : (keysF l).length ≤ (keysL l).length := by
  unfold keysF ascF
  exact Nat.le_trans (Lib.compact_length_le _) (by rw [show (sortL (keysL l)).length = (keysL l).length from (List.mergeSort_perm _ _).length_eq]; exact Nat.le_refl _)

set_option maxHeartbeats 1000000 in
set_option maxRecDepth 100000 in
theorem mall_c (c : Cfg) (t : List Int) (lv : Value) (l : List Summ) (pv : Value) (P : List Int) (w : World) (h : RCfg w c t) (hl : SumsRd w lv l) (ho : SumsOk l) (hs : (keysL l).length ≤ 100000) (hk : ∀ s ∈ l, ∀ e ∈ s.es, e.key.size ≤ 9223372036854775807) (hp : RdL intF 1 w pv P) :
    Calls Try.prog 45 #[c.val, lv, pv] w (RetOwn lnF 3 71 (allF c t l) w) := by
  obtain ⟨la, lc, rfl⟩ := hl.rd.shape
  obtain ⟨pa, pc, rfl⟩ := hp.shape
  have Hc1 := Lib.hid fun w' (h : w.grownBy w' none) => mkeys_c _ l w' (hl.same h) hs
  have Hc2 := Lib.hid fun (b : Bytes) (hb : b ∈ keysF l) w' (g : w.grownBy w' none) => line_c c t _ l (bA b) _ P w' (h.same g) (hl.same g) ho (RdL.same hp g) (by
    obtain ⟨s, h1, e, h2, rfl⟩ := mem_keysF hb
    have := hk s h1 e h2
    show (entK e).toArray.size ≤ _
    simpa [entK] using this)
  have HKl := Lib.hid (keysF_len l)
  have HA := Lib.hid (show allF c t l = (keysF l).map (lnOf c t l) from rfl)
  have hln : ∀ b, lnOf c t l b = ⟨bA b, (lineF c t l (bA b)).1, (lineF c t l (bA b)).2⟩ := fun _ => rfl
  have Hln := Lib.hid hln
  have Hs := Lib.hid hs
  clear h hl ho hs hk hp hln
  generalize allF c t l = AL at *
  generalize keysF l = K at *
  go_enter Try.func45, Try.ntmps45
  go_upto_region 2 with (refine box_cfg rfl _ rfl c rfl ?_; intro w1 B1 G1 z1)
  go_wp2_with (go_at_call 39; refine (Hc1.out _ G1).mono ?_; rintro e w2 ⟨v2, rfl, o2, g2⟩; have R2 := o2.rd; obtain ⟨ka, kc, rfl⟩ := R2.shape)
  have B2 := B1.same g2
  have K2 := grownBy_trans G1 g2
  have hkm := R2.2.1
  clear o2 B1 Hc1
  go_loopw [7, 13] (fun s7 s13 wk => ∃ (j : Nat), j ≤ K.length ∧ s13 = .int .i64 j ∧ Own lnF 3 71 w2.heap.size wk s7 ((K.take j).map (lnOf c t l)) ∧ w2.grownBy wk none) (fun _ s13 _ => K.length - (intOf s13).toNat)
  case atStart => exact ⟨0, Nat.zero_le _, rfl, Own.nil _ _ _ _ _, grownBy_refl _ _⟩
  case round =>
    obtain ⟨j, hj, rfl, hO, hg⟩ := hrel
    have B3 := B2.same hg
    by_cases hjl : j < K.length
    · obtain ⟨gk, ok, ck, hvk, hgk, ck0⟩ := (R2.same hg).one strB_one hjl
      cases hvk
      have HT := Lib.hid (show (K.take (j + 1)).map (lnOf c t l) = (K.take j).map (lnOf c t l) ++ [lnOf c t l K[j]] by rw [take_succ hjl, List.map_append]; rfl)
      have hcl := Lib.hid (Hc2.out _ (List.getElem_mem hjl))
      have hlb := Lib.hid (Hln.out K[j])
      have hb1 : (((K.take j).map (lnOf c t l)).length + 1) * 32 ≤ 140737488355328 := by have := HKl.out; have := Hs.out; rw [List.length_map, List.length_take]; omega
      have hb2 : ((K.take j).map (lnOf c t l)).length + 1 ≤ 9223372036854775807 := by omega
      generalize (K.take j).map (lnOf c t l) = M at *
      have hbA : (⟨K[j].toArray⟩ : ByteArray) = bA K[j] := rfl
      rw [hbA] at ck0
      generalize lnOf c t l K[j] = x at *
      generalize bA K[j] = kk at *
      generalize (lineF c t l kk).1 = lo at *
      generalize (lineF c t l kk).2 = hi at *
      have hx := hlb.out
      subst hx
      clear hlb hbA
      go_upto_region 6 with (first | (refine load_cfg rfl _ rfl _ rfl c (by assumption) ?_) | (go_at_call 33; refine (hcl.out _ (grownBy_trans K2 hg)).mono ?_; rintro e w4 ⟨rfl, g4⟩; have O4 := hO.same g4; have G4 := grownBy_trans hg g4; have hsz := G4.size; have Hcs := Lib.hid (show (#[Value.string kk, .int .u64 lo, .int .u64 hi] : Array Value).toList = lnF ⟨kk, lo, hi⟩ from rfl)) | (at_builtin; refine app_one elt_ln one_ln lnF_len O4 ⟨kk, lo, hi⟩ hb1 hb2 hsz Hcs.out rfl (.tmp 17) (.tmp 23) rfl rfl rfl ?_; intro v5 w5 o5 g5 l5))
      have K5 := grown_own G4 O4 (Nat.le_refl _) g5
      go_wp2_with fail
      exact ⟨⟨j + 1, by omega, by go_num, by rw [HT.out]; exact o5, K5⟩, by simp [intOf]; omega⟩
    · have hke : K.take j = K := List.take_of_length_le (by omega)
      rw [hke] at hO
      go_wp2_with fail
      go_ret
      refine ⟨_, rfl, ?_, grownBy_trans K2 hg⟩
      rw [HA.out]
      exact hO.base fun k hk => Nat.le_trans K2.size (hO.lt k hk).1
end Go.Proofs.Ytiagjiaahnkefaa
