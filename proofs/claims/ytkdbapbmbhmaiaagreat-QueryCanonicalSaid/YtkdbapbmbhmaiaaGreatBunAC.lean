/- Several texts in one file; each begins with a comment that says what is proved in it. -/
import Derived.Test.YtkdbapbmbhmaiaaGreatBunAB
import Derived.Test.YtkdbapbmbhmaiaaGreatBunAA
import Derived.Lib.QuietBelow
import Derived.Lib.MinMax
import Derived.Laws.Externs
import Derived.OpenShut
import Derived.WalkLawsBesides
import Derived.Deep.RegionHeld3
import Derived.Maps.AppendAt
import Derived.OwnWalk
import Derived.Deep.RegionLaw
import Derived.RegionTactic
import Derived.Deep.AppendLies
import Derived.Laws.OwnMore

/- The configurations that the deck deals, with the counts of their classes. -/
namespace Go.Proofs.YtkdbapbmbhmaiaaGreat
open Go.RowKit

theorem ClsSt.setN {B b r g : Nat} {w : World} {c : Cfg} {t : List Int} {k : Nat} {l : List (Int × Int)} {wx : World} (S : ClsSt B b r g w c t k l wx) {i : Nat} (hi : i < l.length) (v : Int) :
    ClsSt B b r g w c t k (l.set i ((l.getD i (0, 0)).1, v)) (wx.setCell ⟨k, i * 2 + 1, none⟩ (.int .i64 v)) := by
  have h1 := S.st.deck.below
  have h2 := S.st.old
  have h3 := S.st.lt
  have h4 := S.lt
  have hg : wx.grownBy (wx.setCell ⟨k, i * 2 + 1, none⟩ (.int .i64 v)) (some k) := grownBy_set (grownBy_refl wx _) _ _
  have h5 := S.st.grown.size
  have h6 := S.st.low
  refine ⟨⟨S.st.nums, S.st.deck.kept hg (by intro x hx; cases hx; omega), S.st.box.kept hg (by simp; omega), S.st.res.kept hg (by simp; omega), S.st.table.kept hg ?_, S.st.tlen, S.st.twords, S.st.tblock, S.st.lt, S.st.old, S.st.low, ?_⟩, S.spread, S.cls.set hi v, ?_, S.lt, ?_⟩
  · intro x hx a n m hv
    cases hx
    have := S.st.tblock a n m hv
    omega
  · exact ⟨S.st.grown.os, S.st.grown.tape, S.st.grown.output, by have := S.st.grown.size; simpa [World.setCell] using this, fun i hi hnn => (hg.block i (Nat.lt_of_lt_of_le hi h5) (by simp; omega)).trans (S.st.grown.block i hi hnn)⟩
  · rw [S.val]; simp
  · simpa using S.len
/-- The first j counts are set. -/
def cntTo (l : List (Int × Int)) (o : List Int) : Nat → List (Int × Int)
  | 0 => l
  | j + 1 => (cntTo l o j).set j (((cntTo l o j).getD j (0, 0)).1, o.getD j 0)
theorem cntTo_len (l : List (Int × Int)) (o : List Int) : ∀ j, (cntTo l o j).length = l.length
  | 0 => rfl
  | j + 1 => by unfold cntTo; rw [List.length_set, cntTo_len l o j]
theorem cntTo_get (l : List (Int × Int)) (o : List Int) : ∀ (j i : Nat) (p : Int × Int), l[i]? = some p → (cntTo l o j)[i]? = some (p.1, if i < j then o.getD i 0 else p.2)
  | 0, i, p, h => by simpa [cntTo] using h
  | j + 1, i, p, h => by
    have ih := cntTo_get l o j i p h
    have hl := (List.getElem?_eq_some_iff.1 h).1
    unfold cntTo
    rw [List.getElem?_set]
    by_cases e : j = i
    · subst e
      rw [if_pos rfl, if_pos (by rw [cntTo_len]; exact hl), if_pos (by omega)]
      rw [List.getD_eq_getElem?_getD, ih]
      rfl
    · rw [if_neg e, ih]
      by_cases h2 : i < j
      · rw [if_pos h2, if_pos (by omega)]
      · rw [if_neg h2, if_neg (by omega)]
theorem cntTo_get' {l : List (Int × Int)} {o : List Int} {j i : Nat} {p : Int × Int} (h : (cntTo l o j)[i]? = some p) : ∃ q, l[i]? = some q ∧ p = (q.1, if i < j then o.getD i 0 else q.2) := by
  have hl := (List.getElem?_eq_some_iff.1 h).1
  rw [cntTo_len] at hl
  have := cntTo_get l o j i _ (List.getElem?_eq_getElem hl)
  rw [h] at this
  exact ⟨_, List.getElem?_eq_getElem hl, Option.some.inj this⟩
theorem cntTo_sizes (l : List (Int × Int)) (o : List Int) (j : Nat) : (cntTo l o j).map (·.1) = l.map (·.1) := by
  apply List.ext_getElem?
  intro i
  rw [List.getElem?_map, List.getElem?_map]
  cases h : l[i]? with
  | none => rw [List.getElem?_eq_none (by rw [cntTo_len]; exact List.getElem?_eq_none_iff.1 h)]
  | some p => rw [cntTo_get l o j i p h]; rfl
/-- The classes suit, and each has just as many slots as are demanded. -/
structure ClsFit (c : Cfg) (l : List (Int × Int)) : Prop where
  cls : CfgCls c l
  cnt : ∀ i (hi : i < l.length), l[i].2 = (demF c l)[i]?.getD 0
theorem cnt_all {c : Cfg} {l l' : List (Int × Int)} (hc : CfgCls c l) (hn : CfgNums c) (h : l' = cntTo l (demF c l) l.length) : ClsFit c l' := by
  subst h
  have hs := cntTo_sizes l (demF c l) l.length
  have hd : demF c (cntTo l (demF c l) l.length) = demF c l := demF_sizes hs
  refine ⟨⟨⟨by rw [cntTo_len]; exact hc.ok.pos, by rw [cntTo_len]; exact hc.ok.len, fun i p hp => ?_, fun i p q hp hq => ?_⟩, fun p hp => ?_⟩, fun i hi => ?_⟩
  · obtain ⟨q, hq, rfl⟩ := cntTo_get' hp
    have h1 := hc.ok.size i q hq
    have h2 := demF_le hn hc i
    have hl := (List.getElem?_eq_some_iff.1 hq).1
    rw [if_pos hl, List.getD_eq_getElem?_getD]
    exact ⟨h1.1, h1.2.1, h2.1, by show _ ≤ _; have := h2.2; simp only; omega⟩
  · obtain ⟨p', hp', rfl⟩ := cntTo_get' hp
    obtain ⟨q', hq', rfl⟩ := cntTo_get' hq
    exact hc.ok.asc i p' q' hp' hq'
  · rw [cntTo_len] at hp
    obtain ⟨q, hq, rfl⟩ := cntTo_get' hp
    exact hc.last q hq
  · rw [hd]
    have hi2 : i < l.length := by rw [cntTo_len] at hi; exact hi
    have := cntTo_get l (demF c l) l.length i _ (List.getElem?_eq_getElem hi2)
    rw [List.getElem?_eq_getElem hi, if_pos hi2, List.getD_eq_getElem?_getD] at this
    rw [Option.some.inj this]
/-- The configuration that is dealt: valid, and its classes have the slots that are demanded. -/
def ConfigPost4 (B b : Nat) (w : World) (e : Ending) (w' : World) : Prop :=
  ∃ c l t, e = .returned c.val ∧ CfgNums c ∧ CfgMem c l t w' ∧ Deck B w' b ∧ w.grownBy w' (some b) ∧ (∀ a n m, c.Table = .slice (some a) n m → w.heap.size ≤ a.block) ∧ (∀ a n m, c.Classes = .slice (some a) n m → w.heap.size ≤ a.block) ∧ Nums0 c ∧ ClsFit c l
attribute [local go_sem ↓] exec_load_cfg
attribute [local go_sem] run_loadCfgS

set_option maxHeartbeats 1000000 in
set_option maxRecDepth 100000 in
theorem config4_c {B : Nat} (b : Nat) (w : World) (hd : Deck B w b) (hB : B ≤ w.heap.size) :
    Calls Tryz.prog 7 #[.pointer (some ⟨b, 0, none⟩)] w (ConfigPost4 B b w) := by
  have hbB := hd.below
  go_enter Tryz.func7, Tryz.ntmps7
  go_upto_region 1 with (refine alloc_cfg rfl rfl ?_; intro w1 BR GG z1)
  replace hd := hd.kept GG (by simp)
  replace GG := grownBy_some GG (some b)
  have hB1 : B ≤ w1.heap.size := by omega
  simp only [Act.put, List.setIfInBounds_toArray, List.set_cons_zero, List.set_cons_succ]
  go_cut [3] (fun s3 wx => ∃ g c t, s3 = .pointer (some ⟨g, 0, none⟩) ∧ MakeSt B b w.heap.size g w c t wx)
  case first =>
    go_wp2_with (first | (refine alloc_cfg rfl rfl ?_; intro w4 BG G4 z4; replace BR := BR.same G4; have ht7 := ht6.same G4; have hd4 := Deck.kept (by assumption) G4 (by simp); replace GG := grownBy_trans GG (grownBy_some G4 (some b)); clear G4) | (refine store_cfg rfl _ _ rfl _ rfl ⟨_, _, _, _, _, _, _, _, _, _, _, _, _, _, _, _, _⟩ rfl rfl rfl Cfg.zero (by assumption) ?_; intro w5 BC G5) | (go_at_call 17; refine (next_c b _ _ (by assumption) (by omega) (by omega)).mono ?_; rintro e w2 ⟨r, rfl, hr0, hr1, hd2, G2⟩; replace BR := BR.kept G2 (by simp; omega); replace GG := grownBy_trans GG G2; replace hB1 := Nat.le_trans hB1 G2.size; replace z1 := Nat.lt_of_lt_of_le z1 G2.size; clear G2) | (go_at_call 18; refine (dtable_c b _ (by assumption) hB1).mono ?_; rintro e w2 ⟨tv, tl, rfl, ht1, ht2, ht3, ht4, ht5, hd2, G2⟩; obtain ⟨ta, tc, rfl⟩ := ht1.shape; replace BR := BR.kept G2 (by simp; omega); replace GG := grownBy_trans GG G2; have ht5' := Lib.hid (fun a n c h => Nat.lt_of_lt_of_le z1 (ht5 a n c h)); replace hB1 := Nat.le_trans hB1 G2.size; replace z1 := Nat.lt_of_lt_of_le z1 G2.size; clear G2 ht5) | (go_at_call 19; refine (word_c b _ (by assumption)).mono ?_; rintro e w3 ⟨r, rfl, hr0, hr1, hd3, G3⟩; replace BR := BR.kept G3 (by simp; omega); replace GG := grownBy_trans GG G3; have ht6 := ht1.kept G3 (by intro b' hb'; cases hb'; exact ht4); replace hB1 := Nat.le_trans hB1 G3.size; replace z1 := Nat.lt_of_lt_of_le z1 G3.size; clear G3))
    go_meet
    have hne : w3.heap.size ≠ w.heap.size := by omega
    have hbg : B ≤ w3.heap.size := hB1
    have hin : NotIn (.slice ta tl.length tc) w3.heap.size := fun a n k hv => Nat.ne_of_lt (ht6.blockLt (by omega) a n k hv)
    have ht8 : RdL wordF 1 w5 (.slice ta 16 tc) tl := by
      have hh : RdL wordF 1 w5 (.slice ta tl.length tc) tl := ht7.kept G5 (by intro c hc; cases hc; exact hin)
      rw [ht2] at hh; exact hh
    refine ⟨_, _, tl, rfl, ⟨⟨?_, ?_, ?_, ?_, ?_, ?_, ?_, ?_, ?_, ?_, ?_, ?_, ?_, ?_⟩, hd4.kept G5 (by intro c hc; cases hc; exact hbg), BC, BR.kept G5 (by simpa using hne), ht8, ht2, ht3, ?_, z1, hB, rfl, ?_⟩⟩
    case refine_15 => intro a n k hv; cases hv; exact ⟨ht5'.out _ _ _ rfl, ht6.blockLt (by omega) _ _ _ rfl⟩
    case refine_16 =>
      refine ⟨G5.os.trans GG.os, G5.tape.trans GG.tape, G5.output.trans GG.output, Nat.le_trans GG.size G5.size, fun i hi hn => (G5.block i (Nat.lt_of_lt_of_le hi GG.size) ?_).trans (GG.block i hi hn)⟩
      simp; omega
    all_goals (simp only; omega)
  case rest =>
    obtain ⟨g, c, t, rfl, S1⟩ := hcut
    have hn1 := S1.nums.shards
    have hlt1 := S1.lt
    have hold1 := S1.old
    have c1 := S1.box.cell
    obtain ⟨m1, m2⟩ := hn1
    have D1 := S1.deck
    go_upto_region 2 with fail
    go_cut [3] (fun s3 wx => ∃ c', s3 = .pointer (some ⟨g, 0, none⟩) ∧ MakeSt B b w.heap.size g w c' t wx ∧ 1 ≤ c'.Spread ∧ c'.Spread ≤ c'.Shards)
    case first =>
      go_wp2_with ((go_at_call 17; refine (next_c b _ _ (by assumption) (by omega) (by omega)).mono ?_; rintro e w2 ⟨r, rfl, hr0, hr1, hd2, G2⟩); have S2 := S1.next hd2 G2; have c2 := S2.box.cell; have f2 := S2.box.free; clear c1 G2)
      go_meet
      exact ⟨⟨c.Length, c.Lateness, c.Windows, c.Shards, 1 + r, c.Queue, c.Mode, c.Slots, c.Exact, c.Promote, c.Depth, c.Width, c.Top, c.Key, c.Classes, c.Table, c.Seed⟩, rfl, S2.set 4 _ rfl ⟨S2.nums.1, S2.nums.2, S2.nums.3, S2.nums.4, S2.nums.5, S2.nums.6, S2.nums.7, S2.nums.8, S2.nums.9, S2.nums.10, S2.nums.11, S2.nums.12, S2.nums.13, S2.nums.14⟩ rfl, by simp only; omega, by simp only; omega⟩
    case rest =>
    obtain ⟨c3, rfl, S3, h3a, h3b⟩ := hcut
    clear c1 D1 S1 m1 m2
    have D3 := S3.deck
    go_upto_if 54 with ((go_at_call 17; refine (next_c b _ _ (by assumption) (by omega) (by omega)).mono ?_; rintro e w2 ⟨r, rfl, hr0, hr1, hd2, G2⟩); have S4 := S3.next hd2 G2; have c4 := S4.box.cell; have f4 := S4.box.free; clear D3 G2)
    go_cut [3] (fun s3 wx => ∃ c', s3 = .pointer (some ⟨g, 0, none⟩) ∧ MakeSt B b w.heap.size g w c' t wx ∧ 1 ≤ c'.Spread ∧ c'.Spread ≤ c'.Shards)
    case first =>
      go_wp2_with fail
      · go_meet
        exact ⟨⟨c3.Length, c3.Lateness, c3.Windows, c3.Shards, c3.Spread, 64, c3.Mode, c3.Slots, c3.Exact, c3.Promote, c3.Depth, c3.Width, c3.Top, c3.Key, c3.Classes, c3.Table, c3.Seed⟩, rfl, S4.set 5 _ rfl ⟨S4.nums.1, S4.nums.2, S4.nums.3, S4.nums.4, by simp, S4.nums.6, S4.nums.7, S4.nums.8, S4.nums.9, S4.nums.10, S4.nums.11, S4.nums.12, S4.nums.13, S4.nums.14⟩ rfl, h3a, h3b⟩
      · go_meet
        exact ⟨c3, rfl, S4, h3a, h3b⟩
    case rest =>
    obtain ⟨c5, rfl, S5, h5a, h5b⟩ := hcut
    clear c4 f4 S4 S3 h3a h3b hd2
    have D5 := S5.deck
    go_upto_if 58 with ((go_at_call 17; refine (next_c b _ _ (by assumption) (by omega) (by omega)).mono ?_; rintro e w2 ⟨r, rfl, hr0, hr1, hd2, G2⟩); have S6 := S5.next hd2 G2; clear D5 G2)
    go_cut [3] (fun s3 wx => ∃ c', s3 = .pointer (some ⟨g, 0, none⟩) ∧ MakeSt B b w.heap.size g w c' t wx ∧ 1 ≤ c'.Spread ∧ c'.Spread ≤ c'.Shards)
    case first =>
      go_wp2_with ((go_at_call 17; refine (next_c b _ _ (by assumption) (by omega) (by omega)).mono ?_; rintro e w2 ⟨r, rfl, hr0, hr1, hd2, G2⟩); have S7 := S6.next hd2 G2; have c7 := S7.box.cell; have f7 := S7.box.free; clear G2)
      · go_meet
        exact ⟨⟨c5.Length, c5.Lateness, c5.Windows, c5.Shards, c5.Spread, c5.Queue, c5.Mode, c5.Slots, c5.Exact, c5.Promote, c5.Depth, c5.Width, c5.Top, 5 + r, c5.Classes, c5.Table, c5.Seed⟩, rfl, S7.set 13 _ rfl ⟨S7.nums.1, S7.nums.2, S7.nums.3, S7.nums.4, S7.nums.5, S7.nums.6, S7.nums.7, S7.nums.8, S7.nums.9, S7.nums.10, S7.nums.11, S7.nums.12, by simp only; omega, S7.nums.14⟩ rfl, h5a, h5b⟩
      · go_meet
        exact ⟨c5, rfl, S6, h5a, h5b⟩
    case rest =>
    obtain ⟨c8, rfl, S8, h8a, h8b⟩ := hcut
    clear S6 S5 h5a h5b hd2
    have c8c := S8.box.cell
    have f8 := S8.box.free
    have l8 := S8.box.lt
    go_upto_region 7 with fail
    go_cut [3] (fun s3 wx => ∃ c' k l, s3 = .pointer (some ⟨g, 0, none⟩) ∧ ClsSt B b w.heap.size g w c' t k l wx ∧ (l = fiveL ∨ l = oneL))
    case first =>
      go_wp2_with fail
      go_meet
      exact ⟨_, _, fiveL, rfl, clsSt_new S8 fiveL (by decide) ⟨h8a, h8b⟩, .inl rfl⟩
    case rest =>
    obtain ⟨c9, k9, l9, rfl, S9, hl9⟩ := hcut
    clear c8c f8 l8 S8 h8a h8b
    have D9 := S9.st.deck
    go_upto_if 72 with ((go_at_call 17; refine (next_c b _ _ (by assumption) (by omega) (by omega)).mono ?_; rintro e w2 ⟨r, rfl, hr0, hr1, hd2, G2⟩); have S10 := S9.next hd2 G2; clear D9 G2)
    go_cut [3] (fun s3 wx => ∃ c' k l, s3 = .pointer (some ⟨g, 0, none⟩) ∧ ClsSt B b w.heap.size g w c' t k l wx ∧ (l = fiveL ∨ l = oneL))
    case first =>
      have c10 := S10.st.box.cell
      have f10 := S10.st.box.free
      have l10 := S10.st.box.lt
      go_wp2_with fail
      · go_meet
        exact ⟨_, _, oneL, rfl, clsSt_new S10.st oneL (by decide) S10.spread, .inr rfl⟩
      · go_meet
        exact ⟨_, _, _, rfl, S10, hl9⟩
    case rest =>
    obtain ⟨c, k, l, rfl, S11, hl⟩ := hcut
    clear S10 S9 hl9 hd2
    have hcls : CfgCls c l := by
      have hw := S11.st.nums.width
      have hk := S11.st.nums.key
      rcases hl with rfl | rfl
      · exact ⟨five_ok, fun p hp => by simp [fiveL] at hp; subst hp; simp only; omega⟩
      · exact ⟨one_ok, fun p hp => by simp [oneL] at hp; subst hp; simp only; omega⟩
    have B11 := S11.st.box
    have Hcls := Lib.hid hcls
    clear hcls hl
    have HDl := Lib.hid (demF_len c l)
    go_wp2_with (first | (refine load_cfg rfl _ rfl _ rfl c (by assumption) ?_) | (go_at_call 20; refine (demandN_c c l t _ S11.nums S11.mem Hcls.out).mono ?_; rintro e w12 ⟨D, rfl, hD, hO, G12⟩; have S12 := S11.same G12; clear B11 G12))
    have hol := HDl.out
    obtain ⟨out, hout⟩ : ∃ out, demF c l = out := ⟨_, rfl⟩
    have HOut := Lib.hid hout
    rw [hout] at hO hol ⊢
    rw [hol]
    clear hout
    have hl8 : l.length ≤ 8 := S11.len.2
    have hkD : k < D := Nat.lt_of_lt_of_le S11.cls.lt hD
    go_loopw [83] (fun s83 wr => ∃ (j : Nat) (l' : List (Int × Int)), s83 = .int .i64 j ∧ j ≤ l.length ∧ l'.length = l.length ∧ l' = cntTo l out j ∧ ClsSt B b w.heap.size g w c t k l' wr ∧ OutAt wr D out) (fun s83 _ => l.length - (intOf s83).toNat)
    case atStart => exact ⟨0, l, rfl, Nat.zero_le _, rfl, rfl, S12, hO⟩
    case round =>
      obtain ⟨j, l', rfl, hj, hl', hct, S13, hO13⟩ := hrel
      have Hct := Lib.hid hct
      clear hct
      by_cases hlt : j < l.length
      · have hv := S13.val
        obtain ⟨r1, r2, r3⟩ := S13.st.box.re
        simp only [Cfg.arr, hv, hl'] at r3
        have r4 := cell_regrown (hO13.cell (k := j) (by omega))
        have hjo : (0 : Int) ≤ (j : Nat) := by omega
        have hjo' : ((j : Nat) : Int) < l.length := by omega
        have Hl := Lib.hid hl'
        have Hol := Lib.hid hol
        clear hv hl' hol
        go_wp2_with fail
        refine Tail.wp_region_tail_grown 9 (by kernel_rfl) (by kernel_rfl) ?_
        simp only [List.take, List.drop]
        repeat (go_big_quiet_step (fail))
        refine wpQuiet_nil ?_
        rintro _ ⟨⟨d5, os5⟩, rfl⟩
        have S14 := S13.same (grown_re wr d5 os5)
        have hO14 := hO13.kept (grown_re wr d5 os5) (by simp)
        have hx14 := S14.cls.cell (i := j) (by rw [Hl.out]; exact hlt)
        have hf14 := S14.cls.free (j * 2 + 1)
        clear r1 r2 r3 r4
        generalize Go.Sort.grow (redrawn wr d5) os5 = w14 at *
        obtain ⟨x14, hx14⟩ := hx14
        go_wp2_with fail
        have S15 := S14.setN (i := j) (by rw [Hl.out]; exact hlt) (out.getD j 0)
        refine ⟨⟨j + 1, _, by go_num, by omega, by simp [Hl.out], by rw [Hct.out]; rfl, S15, hO14.kept (grownBy_set (grownBy_refl _ _) _ _) (by simp; omega)⟩, ?_⟩
        simp [intOf]; omega
      · have B13 := S13.st.box
        have ho1 : c.Classes.oneCell' = true := by rw [S13.val]; rfl
        have ho2 : c.Table.oneCell' = true := by obtain ⟨a, cap, hv⟩ := S13.st.table.shape; rw [hv]; rfl
        go_wp2_with (first | (refine load_cfg rfl _ rfl _ rfl c (by assumption) ?_) | (refine store_cfg rfl _ _ rfl _ rfl c rfl ho1 ho2 Cfg.zero S13.st.res ?_; intro w20 B20 G20))
        obtain ⟨tt, ff, hh, hff⟩ := B20.block
        refine bodyPost_ret (v := c.val) (results_cell_row rfl _ _ w.heap.size _ _ _ _ rfl hh Tryz.underlying31 rfl size_cfg) rfl ?_
        have hm := S13.mem
        have hr1 := S13.st.lt
        have hr2 := S13.lt
        have hold := S13.st.old
        have hjl : j = l.length := by omega
        have hcl := cnt_all (l' := l') Hcls.out S13.nums (by rw [HOut.out, ← hjl]; exact Hct.out)
        refine ⟨c, l', t, rfl, S13.nums, ⟨hm.classes.kept G20 ?_, hm.table.kept G20 ?_, hm.tlen, hm.twords⟩, S13.st.deck.kept G20 (by intro x hx; cases hx; exact hold), ?_, ?_, ?_, S13.st.nums, hcl⟩
        · intro x hx a n m hv; cases hx; rw [S13.val] at hv; cases hv; simp; omega
        · intro x hx a n m hv; cases hx; have := S13.st.tblock a n m hv; omega
        · have G13 := S13.st.grown
          exact ⟨G20.os.trans G13.os, G20.tape.trans G13.tape, G20.output.trans G13.output, Nat.le_trans G13.size G20.size, fun i hi hn => (G20.block i (Nat.lt_of_lt_of_le hi G13.size) (by simp; omega)).trans (G13.block i hi hn)⟩
        · intro a n m hv; have := S13.st.tblock a n m hv; omega
        · intro a n m hv; rw [S13.val] at hv; cases hv; simp; omega
end Go.Proofs.YtkdbapbmbhmaiaaGreat

/- What functions leave: numbers and truths, the memory only grown. -/
namespace Go.Proofs.YtkdbapbmbhmaiaaGreat
open Go.RowKit

def RetInt (k : Int) (w : World) (e : Ending) (w' : World) : Prop := e = .returned (.int .i64 k) ∧ w.grownBy w' none
def RetBool (b : Bool) (w : World) (e : Ending) (w' : World) : Prop := e = .returned (.bool b) ∧ w.grownBy w' none
theorem retInt {k k' : Int} {w w' : World} (h : k = k') (hg : w.grownBy w' none) : RetInt k w (.returned (.int .i64 k')) w' := ⟨by rw [h], hg⟩
theorem retBool {k k' : Bool} {w w' : World} (h : k = k') (hg : w.grownBy w' none) : RetBool k w (.returned (.bool k')) w' := ⟨by rw [h], hg⟩
def RetTwo (k m : Int) (w : World) (e : Ending) (w' : World) : Prop := e = .returned (.tuple #[.int .i64 k, .int .i64 m]) ∧ w.grownBy w' none
theorem retTwo {k k' m m' : Int} {w w' : World} (h : k = k') (h' : m = m') (hg : w.grownBy w' none) : RetTwo k m w (.returned (.tuple #[.int .i64 k', .int .i64 m'])) w' := ⟨by rw [h, h'], hg⟩
/-- A number of 64 bits without sign. -/
def RetWord (k : Int) (w : World) (e : Ending) (w' : World) : Prop := e = .returned (.int .u64 k) ∧ w.grownBy w' none
theorem retWord {k k' : Int} {w w' : World} (h : k = k') (hg : w.grownBy w' none) : RetWord k w (.returned (.int .u64 k')) w' := ⟨by rw [h], hg⟩
/-- Whatever value. -/
def RetVal (v : Value) (w : World) (e : Ending) (w' : World) : Prop := e = .returned v ∧ w.grownBy w' none
theorem retVal {v v' : Value} {w w' : World} (h : v = v') (hg : w.grownBy w' none) : RetVal v w (.returned v') w' := ⟨by rw [h], hg⟩
end Go.Proofs.YtkdbapbmbhmaiaaGreat

/- The clock: the program's functions and the references', for all arguments. -/
namespace Go.Proofs.YtkdbapbmbhmaiaaGreat
open Go.RowKit

def cok (c : Cfg) : Bool := decide (1 ≤ c.Length ∧ c.Length ≤ 1048576 ∧ 0 ≤ c.Lateness ∧ c.Lateness ≤ 1048576 ∧ 1 ≤ c.Windows ∧ c.Windows ≤ 8)
def tok (n : Int) : Bool := decide (0 ≤ n ∧ n ≤ 1099511627776)
def checkV (c : Cfg) : Int := if cok c then 0 else 11
def winV (c : Cfg) (t : Int) : Int := if cok c && tok t then t / c.Length else 0
def lowV (c : Cfg) (m : Int) : Int := if cok c && tok m then max (m - c.Lateness) 0 / c.Length else 0
def fromV (c : Cfg) (k : Int) : Int := if cok c && tok k then k * c.Length else 0
def toV (c : Cfg) (k : Int) : Int := if cok c && tok k then (k + 1) * c.Length else 0
def verV (c : Cfg) (m t : Int) : Int := if cok c && tok m && tok t then (if winV c t < lowV c m then 3 else if lowV c m + c.Windows ≤ winV c t then 4 else 0) else 0


theorem checkV_of {c : Cfg} (h : (((((1 ≤ c.Length ∧ c.Length ≤ 1048576) ∧ 0 ≤ c.Lateness) ∧ c.Lateness ≤ 1048576) ∧ 1 ≤ c.Windows) ∧ c.Windows ≤ 8)) : checkV c = 0 := by
  unfold checkV cok; rw [if_pos]; simp; omega
theorem checkV_no {c : Cfg} (h : ¬ (((((1 ≤ c.Length ∧ c.Length ≤ 1048576) ∧ 0 ≤ c.Lateness) ∧ c.Lateness ≤ 1048576) ∧ 1 ≤ c.Windows) ∧ c.Windows ≤ 8)) : checkV c = 11 := by
  unfold checkV cok; rw [if_neg]; simp; omega


set_option maxHeartbeats 400000 in
theorem ccheck_c (c : Cfg) (w : World) : Calls Tryz.prog 51 #[c.val] w (RetInt (checkV c) w) := by
  go_enter Tryz.func51, Tryz.ntmps51
  go_wp2
  all_goals go_ret
  all_goals first | (have hx := checkV_of (c := c) (by assumption); exact retInt hx (World.grownBy_alloc w _ _)) | (have hx : checkV c = 11 := checkV_no (by omega); exact retInt hx (World.grownBy_alloc w _ _))

set_option maxHeartbeats 400000 in
theorem rcheck_c (c : Cfg) (w : World) : Calls Tryz.prog 54 #[c.val] w (RetInt (checkV c) w) := by
  go_enter Tryz.func54, Tryz.ntmps54
  go_wp2
  all_goals go_ret
  all_goals first | (have hx := checkV_of (c := c) (by assumption); exact retInt hx (World.grownBy_alloc w _ _)) | (have hx : checkV c = 11 := checkV_no (by omega); exact retInt hx (World.grownBy_alloc w _ _))

theorem checkV_ok {c : Cfg} (h : cok c = true) : (checkV c == 0) = true := by simp [checkV, h]
theorem checkV_bad {c : Cfg} (h : cok c = false) : (checkV c == 0) = false := by simp [checkV, h]

theorem rd_one (w : World) (t : Int) : RdL intF 1 (w.alloc (.cells #[.int .i64 t] 3)) (.slice (some ⟨w.heap.size, 0, none⟩) 1 1) [t] :=
  OutAt.rd (w := w.alloc (.cells (intCells [t]) 3)) (out := [t]) (heap_alloc_new w _) (by simp)
theorem rd_two (w : World) (t u : Int) : RdL intF 1 (w.alloc (.cells #[.int .i64 t, .int .i64 u] 3)) (.slice (some ⟨w.heap.size, 0, none⟩) 2 2) [t, u] :=
  OutAt.rd (w := w.alloc (.cells (intCells [t, u]) 3)) (out := [t, u]) (heap_alloc_new w _) (by simp)

theorem all_take_succ {l : List Int} {k : Nat} (p : Int → Bool) (h : k < l.length) : (l.take (k + 1)).all p = ((l.take k).all p && p l[k]) := by
  rw [List.take_succ_eq_append_getElem h, List.all_append, List.all_cons, List.all_nil, Bool.and_true]

set_option maxHeartbeats 400000 in
theorem valid_c (c : Cfg) (v : Value) (l : List Int) (w : World) (h : RdL intF 1 w v l) : Calls Tryz.prog 43 #[c.val, v] w (RetBool (l.all tok && cok c) w) := by
  obtain ⟨a, cap, rfl⟩ := h.shape
  have hm := h.2.1
  have H := Lib.hid h
  clear h
  have e1 : (checkV c == 0) = cok c := by unfold checkV; cases cok c <;> rfl
  have E1 := Lib.hid e1
  clear e1
  go_enter Tryz.func43, Tryz.ntmps43
  go_wp2_with (first | (refine box_cfg rfl _ rfl c rfl ?_; intro w1 B1 G1 z1))
  go_loopw [9] (fun s9 wr => ∃ k : Nat, k ≤ l.length ∧ s9 = .int .i64 k ∧ (l.take k).all tok = true ∧ w.grownBy wr none ∧ BoxAt wr w.heap.size c) (fun s9 _ => l.length - (intOf s9).toNat)
  case atStart => exact ⟨0, Nat.zero_le _, rfl, by simp, G1, B1⟩
  case round =>
    obtain ⟨k, hk, rfl, hall, G2, B2⟩ := hrel
    by_cases hlt : k < l.length
    · obtain ⟨g, off, cap', hv, hgl, hc⟩ := H.out.cell intF_len (by omega)
      cases hv
      have hcell : wr.cell? ⟨g, off + k, none⟩ = some (.int .i64 l[k]) := by
        rw [(grownBy_cells G2).1 _ _ hgl (by simp)]
        have := hc k l[k] (List.getElem?_eq_getElem hlt) 0 _ rfl
        simpa using this
      have hat := all_take_succ tok hlt
      obtain ⟨x, hx⟩ : ∃ x, x = l[k] := ⟨_, rfl⟩
      rw [← hx] at hat hcell
      have Hx := Lib.hid hx
      have Hat := Lib.hid hat
      have Hall := Lib.hid hall
      clear hat hc hall hx
      by_cases h0 : x < 0
      · have hf : (l.all tok && cok c) = false := by
          have ht : tok x = false := decide_eq_false fun h => by omega
          have : l.all tok = false := by rw [List.all_eq_false]; exact ⟨x, by rw [Hx.out]; exact List.getElem_mem hlt, by simp [ht]⟩
          rw [this]; rfl
        have Hf := Lib.hid hf
        clear hf
        go_wp2_with fail
        go_ret
        exact retBool Hf.out G2
      · by_cases h1 : 1099511627776 < x
        · have hf : (l.all tok && cok c) = false := by
            have ht : tok x = false := decide_eq_false fun h => by omega
            have : l.all tok = false := by rw [List.all_eq_false]; exact ⟨x, by rw [Hx.out]; exact List.getElem_mem hlt, by simp [ht]⟩
            rw [this]; rfl
          have Hf := Lib.hid hf
          have d0 : decide (x < 0) = false := decide_eq_false h0
          clear hf h0
          go_wp2_with fail
          go_ret
          exact retBool Hf.out G2
        · have d0 : decide (x < 0) = false := decide_eq_false h0
          have d1 : decide (1099511627776 < x) = false := decide_eq_false h1
          have ht : tok x = true := decide_eq_true (by omega)
          have Ht := Lib.hid ht
          clear h0 h1 ht
          go_wp2_with fail
          exact ⟨⟨k + 1, by omega, by go_num, by rw [Hat.out, Hall.out, Ht.out]; rfl, G2, B2⟩, by simp [intOf]; omega⟩
    · have hl : (l.all tok && cok c) = (checkV c == 0) := by
        rw [E1.out]
        have : l.take k = l := List.take_of_length_le (by omega)
        rw [this] at hall
        rw [hall]; rfl
      have Hl := Lib.hid hl
      clear hl hall
      go_wp2_with (first | (refine load_cfg rfl _ rfl _ rfl c (by assumption) ?_) | (go_at_call 51; refine (ccheck_c c _).mono ?_; rintro e w3 ⟨rfl, G3⟩))
      go_ret
      exact retBool Hl.out (grownBy_trans G2 G3)

theorem numsV {c : Cfg} (h : cok c = true) : (1 ≤ c.Length ∧ c.Length ≤ 1048576) ∧ (0 ≤ c.Lateness ∧ c.Lateness ≤ 1048576) ∧ (1 ≤ c.Windows ∧ c.Windows ≤ 8) := by
  simp only [cok, decide_eq_true_eq] at h; omega
theorem tokV {n : Int} (h : tok n = true) : 0 ≤ n ∧ n ≤ 1099511627776 := by
  simpa [tok] using h

set_option maxHeartbeats 400000 in
theorem cwin_c (c : Cfg) (n : Int) (w : World) : Calls Tryz.prog 27 #[c.val, .int .i64 n] w (RetInt (winV c n) w) := by
  cases hc : (tok n && cok c)
  · have hx : winV c n = 0 := by unfold winV; rw [Bool.and_comm, hc]; rfl
    have Hx := Lib.hid hx
    have hv : (([n] : List Int).all tok && cok c) = false := by simpa using hc
    have Hv := Lib.hid hv
    clear hx hc hv
    go_enter Tryz.func27, Tryz.ntmps27
    go_wp2_with (first | (refine box_cfg rfl _ rfl c rfl ?_; intro w1 B1 G1 z1) | (refine load_cfg rfl _ rfl _ rfl c (by assumption) ?_) | (go_at_call 43; refine (valid_c c _ [n] _ (rd_one _ n)).mono ?_; rw [Hv.out]; rintro e w2 ⟨rfl, G2⟩))
    go_ret
    exact retInt Hx.out (grownBy_trans G1 (grownBy_trans (World.grownBy_alloc _ _ _) G2))
  · have hx : winV c n = n / c.Length := by unfold winV; rw [Bool.and_comm, hc]; rfl
    have Hx := Lib.hid hx
    have hv : (([n] : List Int).all tok && cok c) = true := by simpa using hc
    have Hv := Lib.hid hv
    simp only [Bool.and_eq_true] at hc
    obtain ⟨⟨l0, l1⟩, _⟩ := numsV hc.2
    obtain ⟨n0, n1⟩ := tokV hc.1
    clear hx hc hv
    go_enter Tryz.func27, Tryz.ntmps27
    go_wp2_with (first | (refine box_cfg rfl _ rfl c rfl ?_; intro w1 B1 G1 z1) | (refine load_cfg rfl _ rfl _ rfl c (by assumption) ?_) | (go_at_call 43; refine (valid_c c _ [n] _ (rd_one _ n)).mono ?_; rw [Hv.out]; rintro e w2 ⟨rfl, G2⟩; have hb2 := ((B1.same (World.grownBy_alloc _ _ _)).same G2).cell))
    go_ret
    exact retInt Hx.out (grownBy_trans G1 (grownBy_trans (World.grownBy_alloc _ _ _) G2))

set_option maxHeartbeats 400000 in
theorem clow_c (c : Cfg) (n : Int) (w : World) : Calls Tryz.prog 44 #[c.val, .int .i64 n] w (RetInt (lowV c n) w) := by
  cases hc : (tok n && cok c)
  · have hx : lowV c n = 0 := by unfold lowV; rw [Bool.and_comm, hc]; rfl
    have Hx := Lib.hid hx
    have hv : (([n] : List Int).all tok && cok c) = false := by simpa using hc
    have Hv := Lib.hid hv
    clear hx hc hv
    go_enter Tryz.func44, Tryz.ntmps44
    go_wp2_with (first | (refine box_cfg rfl _ rfl c rfl ?_; intro w1 B1 G1 z1) | (refine load_cfg rfl _ rfl _ rfl c (by assumption) ?_) | (go_at_call 43; refine (valid_c c _ [n] _ (rd_one _ n)).mono ?_; rw [Hv.out]; rintro e w2 ⟨rfl, G2⟩))
    go_ret
    exact retInt Hx.out (grownBy_trans G1 (grownBy_trans (World.grownBy_alloc _ _ _) G2))
  · have hx : lowV c n = max (n - c.Lateness) 0 / c.Length := by unfold lowV; rw [Bool.and_comm, hc]; rfl
    have Hx := Lib.hid hx
    have hv : (([n] : List Int).all tok && cok c) = true := by simpa using hc
    have Hv := Lib.hid hv
    simp only [Bool.and_eq_true] at hc
    obtain ⟨⟨l0, l1⟩, ⟨l2, l3⟩, _⟩ := numsV hc.2
    obtain ⟨n0, n1⟩ := tokV hc.1
    clear hx hc hv
    go_enter Tryz.func44, Tryz.ntmps44
    go_wp2_with (first | (refine box_cfg rfl _ rfl c rfl ?_; intro w1 B1 G1 z1) | (refine load_cfg rfl _ rfl _ rfl c (by assumption) ?_) | (go_at_call 43; refine (valid_c c _ [n] _ (rd_one _ n)).mono ?_; rw [Hv.out]; rintro e w2 ⟨rfl, G2⟩; have hb2 := ((B1.same (World.grownBy_alloc _ _ _)).same G2).cell))
    go_ret
    exact retInt Hx.out (grownBy_trans G1 (grownBy_trans (World.grownBy_alloc _ _ _) G2))


theorem lowV_bd (c : Cfg) (n : Int) : 0 ≤ lowV c n ∧ lowV c n ≤ 1099511627776 := by
  unfold lowV
  split
  · rename_i h
    simp only [Bool.and_eq_true] at h
    obtain ⟨⟨l0, l1⟩, ⟨l2, l3⟩, _⟩ := numsV h.1
    obtain ⟨n0, n1⟩ := tokV h.2
    have h1 : max (n - c.Lateness) 0 / c.Length ≤ max (n - c.Lateness) 0 := Int.ediv_le_self _ (by omega)
    exact ⟨Int.ediv_nonneg (by omega) (by omega), by omega⟩
  · omega
theorem winV_bd (c : Cfg) (n : Int) : 0 ≤ winV c n ∧ winV c n ≤ 1099511627776 := by
  unfold winV
  split
  · rename_i h
    simp only [Bool.and_eq_true] at h
    obtain ⟨⟨l0, l1⟩, _⟩ := numsV h.1
    obtain ⟨n0, n1⟩ := tokV h.2
    have h1 : n / c.Length ≤ n := Int.ediv_le_self _ n0
    exact ⟨Int.ediv_nonneg n0 (by omega), by omega⟩
  · omega

attribute [local go_sem ↓] exec_load_cfg
attribute [local go_sem] run_loadCfgS

theorem verV_no {c : Cfg} {m t : Int} (h : (cok c && tok m && tok t) = false) : verV c m t = 0 := by unfold verV; rw [h]; rfl
theorem verV_yes {c : Cfg} {m t : Int} (h : (cok c && tok m && tok t) = true) : verV c m t = if winV c t < lowV c m then 3 else if lowV c m + c.Windows ≤ winV c t then 4 else 0 := by unfold verV; rw [h]; rfl

theorem verV_late {c : Cfg} {m t : Int} (h : (cok c && tok m && tok t) = true) (h1 : winV c t < lowV c m) : verV c m t = 3 := by rw [verV_yes h, if_pos h1]
theorem verV_early {c : Cfg} {m t : Int} (h : (cok c && tok m && tok t) = true) (h1 : ¬ winV c t < lowV c m) (h2 : lowV c m + c.Windows ≤ winV c t) : verV c m t = 4 := by rw [verV_yes h, if_neg h1, if_pos h2]
theorem verV_in {c : Cfg} {m t : Int} (h : (cok c && tok m && tok t) = true) (h1 : ¬ winV c t < lowV c m) (h2 : ¬ lowV c m + c.Windows ≤ winV c t) : verV c m t = 0 := by rw [verV_yes h, if_neg h1, if_neg h2]

set_option maxHeartbeats 1000000 in
set_option maxRecDepth 100000 in
theorem cver_c (c : Cfg) (m n : Int) (w : World) : Calls Tryz.prog 25 #[c.val, .int .i64 m, .int .i64 n] w (RetInt (verV c m n) w) := by
  have he : (([m, n] : List Int).all tok && cok c) = (cok c && tok m && tok n) := by simp only [List.all_cons, List.all_nil, Bool.and_true]; cases cok c <;> cases tok m <;> cases tok n <;> rfl
  have He := Lib.hid he
  clear he
  cases hc : (cok c && tok m && tok n)
  · have Hx := Lib.hid (verV_no hc)
    have Hc := Lib.hid hc
    clear hc
    go_enter Tryz.func25, Tryz.ntmps25
    go_wp2_with (first | (refine box_cfg rfl _ rfl c rfl ?_; intro w1 B1 G1 z1) | (refine load_cfg rfl _ rfl _ rfl c (by assumption) ?_) | (go_at_call 43; refine (valid_c c _ [m, n] _ (rd_two _ m n)).mono ?_; rw [He.out, Hc.out]; rintro e w2 ⟨rfl, G2⟩))
    go_ret
    exact retInt Hx.out (grownBy_trans G1 (grownBy_trans (World.grownBy_alloc _ _ _) G2))
  · have Hc := Lib.hid hc
    obtain ⟨b1, b2⟩ := lowV_bd c m
    obtain ⟨b3, b4⟩ := winV_bd c n
    have hcc : cok c = true := by simp only [Bool.and_eq_true] at hc; exact hc.1.1
    obtain ⟨_, _, l0, l1⟩ := numsV hcc
    clear hc hcc
    go_enter Tryz.func25, Tryz.ntmps25
    go_upto_region 3 with (first | (refine box_cfg rfl _ rfl c rfl ?_; intro w1 B1 G1 z1) | (refine load_cfg rfl _ rfl _ rfl c (by assumption) ?_) | (go_at_call 43; refine (valid_c c _ [m, n] _ (rd_two _ m n)).mono ?_; rw [He.out, Hc.out]; rintro e w2 ⟨rfl, G2⟩; have B2 := (B1.same (World.grownBy_alloc _ _ _)).same G2; have G3 := grownBy_trans G1 (grownBy_trans (World.grownBy_alloc _ _ _) G2)))
    obtain ⟨r1, r2, r3⟩ := B2.re
    have r4 := call_re (w := w2) fun w' _ => clow_c c m w'
    have r5 := call_re (w := w2) fun w' _ => cwin_c c n w'
    refine Tail.wp_region_tail_grown 8 (by kernel_rfl) (by kernel_rfl) ?_
    simp only [List.take, List.drop]
    repeat (go_big_quiet_step (first | (with_reducible exact r4 _ _) | (with_reducible exact r5 _ _)))
    refine wpQuiet_nil ?_
    rintro _ ⟨⟨d5, os5⟩, rfl⟩
    have B5 := (B2.same (grown_re w2 d5 os5)).cell
    have G5 := grownBy_trans G3 (grown_re w2 d5 os5)
    clear r1 r2 r3 r4 r5
    generalize Go.Sort.grow (redrawn w2 d5) os5 = w5 at *
    by_cases h1 : winV c n < lowV c m
    · have Hy := Lib.hid (verV_late Hc.out h1)
      go_wp2_with fail
      go_ret
      exact retInt Hy.out G5
    · have d1 : decide (winV c n < lowV c m) = false := decide_eq_false h1
      by_cases h2 : lowV c m + c.Windows ≤ winV c n
      · have Hy := Lib.hid (verV_early Hc.out h1 h2)
        clear h1
        go_wp2_with fail
        go_ret
        exact retInt Hy.out G5
      · have Hy := Lib.hid (verV_in Hc.out h1 h2)
        have d2 : decide (lowV c m + c.Windows ≤ winV c n) = false := decide_eq_false h2
        clear h2 h1
        go_wp2_with fail
        go_ret
        exact retInt Hy.out G5

end Go.Proofs.YtkdbapbmbhmaiaaGreat

/- Sums of weights that do not wrap. -/
namespace Go.Proofs.YtkdbapbmbhmaiaaGreat
open Go.RowKit

/-- A number of 64 bits. -/
def W64 (n : Int) : Prop := 0 ≤ n ∧ n ≤ 18446744073709551615
theorem w64_wf {n : Int} (h : (Lit.int .u64 n).wf = true) : W64 n := by have := bounds_u64 h; unfold W64; omega
theorem w64_of {n : Int} (h0 : 0 ≤ n) (h1 : n ≤ 18446744073709551615) : W64 n := ⟨h0, h1⟩
def most64 : Int := 18446744073709551615
def satA (a b : Int) : Int := if a + b ≤ 18446744073709551615 then a + b else 18446744073709551615
def fitA (a b : Int) : Bool := decide (a + b ≤ 18446744073709551615)
def RetWordBool (k : Int) (b : Bool) (w : World) (e : Ending) (w' : World) : Prop := e = .returned (.tuple #[.int .u64 k, .bool b]) ∧ w = w'
theorem retWB {k k' : Int} {b b' : Bool} {w : World} (h : k = k') (hb : b = b') : RetWordBool k b w (.returned (.tuple #[.int .u64 k', .bool b'])) w := ⟨by rw [h, hb], rfl⟩
theorem satA_w {a b : Int} (ha : W64 a) (hb : W64 b) : W64 (satA a b) := by unfold W64 satA at *; split <;> omega
def sumA (a b : Int) : Int := (a + b + 0) % 18446744073709551616
def carA (a b : Int) : Int := (a + b + 0) / 18446744073709551616
theorem sumA_fit {a b : Int} (ha : W64 a) (hb : W64 b) (h : fitA a b = true) : sumA a b = satA a b ∧ (carA a b != 0) = false := by
  unfold W64 fitA sumA satA carA at *; simp only [decide_eq_true_eq] at h
  rw [if_pos h, bne_eq_false_iff_eq]; omega
theorem sumA_not {a b : Int} (_ : W64 a) (_ : W64 b) (h : fitA a b = false) : satA a b = 18446744073709551615 ∧ (carA a b != 0) = true := by
  unfold W64 fitA satA carA at *; simp only [decide_eq_false_iff_not] at h
  rw [if_neg h, bne_iff_ne]; omega

theorem call_add64 (a b : Int) (ha : W64 a) (hb : W64 b) (w : World) : (callFunc 62 #[.int .u64 a, .int .u64 b, .int .u64 0]).run Tryz.prog w = .ok (.value (.tuple #[.int .u64 (sumA a b), .int .u64 (carA a b)])) w := by
  rw [run_callFunc_extern (e := add64Entry) Tryz.func62 (by kernel_rfl) (by kernel_rfl) (by kernel_rfl) (by kernel_rfl), run_add64 a b 0 ha.1 hb.1 (by omega) (by omega)]
  rfl

set_option maxHeartbeats 400000 in
theorem satAdd_c (a b : Int) (w : World) (ha : W64 a) (hb : W64 b) : Calls Tryz.prog 48 #[.int .u64 a, .int .u64 b] w (RetWordBool (satA a b) (fitA a b) w) := by
  have hc := call_add64 a b ha hb
  cases hf : fitA a b
  · obtain ⟨h1, h2⟩ := sumA_not ha hb hf
    have H1 := Lib.hid h1
    clear h1 hf ha hb
    go_enter Tryz.func48, Tryz.ntmps48
    go_wp2
    go_ret2
    exact retWB H1.out rfl
  · obtain ⟨h1, h2⟩ := sumA_fit ha hb hf
    have H1 := Lib.hid h1
    clear h1 hf ha hb
    go_enter Tryz.func48, Tryz.ntmps48
    go_wp2
    go_ret2
    exact retWB H1.out.symm rfl

theorem le_fit (a b : Int) : decide (18446744073709551615 - b < a) = !fitA a b := by
  unfold fitA; rw [Bool.eq_iff_iff]; simp; omega

end Go.Proofs.YtkdbapbmbhmaiaaGreat

/- Bounds: sums, caps, of entries; the program's and the references'. -/
namespace Go.Proofs.YtkdbapbmbhmaiaaGreat
open Go.RowKit

abbrev bndV (lo hi : Int) : Value := .agg #[.int .u64 lo, .int .u64 hi]
abbrev entV (k : ByteArray) (own slack : Int) : Value := .agg #[.string k, .int .u64 own, .int .u64 slack]

theorem bOf_c (k : ByteArray) (own slack : Int) (w : World) (h1 : W64 own) (h2 : W64 slack) : Calls Tryz.prog 79 #[entV k own slack] w (RetVal (bndV own (satA own slack)) w) := by
  go_enter Tryz.func79, Tryz.ntmps79
  go_wp2_with (go_at_call 48; refine (satAdd_c own slack _ h1 h2).mono ?_; rintro e w' ⟨rfl, rfl⟩)
  refine bodyPost_ret (v := bndV own (satA own slack)) (by simp [results, Tryz.results79, go_sem]) rfl ?_
  exact retVal rfl (by (repeat (first | exact grownBy_refl _ _ | assumption | refine grownBy_new_block ?_ _ | refine grownBy_drew ?_ | refine grownBy_drewN ?_ _ | refine grownBy_setNew ?_ (by first | (simp; done) | omega | (simp; omega)) _)))

theorem bCap_c (lo hi m : Int) (w : World) : Calls Tryz.prog 80 #[bndV lo hi, .int .u64 m] w (RetVal (bndV (min lo m) (min hi m)) w) := by
  go_enter Tryz.func80, Tryz.ntmps80
  go_wp2
  refine bodyPost_ret (v := bndV (min lo m) (min hi m)) (by simp [results, Tryz.results80, go_sem]) rfl ?_
  exact retVal rfl (by (repeat (first | exact grownBy_refl _ _ | assumption | refine grownBy_new_block ?_ _ | refine grownBy_drew ?_ | refine grownBy_drewN ?_ _ | refine grownBy_setNew ?_ (by first | (simp; done) | omega | (simp; omega)) _)))
theorem bAdd_c (lo hi lo' hi' : Int) (w : World) (h1 : W64 lo) (h2 : W64 hi) (h3 : W64 lo') (h4 : W64 hi') : Calls Tryz.prog 47 #[bndV lo hi, bndV lo' hi'] w (RetVal (bndV (satA lo lo') (satA hi hi')) w) := by
  go_enter Tryz.func47, Tryz.ntmps47
  go_wp2_with (first | (go_at_call_of 48 (Value.int IntKind.u64 lo); refine (satAdd_c lo lo' _ h1 h3).mono ?_; rintro e w' ⟨rfl, rfl⟩) | (go_at_call_of 48 (Value.int IntKind.u64 hi); refine (satAdd_c hi hi' _ h2 h4).mono ?_; rintro e w' ⟨rfl, rfl⟩))
  refine bodyPost_ret (v := bndV (satA lo lo') (satA hi hi')) (by simp [results, Tryz.results47, go_sem]) rfl ?_
  exact retVal rfl (by (repeat (first | exact grownBy_refl _ _ | assumption | refine grownBy_new_block ?_ _ | refine grownBy_drew ?_ | refine grownBy_drewN ?_ _ | refine grownBy_setNew ?_ (by first | (simp; done) | omega | (simp; omega)) _)))
def exactB (own slack m : Int) : Bool := decide (own + slack ≤ m)
/-- A line: a key with bounds. -/
abbrev lineV (k : ByteArray) (lo hi : Int) : Value := .agg #[.string k, .int .u64 lo, .int .u64 hi]
def beforeB (k : ByteArray) (hi : Int) (k' : ByteArray) (hi' : Int) : Bool := decide (hi' < hi) || (hi == hi' && Op.bytesLess k.toList k'.toList)
theorem before_1 {k k' : ByteArray} {hi hi' : Int} (h : hi' < hi) : beforeB k hi k' hi' = true := by unfold beforeB; rw [decide_eq_true h]; rfl
theorem before_2 {k k' : ByteArray} {hi hi' : Int} (h : hi ≤ hi') (h2 : ¬ hi = hi') : beforeB k hi k' hi' = false := by unfold beforeB; rw [decide_eq_false (by omega), beq_eq_false_iff_ne.2 h2]; rfl
theorem before_3 {k k' : ByteArray} {hi hi' : Int} (h2 : hi = hi') : beforeB k hi k' hi' = Op.bytesLess k.toList k'.toList := by unfold beforeB; rw [decide_eq_false (by omega), beq_iff_eq.2 h2]; simp
end Go.Proofs.YtkdbapbmbhmaiaaGreat

/- Slices that the call itself makes: what they hold; append; cuts of slices that are read. -/
namespace Go.Proofs.YtkdbapbmbhmaiaaGreat
open Go.RowKit

/-- v is a slice of the call's own (its block lies from B on); it holds l. -/
def Own {α : Type} (f : α → List Value) (s : Nat) (e : TypeId) (B : Nat) (w : World) (v : Value) (l : List α) : Prop := w.ownsRow B e s v l.length (cellsOf f l)
theorem Own.shape {α : Type} {f : α → List Value} {s : Nat} {e : TypeId} {B : Nat} {w : World} {v : Value} {l : List α} (h : Own f s e B w v l) : ∃ a cap, v = .slice a l.length cap := by
  rcases h.2 with ⟨rfl, h0⟩ | ⟨g, cap, cur, rfl, _⟩
  · exact ⟨_, _, by rw [h0]⟩
  · exact ⟨_, _, rfl⟩
theorem Own.nil {α : Type} (f : α → List Value) (s : Nat) (e : TypeId) (B : Nat) (w : World) : Own f s e B w (.slice none 0 0) [] := World.ownsRow_nil w B e s
theorem Own.lt {α : Type} {f : α → List Value} {s : Nat} {e : TypeId} {B : Nat} {w : World} {v : Value} {l : List α} (h : Own f s e B w v l) : ∀ k, v.ownBlock = some k → B ≤ k ∧ k < w.heap.size := World.ownsRow.lt h
theorem Own.kept {α : Type} {f : α → List Value} {s : Nat} {e : TypeId} {B : Nat} {w w' : World} {v : Value} {l : List α} {r : Option Nat} (h : Own f s e B w v l) (hg : w.grownBy w' r) (hne : ∀ k, v.ownBlock = some k → r ≠ some k) : Own f s e B w' v l := by
  refine World.ownsRow.kept h hg ?_
  cases hv : v.ownBlock with
  | none => exact .inl rfl
  | some k => exact .inr (fun e => hne k hv e.symm)
theorem Own.same {α : Type} {f : α → List Value} {s : Nat} {e : TypeId} {B : Nat} {w w' : World} {v : Value} {l : List α} (h : Own f s e B w v l) (hg : w.grownBy w' none) : Own f s e B w' v l := h.kept hg (by simp)
theorem Own.len {α : Type} {f : α → List Value} {s : Nat} {e : TypeId} {B : Nat} {w : World} {v : Value} {l : List α} (h : Own f s e B w v l) : l.length ≤ 9223372036854775807 := by
  rcases h.2 with ⟨rfl, h0⟩ | ⟨g, cap, cur, rfl, _, _, h1, h2, _⟩
  · omega
  · unfold maxLen at h2; omega
theorem Own.rd {α : Type} {f : α → List Value} {s : Nat} {e : TypeId} {B : Nat} {w : World} {v : Value} {l : List α} (h : Own f s e B w v l) : RdL f s w v l := by
  refine ⟨h.1, h.len, ?_⟩
  rcases h.2 with ⟨rfl, h0⟩ | ⟨g, cap, cur, rfl, _, hg, h1, h2, _⟩
  · exact .inl ⟨h0, none, 0, rfl⟩
  · refine .inr ⟨g, 0, cap, rfl, (Array.getElem?_eq_some_iff.1 hg).1, fun j u hu => ?_⟩
    have := World.ownsRow.cells h (g := g) rfl j u hu
    have e : (⟨g, 0, none⟩ : Addr).add j = ⟨g, 0 + j, none⟩ := by unfold Addr.add; split <;> simp_all
    rw [e] at this; exact this
theorem Own.base {α : Type} {f : α → List Value} {s : Nat} {e : TypeId} {B B' : Nat} {w : World} {v : Value} {l : List α} (h : Own f s e B w v l) (hb : ∀ k, v.ownBlock = some k → B' ≤ k) : Own f s e B' w v l := by
  refine ⟨h.1, ?_⟩
  rcases h.2 with h0 | ⟨g, cap, cur, rfl, _, hh⟩
  · exact .inl h0
  · exact .inr ⟨g, cap, cur, rfl, hb g rfl, hh⟩
/-- A step that writes the row of a slice of the call's own leaves what was there at the call's beginning as it was. -/
theorem grown_own {α : Type} {f : α → List Value} {s : Nat} {e : TypeId} {w w0 w' : World} {v : Value} {l : List α} {r : Option Nat} {B : Nat} (hg : w.grownBy w0 r) (h : Own f s e B w0 v l) (hB : w.heap.size ≤ B) (k : w0.grownBy w' v.ownBlock) : w.grownBy w' r := by
  cases hv : v.ownBlock with
  | none => rw [hv] at k; exact grownBy_trans hg (grownBy_some k _)
  | some g => rw [hv] at k; exact grownBy_new hg k (by have := h.lt g hv; omega)
/-- The rows of two slices of the call's own are two. -/
def Apart (v u : Value) : Prop := ∀ g, v.ownBlock = some g → u.ownBlock ≠ some g
theorem Apart.symm {v u : Value} (h : Apart v u) : Apart u v := fun g hg e => h g e hg
theorem apart_nil (u : Value) : Apart (.slice none 0 0) u := fun g hg => by simp [Value.ownBlock] at hg
def Lies (v v' : Value) (n : Nat) : Prop := v'.ownBlock = v.ownBlock ∨ ∃ g, v'.ownBlock = some g ∧ n ≤ g
theorem Apart.app {v u v' : Value} {n : Nat} (h : Apart v u) (hu : ∀ k, u.ownBlock = some k → k < n) (hl : Lies v v' n) : Apart v' u := by
  intro g hg e
  rcases hl with h1 | ⟨k, h1, h2⟩
  · exact h g (h1 ▸ hg) e
  · rw [h1] at hg; cases hg; have := hu _ e; omega

theorem off_new {v : Value} {n a b : Nat} (h : ∀ k, v.ownBlock = some k → k < n) : ∀ k, v.ownBlock = some k → Value.ownBlock (.slice (some ⟨n, 0, none⟩) a b) ≠ some k := by
  intro k hk e
  have h1 := h k hk
  have h2 : n = k := by simpa [Value.ownBlock] using e
  omega
theorem Lies.ge {v v' : Value} {n m : Nat} (h : Lies v v' n) (hv : ∀ k, v.ownBlock = some k → m ≤ k) (hm : m ≤ n) : ∀ k, v'.ownBlock = some k → m ≤ k := by
  intro k hk
  rcases h with h | ⟨g, h1, h2⟩
  · exact hv k (h ▸ hk)
  · rw [h1] at hk; cases hk; omega
theorem ge_new (n a b : Nat) : ∀ k, Value.ownBlock (.slice (some ⟨n, 0, none⟩) a b) = some k → n ≤ k := by
  intro k hk
  have : n = k := by simpa [Value.ownBlock] using hk
  omega
theorem apart_ge {v u : Value} {m : Nat} (h : ∀ k, v.ownBlock = some k → m ≤ k) (h' : ∀ k, u.ownBlock = some k → k < m) : Apart v u := fun g hg e => by
  have h1 := h g hg
  have h2 := h' g e
  omega

/-- What is known of a slice type and its element type. -/
structure Elt (st e : TypeId) (z : Value) (size bytes : Nat) : Prop where
  ht : Tryz.prog.underlying st = some (.slice e)
  info : (Tryz.prog.info? e).map (fun i => (i.zero, i.size, i.bytes)) = some (some z, size, bytes)
  cells : z.cells.size = size
  pos : 0 < size

theorem run_app_nil {w : World} {st e ty : TypeId} {z : Value} {size bytes : Nat} (E : Elt st e z size bytes) {base : Nat} {v : Value} {n : Nat} {xs : List Value} (hown : w.ownsRow base e size v n xs) (c : Nat) :
    (Builtin.append_ #[st, st] ty #[v, .slice none 0 c]).run Tryz.prog w = .ok v w := by
  obtain ⟨i, hi, _⟩ := info_parts E.info
  rcases hown.2 with ⟨rfl, rfl⟩ | ⟨g, cap, cur, rfl, _, _, hnc, _⟩
  · simp [Builtin.append_, run_underlying E.ht, sizeOf, typeInfo, hi, Builtin.lenOf, Builtin.firstCells]
  · simp [Builtin.append_, run_underlying E.ht, sizeOf, typeInfo, hi, Builtin.lenOf, Builtin.firstCells, hnc, storeCells]

/-- append of whatever is read. -/
theorem run_app {w : World} {st e ty : TypeId} {z : Value} {size bytes : Nat} (E : Elt st e z size bytes) {base : Nat} {v : Value} {n : Nat} {xs : List Value} (hown : w.ownsRow base e size v n xs)
    {A : Option Addr} {m c : Nat} {news : List Value} (hr : Rd w size (.slice A m c) m news) (h1 : ∀ u ∈ news, u.oneCell' = true) (h63 : n + m ≤ maxLen) (hb : (n + m) * bytes ≤ 140737488355328) (hbase : base ≤ w.heap.size) :
    ∃ v' w', (Builtin.append_ #[st, st] ty #[v, .slice A m c]).run Tryz.prog w = .ok v' w' ∧ w'.ownsRow base e size v' (n + m) (xs ++ news) ∧ w.grownBy w' v.ownBlock ∧ Lies v v' w.heap.size := by
  obtain ⟨i, hi, hz0, hz1, hz2⟩ := info_parts E.info
  have key : ∀ ad : Addr, (∀ j u, news[j]? = some u → w.cell? (ad.add j) = some u) → ∃ v' w', (Builtin.append_ #[st, st] ty #[v, .slice (some ad) m c]).run Tryz.prog w = .ok v' w' ∧ w'.ownsRow base e size v' (n + m) (xs ++ news) ∧ w.grownBy w' v.ownBlock ∧ Lies v v' w.heap.size := by
    intro ad hc
    obtain ⟨v', w', hrun, h2, h3, _, h5⟩ := run_append_own_at (P := Tryz.prog) w base st ty e i z size bytes E.ht hi hz0 hz1 hz2 E.cells E.pos v n xs hown ad m c news hr.1 hc h1 h63 hb hbase
    exact ⟨v', w', hrun, h2, h3, h5.imp id fun h => ⟨_, h, Nat.le_refl _⟩⟩
  rcases hr.2.2 with ⟨rfl, a, cap, hv⟩ | ⟨g, off, cap, hv, _, hc⟩
  · have hn : news = [] := List.eq_nil_of_length_eq_zero (by simpa using hr.1)
    subst hn
    cases A with
    | none => exact ⟨v, w, run_app_nil E hown c, by simpa using hown, World.grownBy.refl w _, .inl rfl⟩
    | some ad => exact key ad (by simp)
  · cases hv
    refine key _ fun j u hu => ?_
    have e : (⟨g, off, none⟩ : Addr).add j = ⟨g, off + j, none⟩ := by unfold Addr.add; split <;> simp_all
    rw [e]; exact hc j u hu

theorem cellsOf_append {α : Type} (f : α → List Value) (l l' : List α) : cellsOf f (l ++ l') = cellsOf f l ++ cellsOf f l' := by simp [cellsOf]
/-- The cells of an element are single cells. -/
def OneF {α : Type} (f : α → List Value) : Prop := ∀ x, ∀ u ∈ f x, u.oneCell' = true
theorem OneF.cells {α : Type} {f : α → List Value} (h : OneF f) (l : List α) : ∀ u ∈ cellsOf f l, u.oneCell' = true := by
  intro u hu
  obtain ⟨x, _, hx⟩ := List.mem_flatMap.1 hu
  exact h x u hx

section
variable {α : Type} {f : α → List Value} {st e : TypeId} {z : Value} {size bytes : Nat} {w : World} {B : Nat} {v : Value} {l l2 : List α} {A : Option Addr} {m c : Nat}
variable {o : Oper} {a : Act} {ops : Array Oper} {rest : List Oper} {Q : Exit → Act → World → Prop}

theorem wp_app (E : Elt st e z size bytes) (h1 : OneF f) (hown : Own f size e B w v l) (hr : RdL f size w (.slice A m c) l2) (hm : m = l2.length) (hb : (l.length + l2.length) * bytes ≤ 140737488355328) (h63 : l.length + l2.length ≤ 9223372036854775807) (hbase : B ≤ w.heap.size)
    (s x : Operand) (ho : o.op = .call { callee := .builtin .append, args := #[s, x], argTypes := #[st, st] }) (hs : a.eval s = v) (hx : a.eval x = .slice A m c) {K : Act → World → Prop}
    (h : ∀ v' w', Own f size e B w' v' (l ++ l2) → w.grownBy w' v.ownBlock → Lies v v' w.heap.size → K (a.put o.dst v') w') : o.wp Tryz.prog a w K Q := by
  subst hm
  obtain ⟨v', w', hrun, h2, h3, h4⟩ := run_app (ty := o.type) E hown hr (h1.cells l2) (by unfold maxLen; exact h63) hb hbase
  unfold Oper.wp execOp
  simp only [ho, resolve, invoke, builtin, Sem.run_bind, Sem.run_pure, Result.andThen_ok, List.map_toArray, List.map_cons, List.map_nil, hs, hx, hrun]
  exact h v' w' (by unfold Own; rw [cellsOf_append, List.length_append]; exact h2) h3 h4

/-- append, in a region that is carried out in order. -/
theorem app (E : Elt st e z size bytes) (h1 : OneF f) (hown : Own f size e B w v l) (hr : RdL f size w (.slice A m c) l2) (hm : m = l2.length) (hb : (l.length + l2.length) * bytes ≤ 140737488355328) (h63 : l.length + l2.length ≤ 9223372036854775807) (hbase : B ≤ w.heap.size)
    (hgd : o.guard = none) (s x : Operand) (ho : o.op = .call { callee := .builtin .append, args := #[s, x], argTypes := #[st, st] }) (hs : a.eval s = v) (hx : a.eval x = .slice A m c)
    (h : ∀ v' w', Own f size e B w' v' (l ++ l2) → w.grownBy w' v.ownBlock → Lies v v' w.heap.size → wpList Tryz.prog ops Q rest (a.put o.dst v') w') : wpList Tryz.prog ops Q (o :: rest) a w :=
  wpList_plain hgd fun _ hK => wp_app E h1 hown hr hm hb h63 hbase s x ho hs hx fun v' w' h2 h3 h4 => hK _ _ (h v' w' h2 h3 h4)
/-- The same at a step of a region that draws its order. -/
theorem step_app (E : Elt st e z size bytes) (h1 : OneF f) (hown : Own f size e B w v l) (hr : RdL f size w (.slice A m c) l2) (hm : m = l2.length) (hb : (l.length + l2.length) * bytes ≤ 140737488355328) (h63 : l.length + l2.length ≤ 9223372036854775807) (hbase : B ≤ w.heap.size)
    (hgd : o.guard = none) (s x : Operand) (ho : o.op = .call { callee := .builtin .append, args := #[s, x], argTypes := #[st, st] }) (hs : a.eval s = v) (hx : a.eval x = .slice A m c) {K : Act → World → Prop} {R : Prop}
    (h : ∀ v' w', Own f size e B w' v' (l ++ l2) → w.grownBy w' v.ownBlock → Lies v v' w.heap.size → K (a.put o.dst v') w') : if Region.wanted o (yielded ops a.tmps) = true then Oper.wp Tryz.prog o a w K Q else R := by
  have hw : Region.wanted o (yielded ops a.tmps) = true := by simp [Region.wanted, hgd]
  rw [if_pos hw]
  exact wp_app E h1 hown hr hm hb h63 hbase s x ho hs hx h

/-- One element that lies in a block of its own is read as a list. -/
theorem rd_one' (hf : ∀ x, (f x).length = size) (w0 : World) (y : α) (cs : Array Value) (te : TypeId) (hcs : cs.toList = f y) : RdL f size (w0.alloc (.cells cs te)) (.slice (some ⟨w0.heap.size, 0, none⟩) 1 1) [y] := by
  refine ⟨by simp [cellsOf, hf], by simp, .inr ⟨w0.heap.size, 0, 1, rfl, by simp, fun j u hu => ?_⟩⟩
  simp only [cellsOf, List.flatMap_cons, List.flatMap_nil, List.append_nil, ← hcs] at hu
  have := heap_alloc_new w0 (.cells cs te)
  simp only [World.cell?, this, Nat.zero_add]
  simpa using hu
/-- append of one element, which lies in a block of its own. -/
theorem app_one (E : Elt st e z size bytes) (h1 : OneF f) (hf : ∀ x, (f x).length = size) (hown : Own f size e B w v l) (y : α) (hb : (l.length + 1) * bytes ≤ 140737488355328) (h63 : l.length + 1 ≤ 9223372036854775807) (hbase : B ≤ w.heap.size) {te : TypeId} {cs : Array Value} (hcs : cs.toList = f y)
    (hgd : o.guard = none) (s x : Operand) (ho : o.op = .call { callee := .builtin .append, args := #[s, x], argTypes := #[st, st] }) (hs : a.eval s = v) (hx : a.eval x = .slice (some ⟨w.heap.size, 0, none⟩) 1 1)
    (h : ∀ v' w', Own f size e B w' v' (l ++ [y]) → w.grownBy w' v.ownBlock → Lies v v' w.heap.size → wpList Tryz.prog ops Q rest (a.put o.dst v') w') : wpList Tryz.prog ops Q (o :: rest) a (w.alloc (.cells cs te)) :=
  app (l2 := [y]) E h1 (hown.same (World.grownBy_alloc w _ _)) (rd_one' hf w y cs te hcs) rfl (by simpa using hb) (by simpa using h63) (by simp; omega) hgd s x ho hs hx
    fun v' w' h2 h3 h4 => h v' w' h2 (grownBy_trans (World.grownBy_alloc w _ _) h3) (h4.imp id fun ⟨g, e1, e2⟩ => ⟨g, e1, by simp at e2; omega⟩)
theorem step_app_one (E : Elt st e z size bytes) (h1 : OneF f) (hf : ∀ x, (f x).length = size) (hown : Own f size e B w v l) (y : α) (hb : (l.length + 1) * bytes ≤ 140737488355328) (h63 : l.length + 1 ≤ 9223372036854775807) (hbase : B ≤ w.heap.size) {te : TypeId} {cs : Array Value} (hcs : cs.toList = f y)
    (hgd : o.guard = none) (s x : Operand) (ho : o.op = .call { callee := .builtin .append, args := #[s, x], argTypes := #[st, st] }) (hs : a.eval s = v) (hx : a.eval x = .slice (some ⟨w.heap.size, 0, none⟩) 1 1) {K : Act → World → Prop} {R : Prop}
    (h : ∀ v' w', Own f size e B w' v' (l ++ [y]) → w.grownBy w' v.ownBlock → Lies v v' w.heap.size → K (a.put o.dst v') w') : if Region.wanted o (yielded ops a.tmps) = true then Oper.wp Tryz.prog o a (w.alloc (.cells cs te)) K Q else R :=
  step_app (l2 := [y]) E h1 (hown.same (World.grownBy_alloc w _ _)) (rd_one' hf w y cs te hcs) rfl (by simpa using hb) (by simpa using h63) (by simp; omega) hgd s x ho hs hx
    fun v' w' h2 h3 h4 => h v' w' h2 (grownBy_trans (World.grownBy_alloc w _ _) h3) (h4.imp id fun ⟨g, e1, e2⟩ => ⟨g, e1, by simp at e2; omega⟩)
end

/-- The first elements. -/
theorem RdL.take {α : Type} {f : α → List Value} {s : Nat} {w : World} {A : Option Addr} {n cap : Nat} {l : List α} (hf : ∀ x, (f x).length = s) (h : RdL f s w (.slice A n cap) l) {k : Nat} (hk : k ≤ l.length) (c : Nat) : RdL f s w (.slice A k c) (l.take k) := by
  have hl : (l.take k).length = k := by simp; omega
  refine ⟨length_cellsOf f s hf _, by have := h.2.1; omega, ?_⟩
  rcases h.2.2 with ⟨h0, _⟩ | ⟨g, off, cap', hv, hg, hc⟩
  · obtain rfl : k = 0 := by omega
    exact .inl ⟨by omega, A, c, rfl⟩
  · cases hv
    refine .inr ⟨g, off, c, by rw [hl], hg, fun j u hu => hc j u ?_⟩
    have e : cellsOf f l = cellsOf f (l.take k) ++ cellsOf f (l.drop k) := by rw [← cellsOf_append, List.take_append_drop]
    rw [e, List.getElem?_append_left (List.getElem?_eq_some_iff.1 hu).1]; exact hu
/-- The elements from one on. -/
theorem RdL.drop {α : Type} {f : α → List Value} {s : Nat} {w : World} {A : Option Addr} {n cap : Nat} {l : List α} (hf : ∀ x, (f x).length = s) (h : RdL f s w (.slice A n cap) l) {k : Nat} (hk : k ≤ l.length) (hcap : l.length ≤ cap) (c : Nat) :
    RdL f s w (.slice (if cap = k then A else A.map (·.add (k * s))) (l.length - k) c) (l.drop k) := by
  have hl : (l.drop k).length = l.length - k := by simp
  refine ⟨length_cellsOf f s hf _, by have := h.2.1; omega, ?_⟩
  rcases Nat.eq_zero_or_pos (l.length - k) with h0 | h0
  · exact .inl ⟨by omega, _, c, by rw [h0]⟩
  · rcases h.2.2 with ⟨h1, _⟩ | ⟨g, off, cap', hv, hg, hc⟩
    · omega
    · cases hv
      rw [if_neg (by omega)]
      refine .inr ⟨g, off + k * s, c, ?_, hg, fun j u hu => ?_⟩
      · rw [hl]; simp only [Option.map_some]
        unfold Addr.add; split <;> simp_all
      · have e : cellsOf f l = cellsOf f (l.take k) ++ cellsOf f (l.drop k) := by rw [← cellsOf_append, List.take_append_drop]
        have e2 : (cellsOf f (l.take k)).length = k * s := by rw [length_cellsOf f s hf, List.length_take, Nat.min_eq_left hk]
        rw [Nat.add_assoc]
        refine hc _ u ?_
        rw [e, List.getElem?_append_right (by omega), e2, show k * s + j - k * s = j by omega]; exact hu
theorem RdL.dropS {α : Type} {f : α → List Value} {s : Nat} {w : World} {g off n cap : Nat} {l : List α} (hf : ∀ x, (f x).length = s) (h : RdL f s w (.slice (some ⟨g, off, none⟩) n cap) l) {k : Nat} (hk : k ≤ l.length) (hcap : l.length ≤ cap) (c : Nat) :
    RdL f s w (.slice (if cap = k then some ⟨g, off, none⟩ else some ⟨g, off + k * s, none⟩) (l.length - k) c) (l.drop k) := by
  have := h.drop hf hk hcap c
  have e : Option.map (fun a => Addr.add a (k * s)) (some (⟨g, off, none⟩ : Addr)) = some ⟨g, off + k * s, none⟩ := by
    simp only [Option.map_some]; unfold Addr.add; split <;> simp_all
  rw [e] at this; exact this
theorem RdL.drop1 {α : Type} {f : α → List Value} {w : World} {g off n cap : Nat} {l : List α} (hf : ∀ x, (f x).length = 1) (h : RdL f 1 w (.slice (some ⟨g, off, none⟩) n cap) l) {k : Nat} (hk : k ≤ l.length) (hcap : l.length ≤ cap) (c : Nat) :
    RdL f 1 w (.slice (if cap = k then some ⟨g, off, none⟩ else some ⟨g, off + k, none⟩) (l.length - k) c) (l.drop k) := by
  have := h.dropS hf hk hcap c
  rwa [Nat.mul_one] at this
theorem RdL.same {α : Type} {f : α → List Value} {s : Nat} {w w' : World} {v : Value} {l : List α} (h : RdL f s w v l) (hg : w.grownBy w' none) : RdL f s w' v l := Rd.same h hg
theorem RdL.at_ {α : Type} {f : α → List Value} {w : World} {v : Value} {l : List α} {s : Nat} (h : RdL f s w v l) (hf : ∀ x, (f x).length = s) {k : Nat} (hk : k < l.length) :
    ∃ g off cap, v = .slice (some ⟨g, off, none⟩) l.length cap ∧ g < w.heap.size ∧ ∀ j u, (f l[k])[j]? = some u → w.cell? ⟨g, off + k * s + j, none⟩ = some u := by
  obtain ⟨g, off, cap, hv, hg, hc⟩ := h.cell hf (by omega)
  exact ⟨g, off, cap, hv, hg, fun j u hu => hc k l[k] (List.getElem?_eq_getElem hk) j u hu⟩
theorem RdL.one {α : Type} {f : α → List Value} {u : α → Value} (hu : ∀ x, f x = [u x]) {w : World} {v : Value} {l : List α} (h : RdL f 1 w v l) {k : Nat} (hk : k < l.length) :
    ∃ g off cap, v = .slice (some ⟨g, off, none⟩) l.length cap ∧ g < w.heap.size ∧ w.cell? ⟨g, off + k, none⟩ = some (u l[k]) := by
  obtain ⟨g, off, cap, hv, hg, hc⟩ := h.at_ (fun x => by rw [hu]; rfl) hk
  refine ⟨g, off, cap, hv, hg, ?_⟩
  have := hc 0 (u l[k]) (by rw [hu]; rfl)
  simpa using this
theorem own_lit0 {α : Type} (f : α → List Value) (s : Nat) {e : TypeId} {B : Nat} {w : World} (hB : B ≤ w.heap.size) : Own f s e B (w.alloc (.cells #[] e)) (.slice (some ⟨w.heap.size, 0, none⟩) 0 0) [] :=
  ⟨by simp [cellsOf], .inr ⟨w.heap.size, 0, #[], rfl, hB, heap_alloc_new w _, Nat.le_refl _, Nat.zero_le _, by simp, by simp [cellsOf]⟩⟩
theorem Own.cap {α : Type} {f : α → List Value} {s : Nat} {e : TypeId} {B : Nat} {w : World} {a : Option Addr} {n c : Nat} {l : List α} (h : Own f s e B w (.slice a n c) l) : l.length ≤ c := by
  rcases h.2 with ⟨hv, h0⟩ | ⟨g, cap, cur, hv, _, _, h1, _⟩
  · omega
  · cases hv; exact h1
theorem word_one (x : Int) : wordF x = [Value.int .u64 x] := rfl
theorem int_one (x : Int) : intF x = [Value.int .i64 x] := rfl
end Go.Proofs.YtkdbapbmbhmaiaaGreat

/- Summaries: how they lie in memory; their total. -/
namespace Go.Proofs.YtkdbapbmbhmaiaaGreat
open Go.RowKit

/-- A tracked key. -/
structure Ent where
  (key : ByteArray) (own slack : Int)
def entF (e : Ent) : List Value := [.string e.key, .int .u64 e.own, .int .u64 e.slack]
theorem entF_len (e : Ent) : (entF e).length = 3 := rfl
def valF (v : Value) : List Value := [v]
theorem valF_len (v : Value) : (valF v).length = 1 := rfl
theorem val_one (v : Value) : valF v = [v] := rfl
/-- A summary: its numbers, the slices as they stand, and what these read as. -/
structure Summ where
  (total : Int) (ve : Value) (untr : Int) (vr : Value) (es : List Ent) (vs : List Value) (rows : List (List Int))
def sumF (s : Summ) : List Value := [.int .u64 s.total, s.ve, .int .u64 s.untr, s.vr]
theorem sumF_len (s : Summ) : (sumF s).length = 4 := rfl
abbrev sumV (total : Int) (ve : Value) (untr : Int) (vr : Value) : Value := .agg #[.int .u64 total, ve, .int .u64 untr, vr]
structure SumRd (w : World) (s : Summ) : Prop where
  es : RdL entF 3 w s.ve s.es
  vs : RdL valF 1 w s.vr s.vs
  len : s.vs.length = s.rows.length
  rows : ∀ (i : Nat) v row, s.vs[i]? = some v → s.rows[i]? = some row → RdL wordF 1 w v row
theorem SumRd.same {w w' : World} {s : Summ} (h : SumRd w s) (hg : w.grownBy w' none) : SumRd w' s :=
  ⟨h.es.same hg, h.vs.same hg, h.len, fun i v row hv hr => (h.rows i v row hv hr).same hg⟩
/-- The numbers have 64 bits. -/
structure SumW (s : Summ) : Prop where
  total : W64 s.total
  untr : W64 s.untr
  es : ∀ e ∈ s.es, W64 e.own ∧ W64 e.slack
  rows : ∀ row ∈ s.rows, ∀ x ∈ row, W64 x
/-- A slice of summaries. -/
structure SumsRd (w : World) (v : Value) (l : List Summ) : Prop where
  rd : RdL sumF 4 w v l
  all : ∀ s ∈ l, SumRd w s
  wf : ∀ s ∈ l, SumW s
theorem SumsRd.same {w w' : World} {v : Value} {l : List Summ} (h : SumsRd w v l) (hg : w.grownBy w' none) : SumsRd w' v l :=
  ⟨h.rd.same hg, fun s hs => (h.all s hs).same hg, h.wf⟩
theorem SumsRd.at_ {w : World} {v : Value} {l : List Summ} (h : SumsRd w v l) {k : Nat} (hk : k < l.length) :
    ∃ g off cap, v = .slice (some ⟨g, off, none⟩) l.length cap ∧ g < w.heap.size ∧ w.cell? ⟨g, off + k * 4, none⟩ = some (.int .u64 l[k].total) ∧ w.cell? ⟨g, off + k * 4 + 1, none⟩ = some l[k].ve ∧
      w.cell? ⟨g, off + k * 4 + 2, none⟩ = some (.int .u64 l[k].untr) ∧ w.cell? ⟨g, off + k * 4 + 3, none⟩ = some l[k].vr ∧ SumRd w l[k] ∧ SumW l[k] := by
  obtain ⟨g, off, cap, hv, hg, hc⟩ := h.rd.at_ sumF_len hk
  exact ⟨g, off, cap, hv, hg, hc 0 _ rfl, hc 1 _ rfl, hc 2 _ rfl, hc 3 _ rfl, h.all _ (List.getElem_mem hk), h.wf _ (List.getElem_mem hk)⟩
theorem take_succ {α : Type} {l : List α} {k : Nat} (h : k < l.length) : l.take (k + 1) = l.take k ++ [l[k]] := List.take_succ_eq_append_getElem h

def totalF (l : List Summ) : Int := l.foldl (fun n s => satA n s.total) 0
theorem totalF_snoc (l : List Summ) (s : Summ) : totalF (l ++ [s]) = satA (totalF l) s.total := by simp [totalF]
theorem w64_0 : W64 0 := ⟨by omega, by omega⟩

end Go.Proofs.YtkdbapbmbhmaiaaGreat
