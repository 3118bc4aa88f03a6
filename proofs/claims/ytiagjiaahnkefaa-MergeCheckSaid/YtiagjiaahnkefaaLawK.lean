/- The walk of the law MergeCheck. -/
import Derived.Test.YtiagjiaahnkefaaRestP
import Derived.Test.YtiagjiaahnkefaaRall
import Derived.Test.YtiagjiaahnkefaaRmrg
import Derived.Test.YtiagjiaahnkefaaRrst
import Derived.Test.YtiagjiaahnkefaaLawC
namespace Go.Proofs.Ytiagjiaahnkefaa
open Go.RowKit Go.Sort
attribute [local go_sem ↓] exec_load_cfg
attribute [local go_sem] run_loadCfgS

theorem and_low (n : Int) (k : Nat) (hk : k ≤ 62) : bits .and .i64 n (2 ^ k - 1) = n % 2 ^ k := by
  have h2 : (BitVec.ofInt 64 (2 ^ k - 1)).toNat = 2 ^ k - 1 := by
    have hp : (2 : Nat) ^ k ≤ 2 ^ 62 := Nat.pow_le_pow_right (by omega) hk
    have h0 : 0 < (2 : Nat) ^ k := Nat.two_pow_pos k
    rw [BitVec.toNat_ofInt]
    have e : ((2 : Int) ^ k - 1) = ((2 ^ k - 1 : Nat) : Int) := by rw [Int.natCast_sub h0]; simp
    rw [e, show ((2 ^ 64 : Nat) : Int) = 18446744073709551616 by decide]
    omega
  have key : (BitVec.ofInt 64 n &&& BitVec.ofInt 64 (2 ^ k - 1)).toNat = (n % ((2 ^ 64 : Nat) : Int)).toNat % 2 ^ k := by
    rw [BitVec.toNat_and, BitVec.toNat_ofInt, h2, Nat.and_two_pow_sub_one_eq_mod]
  show IntKind.i64.wrap ((BitVec.ofInt 64 n &&& BitVec.ofInt 64 (2 ^ k - 1)).toNat : Nat) = n % 2 ^ k
  rw [key, IntKind.wrap_i64]
  have hp : (2 : Nat) ^ k ≤ 2 ^ 62 := Nat.pow_le_pow_right (by omega) hk
  have h0 : 0 < (2 : Nat) ^ k := Nat.two_pow_pos k
  have hdv : ((2 : Int) ^ k) ∣ ((2 ^ 64 : Nat) : Int) := by
    refine ⟨2 ^ (64 - k), ?_⟩
    rw [← Int.pow_add, show k + (64 - k) = 64 by omega]; rfl
  have hmm : n % ((2 ^ 64 : Nat) : Int) % 2 ^ k = n % 2 ^ k := Int.emod_emod_of_dvd n hdv
  have hn : 0 ≤ n % ((2 ^ 64 : Nat) : Int) := Int.emod_nonneg _ (by decide)
  have e2 : (((n % ((2 ^ 64 : Nat) : Int)).toNat % 2 ^ k : Nat) : Int) = n % 2 ^ k := by
    rw [Int.natCast_emod, Int.toNat_of_nonneg hn]
    rw [← hmm]; simp
  rw [e2]
  have b1 := Int.emod_nonneg n (show (2 : Int) ^ k ≠ 0 by have : (0 : Int) < 2 ^ k := Int.pow_pos (by omega); omega)
  have b2 := Int.emod_lt_of_pos n (show (0 : Int) < 2 ^ k from Int.pow_pos (by omega))
  have b3 : (2 : Int) ^ k ≤ 4611686018427387904 := by
    have : (((2 : Nat) ^ k : Nat) : Int) ≤ ((2 ^ 62 : Nat) : Int) := Int.ofNat_le.2 hp
    simpa using this
  omega

/-- What is needed of a list of summaries, to check it. -/
structure Chkd (w : World) (v : Value) (l : List Summ) : Prop where
  rd : SumsRd w v l
  small : SumsSmall l
  keys : (keysL l).length ≤ 1000
theorem Chkd.same {w w' : World} {v : Value} {l : List Summ} (h : Chkd w v l) (hg : w.grownBy w' none) : Chkd w' v l := ⟨h.rd.same hg, h.small, h.keys⟩
theorem chkd_nil (w : World) : Chkd w (.slice none 0 0) [] := ⟨⟨⟨by simp [cellsOf], by simp, .inl ⟨rfl, none, 0, rfl⟩⟩, by simp, by simp⟩, (by intro s hs; cases hs), by simp [keysL]⟩

theorem sums_one {w : World} {l : List Summ} (h : ∀ s ∈ l, SumRd w s) : ∀ u ∈ cellsOf sumF l, u.oneCell' = true := by
  intro u hu
  obtain ⟨s, hs, hx⟩ := List.mem_flatMap.1 hu
  obtain ⟨ea, ec, hve⟩ := (h s hs).es.shape
  obtain ⟨ra, rc, hvr⟩ := (h s hs).vs.shape
  simp only [sumF, hve, hvr, List.mem_cons, List.not_mem_nil, or_false] at hx
  rcases hx with rfl | rfl | rfl | rfl <;> rfl

/-- The copy of the list, changed. -/
structure Mod (w5 w : World) (gm mc n : Nat) (l : List Summ) : Prop where
  own : Own sumF 4 68 w5.heap.size w (.slice (some ⟨gm, 0, none⟩) n mc) l
  all : ∀ s ∈ l, SumRd w s ∧ SumW s ∧ SumSmall s ∧ Off gm s
  keys : (keysL l).length ≤ 33
  len : l.length = n
  grown : w5.grownBy w none
theorem Mod.chkd {w5 w : World} {gm mc n : Nat} {l : List Summ} (h : Mod w5 w gm mc n l) : Chkd w (.slice (some ⟨gm, 0, none⟩) n mc) l :=
  ⟨⟨h.own.rd, fun s hs => (h.all s hs).1, fun s hs => (h.all s hs).2.1⟩, fun s hs => (h.all s hs).2.2.1, by have := h.keys; omega⟩
theorem keysL_set {l : List Summ} {i : Nat} (hi : i < l.length) (s : Summ) : (keysL (l.set i s)).length + l[i].es.length = (keysL l).length + s.es.length := by
  induction l generalizing i with
  | nil => simp at hi
  | cons a l ih =>
    cases i with
    | zero => simp [keysL]; omega
    | succ i =>
      have := ih (i := i) (by simpa using hi)
      simp [keysL] at *
      omega
/-- One summary of the copy is replaced. -/
theorem Mod.set {w5 w' : World} {gm mc n : Nat} {l : List Summ} {i : Nat} (hi : i < l.length) (s : Summ) (ho : Own sumF 4 68 w5.heap.size w' (.slice (some ⟨gm, 0, none⟩) n mc) (l.set i s))
    (h : ∀ s ∈ l, SumRd w' s ∧ SumW s ∧ SumSmall s ∧ Off gm s) (hs : SumRd w' s ∧ SumW s ∧ SumSmall s ∧ Off gm s) (hk : (keysL l).length ≤ 32) (he : s.es.length ≤ l[i].es.length + 1) (hn : l.length = n) (hg : w5.grownBy w' none) : Mod w5 w' gm mc n (l.set i s) := by
  refine ⟨ho, fun x hx => ?_, ?_, by simpa using hn, hg⟩
  · rcases List.mem_or_eq_of_mem_set hx with h1 | h1
    · exact h x h1
    · exact h1 ▸ hs
  · have := keysL_set hi s; omega

set_option maxHeartbeats 1600000 in
set_option maxRecDepth 100000 in
theorem check_w (sv : Value) (xs : List Int) (n : Nat) (at_ num : Int) (more : Bool) (w : World) (hsv : Rd w 1 sv n (xs.map (fun x => Value.int .i64 x))) (hnum : W64 num) :
    Calls Try.prog 8 #[sv, .int .i64 at_, .int .u64 num, .bool more] w (RetBool true w) := by
  have HS := Lib.hid hsv
  obtain ⟨sa, sc, rfl⟩ := hsv.shape
  clear hsv
  have ha7 : ∀ x : Int, bits .and .i64 x 7 = x % 8 := fun x => and_low x 3 (by omega)
  have ha3 : bits .and .i64 at_ 3 = at_ % 4 := and_low at_ 2 (by omega)
  go_enter Try.func8, Try.ntmps8
  go_upto_region 4 with (first | (go_at_call 28; refine (new_c _ _ _ _ HS.out).mono ?_; rintro e w1 ⟨rfl, D1, G1⟩) | (go_at_call 29; refine (config2_c _ _ D1 (Nat.le_refl _)).mono ?_; rintro e w2 ⟨c, lc, t, rfl, N2, M2, D2, G2, T2, C2⟩; have z12 := G2.size; replace G2 := grownBy_new G1 G2 (Nat.le_refl _); have oc1 := M2.one1; have oc2 := M2.one2) | (refine alloc_cfg rfl rfl ?_; intro w3 B3 G3 z3) | (refine store_cfg rfl _ _ rfl _ rfl c rfl oc1 oc2 Cfg.zero (by assumption) ?_; intro w4 B4 G4; have D4 := D2.kept (grownBy_new G3 G4 (Nat.le_refl _)) (by simp); have M4 := M2.same (grownBy_new G3 G4 (Nat.le_refl _)); have z14 := Nat.le_trans z12 (grownBy_new G3 G4 (Nat.le_refl _)).size; replace G4 := grownBy_new (grownBy_trans G2 G3) G4 G2.size) | (refine load_cfg rfl _ rfl _ rfl c (by assumption) ?_) | (go_at_call 30; refine (dsums_c _ c _ D4 z14 ⟨N2.shards.1, by have := N2.shards.2; omega⟩ ⟨by have := N2.depth.1; omega, by have := N2.depth.2; omega⟩ ⟨by have := N2.width.1; omega, by have := N2.width.2; omega⟩).mono ?_; rintro e w5 ⟨lv, l, rfl, S5, hl5, D5, G5⟩; have F5 : Few c lc t lv l w5 := ⟨N2, M4.off G5 (fun k e => by cases e; exact D1.below) T2 C2, S5.rd, fun s hs => (S5.all s hs).2.2.1, hl5⟩; have B5 := B4.kept G5 (by have := D1.below; simp; omega); have K5 := grownBy_new G4 G5 (Nat.le_refl _)))
  have hlen := F5.len
  have hsh := F5.nums.shards
  have hl1 : 1 ≤ l.length := by omega
  have hl8 : l.length ≤ 8 := by omega
  have HF := Lib.hid F5
  have HB5 := Lib.hid B5
  have E5 := Lib.hid S5
  have kf := Lib.hid (keysL_few HF.out)
  obtain ⟨la, lcp, rfl⟩ := F5.sums.rd.shape
  have hb1 : ([] : List Summ).length + l.length ≤ 9223372036854775807 := by simp; omega
  have hb2 : (([] : List Summ).length + l.length) * 64 ≤ 140737488355328 := by simp; omega
  clear S5 hl5 D5 G5 F5 B4 D4 M4 z14 G4 oc1 oc2 B3 G3 z3 M2 D2 T2 C2 z12 G2 D1 G1 N2 HS hlen
  generalize w2.heap.size = cb at *
  have B6 := B5.same (World.grownBy_alloc w5 (.cells #[] 68) none)
  have N6 := own_lit0 (e := 68) sumF 4 (Nat.le_refl w5.heap.size)
  have R6 := RdL.same HF.out.sums.rd (World.grownBy_alloc w5 (.cells #[] 68) none)
  have h1c := Lib.hid (sums_one fun s hs => HF.out.sums.all s hs)
  go_upto_region 5 with (at_builtin; refine app_litV elt_sum h1c.out N6 R6 rfl (by omega) (by omega) (by simp) (by rfl) _ _ (by rfl) (by rfl) (by rfl) ?_; intro v6 w6 o6 g6 l6)
  obtain ⟨gm, mc, rfl, hgm, hgm2, hmc, hcm, hfm⟩ := o6.at_ sumF_len (show 0 < l.length by omega)
  have G6 : w5.grownBy w6 none := grownBy_trans (World.grownBy_alloc w5 _ none) g6
  have BC := B6.same g6
  clear N6 R6 h1c g6 l6 B6 B5 hcm hfm hb1 hb2
  have hq0 : 0 ≤ at_ / 4 % 8 % (l.length : Int) := Int.emod_nonneg _ (by omega)
  have hq1 : at_ / 4 % 8 % (l.length : Int) < (l.length : Int) := Int.emod_lt_of_pos _ (by omega)
  go_upto_region 6 with fail
  obtain ⟨i, hi⟩ : ∃ i : Nat, at_ / 4 % 8 % (l.length : Int) = i := ⟨(at_ / 4 % 8 % (l.length : Int)).toNat, by omega⟩
  have hil : i < l.length := by omega
  rw [hi]
  rw [Int.toNat_natCast]
  clear hq0 hq1 hi ha7
  obtain ⟨r, hr⟩ : ∃ r, at_ % 4 = r := ⟨_, rfl⟩
  rw [hr] at ha3
  have hr0 : 0 ≤ r ∧ r < 4 := by omega
  clear hr
  go_cut [34, 35] (fun _ s35 wx => s35 = .int .i64 r ∧ w6 = wx)
  case first =>
    go_wp2_with fail
    go_meet
    exact ⟨rfl, rfl⟩
  obtain ⟨rfl, rfl⟩ := hcut
  rename_i hK
  refine hK _ _ ?_
  have H6 := Lib.hid o6
  clear hK ha3
  go_cut [36, 37, 38, 39, 40, 41, 42, 43, 44, 45, 46, 47, 48, 49, 50, 51, 52, 53, 54, 55, 56, 57, 58, 59, 60, 61, 62] (fun _ _ _ _ _ _ _ _ _ _ _ _ _ _ _ _ _ _ _ _ _ _ _ _ _ _ _ wx => ∃ l', Mod w5 wx gm mc l.length l')
  case first =>
    obtain ⟨gm', mc', hv', -, -, -, hcx, hfz⟩ := H6.out.at_ sumF_len hil
    cases hv'
    have a0 := hcx 0 _ rfl
    have a1 := hcx 1 _ rfl
    have a2 := hcx 2 _ rfl
    rw [Nat.add_zero] at a0
    have hms := List.getElem_mem hil
    have HB := Lib.hid fun w' (h : World.grownBy w5 w' none) s (hs : s ∈ l) => And.intro ((HF.out.sums.all s hs).same h) (And.intro (HF.out.ok.wf s hs) (And.intro (HF.out.small s hs) ((E5.out.all s hs).2.1.off (k := gm) (.inr hgm))))
    clear hcx
    have hr4 : r = 0 ∨ r = 1 ∨ r = 2 ∨ r = 3 := by omega
    clear hr0
    rcases hr4 with rfl | rfl | rfl | rfl
    · go_wp2_with fail
      go_meet
      have st := H6.out.stored sumF_len hil (show 0 < 4 by omega) (.int .u64 num) { l[i] with total := num } rfl
      rw [Nat.add_zero] at st
      have G := grownBy_setNew (p := ⟨gm, i * 4, none⟩) G6 hgm (.int .u64 num)
      obtain ⟨p1, p2, p3, p4⟩ := HB.out _ G _ hms
      exact ⟨_, Mod.set hil _ st.1 (HB.out _ G) ⟨⟨p1.es, p1.vs, p1.len, p1.rows⟩, ⟨hnum, p2.untr, p2.es, p2.rows⟩, ⟨p3.key, p3.rows, p3.row⟩, p4⟩ kf.out (by simp) rfl G⟩
    · go_wp2_with fail
      go_meet
      have st := H6.out.stored sumF_len hil (show 2 < 4 by omega) (.int .u64 num) { l[i] with untr := num } rfl
      have G := grownBy_setNew (p := ⟨gm, i * 4 + 2, none⟩) G6 hgm (.int .u64 num)
      obtain ⟨p1, p2, p3, p4⟩ := HB.out _ G _ hms
      exact ⟨_, Mod.set hil _ st.1 (HB.out _ G) ⟨⟨p1.es, p1.vs, p1.len, p1.rows⟩, ⟨p2.total, hnum, p2.es, p2.rows⟩, ⟨p3.key, p3.rows, p3.row⟩, p4⟩ kf.out (by simp) rfl G⟩
    · obtain ⟨q1, q2, q3, -⟩ := HB.out _ G6 _ hms
      obtain ⟨ea, ec, hve⟩ := q1.es.shape
      have hee : l[i].es.length ≤ 4 := (HF.out.good _ hms).few
      have st0 := H6.out
      have Re := Lib.hid q1.es
      have Hve := Lib.hid hve
      rw [hve] at a1
      have N := own_lit0 (e := 77) entF 3 (Nat.le_refl w6.heap.size)
      have R := Lib.hid (RdL.same q1.es (World.grownBy_alloc w6 (.cells #[] 77) none))
      rw [hve] at R
      have hb1 : l[i].es.length * 32 ≤ 140737488355328 := by omega
      have hb2 : l[i].es.length ≤ 9223372036854775807 := by omega
      have hb3 : (l[i].es.length + 1) * 32 ≤ 140737488355328 := by omega
      have hb4 : l[i].es.length + 1 ≤ 9223372036854775807 := by omega
      have hz6 : gm < w6.heap.size := hgm2
      have Hcs := Lib.hid (show (#[Value.string ⟨#[122, 122]⟩, .int .u64 num, .int .u64 0] : Array Value).toList = entF ⟨⟨#[122, 122]⟩, num, 0⟩ from rfl)
      have HC := Lib.hid fun w' (h : World.grownBy w6 w' none) => ((grownBy_cells h).1 gm (i * 4 + 1) hgm2 (by simp)).trans a1
      have HZ := Lib.hid fun w' (h : World.grownBy w6 w' none) => ((grownBy_cells h).2 gm (i * 4 + 1) hgm2 (by simp)).trans (hfz _)
      have tok := Lib.hid hil
      clear hve q1 q2 q3 a0 a2
      go_wp2_with (first
        | (at_builtin; have _t := tok; refine app_lit elt_ent one_ent N R.out rfl hb1 hb2 (by simp) (by rfl) _ _ (by rfl) (by rfl) (by rfl) ?_; intro v7 w7 o7 g7 l7; clear tok; have g67 := grownBy_trans (World.grownBy_alloc w6 (.cells #[] 77) none) g7; have hs7 := g67.size)
        | (at_builtin; refine app_one elt_ent one_ent entF_len o7 ⟨⟨#[122, 122]⟩, num, 0⟩ hb3 hb4 hs7 Hcs.out (by rfl) _ _ (by rfl) (by rfl) (by rfl) ?_; intro v8 w8 o8 g8 l8; have g68 := grown_own g67 o7 (Nat.le_refl _) g8; have c8 := HC.out w8 g68; have z8 := HZ.out w8 g68; obtain ⟨a8, k8, rfl⟩ := o8.shape))
      go_meet
      have e9 : (l[i].es ++ [(⟨⟨#[122, 122]⟩, num, 0⟩ : Ent)]).length = l[i].es.length + 1 := by simp
      have o8 : Own entF 3 77 w6.heap.size w8 (.slice a8 (l[i].es.length + 1) k8) (l[i].es ++ [(⟨⟨#[122, 122]⟩, num, 0⟩ : Ent)]) := by rw [← e9]; exact o8
      have G9 : w5.grownBy (w8.setCell ⟨gm, i * 4 + 1, none⟩ (.slice a8 (l[i].es.length + 1) k8)) none := grownBy_setNew (p := ⟨gm, i * 4 + 1, none⟩) (grownBy_trans G6 g68) hgm _
      have o9 := o8.kept (grownBy_set (grownBy_refl w8 (some gm)) (i * 4 + 1) (.slice a8 (l[i].es.length + 1) k8)) (fun k hk e => by cases e; have := (o8.lt _ hk).1; omega)
      have st := (st0.same g68).stored sumF_len hil (show 1 < 4 by omega) (.slice a8 (l[i].es.length + 1) k8) { l[i] with ve := .slice a8 (l[i].es.length + 1) k8, es := l[i].es ++ [⟨⟨#[122, 122]⟩, num, 0⟩] } rfl
      obtain ⟨p1, p2, p3, p4⟩ := HB.out _ G9 _ hms
      refine ⟨_, Mod.set hil _ st.1 (HB.out _ G9) ⟨⟨o9.rd, p1.vs, p1.len, p1.rows⟩, ⟨p2.total, p2.untr, fun e he => ?_, p2.rows⟩, ⟨fun e he => ?_, p3.rows, p3.row⟩, ⟨fun a n c hv e => ?_, p4.2⟩⟩ kf.out (by rw [e9]; exact Nat.le_refl _) rfl G9⟩
      · rcases List.mem_append.1 he with h | h
        · exact p2.es e h
        · obtain rfl := List.mem_singleton.1 h; exact ⟨hnum, w64_0⟩
      · rcases List.mem_append.1 he with h | h
        · exact p3.key e h
        · obtain rfl := List.mem_singleton.1 h; show (2 : Nat) ≤ _; omega
      · cases hv; have := (o8.lt _ rfl).1; omega
    · go_wp2_with fail
      go_meet
      exact ⟨l, ⟨H6.out, HB.out _ G6, by have := kf.out; omega, rfl, G6⟩⟩
  obtain ⟨l', hM⟩ := hcut
  have HM := Lib.hid hM
  have hlen' := hM.len
  have G7 := hM.grown
  have K7 := grownBy_trans K5 hM.grown
  clear hM o6 H6 BC
  cases more
  · go_upto_region 15 with fail
    have R2 := HM.out.chkd
    have Gv := G7
    have Kv := K7
    clear HM G7 K7
    obtain ⟨wv, rfl⟩ : ∃ wv, wv = wc := ⟨_, rfl⟩
    obtain ⟨L2, rfl⟩ : ∃ L2, L2 = l' := ⟨_, rfl⟩
    go_upto_region 16 with fail
    have Z8 := Blk.new wv #[.slice la l.length lcp, .slice (some ⟨gm, 0, none⟩) l.length mc, .slice none 0 0] 33
    have K8 := grownBy_new_block Kv (.cells #[.slice la l.length lcp, .slice (some ⟨gm, 0, none⟩) l.length mc, .slice none 0 0] 33)
    have G8 := grownBy_new_block Gv (.cells #[.slice la l.length lcp, .slice (some ⟨gm, 0, none⟩) l.length mc, .slice none 0 0] 33)
    have R8 := Lib.hid (R2.same (World.grownBy_alloc wv (.cells #[.slice la l.length lcp, .slice (some ⟨gm, 0, none⟩) l.length mc, .slice none 0 0] 33) none))
    generalize wv.alloc (.cells #[.slice la l.length lcp, .slice (some ⟨gm, 0, none⟩) l.length mc, .slice none 0 0] 33) = wz at *
    generalize wv.heap.size = kb at *
    have B8 := HB5.out.same G8
    have Q8 := Lib.hid (Chkd.mk (HF.out.same G8).sums HF.out.small (by have := kf.out; omega))
    clear R2 Gv Kv
    go_loopw [72] (fun s72 wk => ∃ j : Nat, j ≤ 3 ∧ s72 = .int .i64 j ∧ wz.grownBy wk none) (fun s72 _ => 3 - (intOf s72).toNat)
    case atStart => exact ⟨0, by omega, rfl, grownBy_refl _ _⟩
    case round =>
      obtain ⟨j, hj, rfl, hg⟩ := hrel
      have B9 := B8.same hg
      have Z9 := Z8.same hg
      by_cases hjl : j < 3
      · obtain ⟨xa, xn, xc, L, hcl, hch⟩ : ∃ xa xn xc L, wr.cell? ⟨kb, j, none⟩ = some (.slice xa xn xc) ∧ Chkd wr (.slice xa xn xc) L := by
          rw [Z9.cell j]
          have : j = 0 ∨ j = 1 ∨ j = 2 := by omega
          rcases this with rfl | rfl | rfl
          · exact ⟨la, l.length, lcp, l, rfl, Q8.out.same hg⟩
          · exact ⟨_, _, _, L2, rfl, R8.out.same hg⟩
          · exact ⟨none, 0, 0, [], rfl, chkd_nil wr⟩
        have G9 := grownBy_trans G8 hg
        have RC := Lib.hid fun w' (h : World.grownBy wr w' none) => (HF.out.same (grownBy_trans G9 h)).rcfg
        have C1 := Lib.hid fun w' (h : World.grownBy wr w' none) => mcheck_c c t _ L w' (RC.out _ h) (hch.rd.same h) hch.small
        have C2 := Lib.hid fun w' (h : World.grownBy wr w' none) => rmerge_c c t _ L w' (RC.out _ h) (hch.rd.same h) hch.small
        have C3 := Lib.hid fun w' (h : World.grownBy wr w' none) => mtotal_c _ L w' (hch.rd.same h)
        have C4 := Lib.hid fun w' (h : World.grownBy wr w' none) => rtotal_c _ L w' (hch.rd.same h)
        have C5 := Lib.hid fun w' (h : World.grownBy wr w' none) => mkeys_c _ L w' (hch.rd.same h) (by have := hch.keys; omega)
        have C6 := Lib.hid fun w' (h : World.grownBy wr w' none) => rkeys_c _ L w' (hch.rd.same h) (by have := hch.keys; omega)
        have C8 := Lib.hid fun w' (h : World.grownBy wr w' none) => rest_c c t _ L w' (RC.out _ h) (hch.rd.same h) hch.small
        have C9 := Lib.hid fun w' (h : World.grownBy wr w' none) => rrest_c c t _ L w' (RC.out _ h) (hch.rd.same h) hch.small
        clear RC hch
        generalize mergeErr c L = ME at *
        generalize totalF L = TE at *
        generalize keysF L = KE at *
        generalize restF c L = RE at *
        go_upto_region 18 with fail
        have B6 := B9.same (w' := wr.drew) (by (repeat (first | exact grownBy_refl _ _ | assumption | refine grownBy_new_block ?_ _ | refine grownBy_drew ?_ | refine grownBy_drewN ?_ _ | refine grownBy_setNew ?_ (by first | (simp; done) | omega | (simp; omega)) _)))
        have K6 : World.grownBy wr wr.drew none := (by (repeat (first | exact grownBy_refl _ _ | assumption | refine grownBy_new_block ?_ _ | refine grownBy_drew ?_ | refine grownBy_drewN ?_ _ | refine grownBy_setNew ?_ (by first | (simp; done) | omega | (simp; omega)) _)))
        (refine Rg.wp_region_rgZ 31 #[] (fun w w' => World.grownBy w w' none) (fun k _ w v w' => match k with | 2 => v = .int .i64 ME ∧ World.grownBy w w' none | 5 => v = .int .i64 ME ∧ World.grownBy w w' none | 9 => v = .int .u64 TE ∧ World.grownBy w w' none | 11 => v = .int .u64 TE ∧ World.grownBy w w' none | 16 => RdL strB 1 w' v KE ∧ World.grownBy w w' none | 18 => RdL strB 1 w' v KE ∧ World.grownBy w w' none | 19 => v = .bool true ∧ World.grownBy w w' none | 25 => v = .int .u64 RE ∧ World.grownBy w w' none | 28 => v = .int .u64 RE ∧ World.grownBy w w' none | _ => False) (by kernel_rfl) (by kernel_rfl) (fun w => grownBy_refl w none) (fun _ _ _ h k => grownBy_trans h k) (fun _ _ _ _ _ h => h) ?_; simp only [List.take, List.drop])
        generalize wr.drew = wd at *
        ((refine Rg.tree_op rfl rfl ?_; intro x0 mx0 dx0); clear dx0; have BX := B6.same mx0; go_wp2_with (refine load_cfg rfl _ rfl _ rfl c (by assumption) ?_); refine ⟨grownBy_refl _ _, ?_⟩; clear BX)
        (refine Rg.tree_quiet 1 rfl (by first | exact Or.inl rfl | exact Or.inr rfl) ?_; simp only [List.take, List.drop, List.length_cons, List.length_nil, List.replicate, Nat.reduceAdd]; (try simp only [List.cons_append]); (try simp only [List.nil_append]); (repeat (go_big_quiet_step (fail))); refine wpQuiet_nil ?_)
        ((refine Rg.tree_call rfl rfl rfl ?_; intro x2 mx2 dx2; refine ⟨?_, ?_⟩; · (unfold Rg.callSpec; go_simp; (refine (C1.out x2 (grownBy_trans K6 mx2)).mono ?_; rintro e w' ⟨rfl, g⟩; exact ⟨_, rfl, rfl, g⟩))); clear dx2; rintro v y ⟨rfl, g⟩; refine ⟨g, ?_⟩; clear g; simp only [Act.put, List.setIfInBounds_toArray, List.set_cons_zero, List.set_cons_succ])
        ((refine Rg.tree_op rfl rfl ?_; intro x3 mx3 dx3); clear dx3; have BX := B6.same mx3; go_wp2_with (refine load_cfg rfl _ rfl _ rfl c (by assumption) ?_); refine ⟨grownBy_refl _ _, ?_⟩; clear BX)
        (refine Rg.tree_quiet 1 rfl (by first | exact Or.inl rfl | exact Or.inr rfl) ?_; simp only [List.take, List.drop, List.length_cons, List.length_nil, List.replicate, Nat.reduceAdd]; (try simp only [List.cons_append]); (try simp only [List.nil_append]); (repeat (go_big_quiet_step (fail))); refine wpQuiet_nil ?_)
        ((refine Rg.tree_call rfl rfl rfl ?_; intro x5 mx5 dx5; refine ⟨?_, ?_⟩; · (unfold Rg.callSpec; go_simp; (refine (C2.out x5 (grownBy_trans K6 mx5)).mono ?_; rintro e w' ⟨rfl, g⟩; exact ⟨_, rfl, rfl, g⟩))); clear dx5; rintro v y ⟨rfl, g⟩; refine ⟨g, ?_⟩; clear g; simp only [Act.put, List.setIfInBounds_toArray, List.set_cons_zero, List.set_cons_succ])
        (refine Rg.tree_quiet 3 rfl (by first | exact Or.inl rfl | exact Or.inr rfl) ?_; simp only [List.take, List.drop, List.length_cons, List.length_nil, List.replicate, Nat.reduceAdd]; (try simp only [List.cons_append]); (try simp only [List.nil_append]); (repeat (go_big_quiet_step (fail))); refine wpQuiet_nil ?_)
        ((refine Rg.tree_callG rfl rfl rfl ?_; intro x9 mx9 dx9; refine ⟨?_, ?_⟩; · (unfold Rg.callSpec; go_simp; (refine (C3.out x9 (grownBy_trans K6 mx9)).mono ?_; rintro e w' ⟨rfl, g⟩; exact ⟨_, rfl, rfl, g⟩))); clear dx9; rintro v y ⟨rfl, g⟩; refine ⟨g, ?_⟩; clear g; simp only [Act.put, List.setIfInBounds_toArray, List.set_cons_zero, List.set_cons_succ])
        (refine Rg.tree_quiet 1 rfl (by first | exact Or.inl rfl | exact Or.inr rfl) ?_; simp only [List.take, List.drop, List.length_cons, List.length_nil, List.replicate, Nat.reduceAdd]; (try simp only [List.cons_append]); (try simp only [List.nil_append]); (repeat (go_big_quiet_step (fail))); refine wpQuiet_nil ?_)
        ((refine Rg.tree_callG rfl rfl rfl ?_; intro x11 mx11 dx11; refine ⟨?_, ?_⟩; · (unfold Rg.callSpec; go_simp; (refine (C4.out x11 (grownBy_trans K6 mx11)).mono ?_; rintro e w' ⟨rfl, g⟩; exact ⟨_, rfl, rfl, g⟩))); clear dx11; rintro v y ⟨rfl, g⟩; refine ⟨g, ?_⟩; clear g; simp only [Act.put, List.setIfInBounds_toArray, List.set_cons_zero, List.set_cons_succ])
        (refine Rg.tree_quiet 4 rfl (by first | exact Or.inl rfl | exact Or.inr rfl) ?_; simp only [List.take, List.drop, List.length_cons, List.length_nil, List.replicate, Nat.reduceAdd]; (try simp only [List.cons_append]); (try simp only [List.nil_append]); (repeat (go_big_quiet_step (fail))); refine wpQuiet_nil ?_)
        (refine Rg.tree_callG rfl rfl rfl ?_; intro x16 mx16 dx16; refine ⟨?_, ?_⟩; · (unfold Rg.callSpec; go_simp; (refine (C5.out x16 (grownBy_trans K6 mx16)).mono ?_; rintro e w' ⟨v, rfl, o, g⟩; exact ⟨v, rfl, o.rd, g⟩)))
        clear dx16
        rintro v16 y16 ⟨R16, g16⟩
        refine ⟨g16, ?_⟩
        simp only [Act.put, List.setIfInBounds_toArray, List.set_cons_zero, List.set_cons_succ]
        (refine Rg.tree_quiet 1 rfl (by first | exact Or.inl rfl | exact Or.inr rfl) ?_; simp only [List.take, List.drop, List.length_cons, List.length_nil, List.replicate, Nat.reduceAdd]; (try simp only [List.cons_append]); (try simp only [List.nil_append]); (repeat (go_big_quiet_step (fail))); refine wpQuiet_nil ?_)
        (refine Rg.tree_callG rfl rfl rfl ?_; intro x18 mx18 dx18; refine ⟨?_, ?_⟩; · (unfold Rg.callSpec; go_simp; (refine (C6.out x18 (grownBy_trans K6 mx18)).mono ?_; rintro e w' ⟨v, rfl, o, g⟩; exact ⟨v, rfl, o.rd, g⟩)))
        clear dx18
        rintro v18 y18 ⟨R18, g18⟩
        refine ⟨g18, ?_⟩
        simp only [Act.put, List.setIfInBounds_toArray, List.set_cons_zero, List.set_cons_succ]
        (refine Rg.tree_callG rfl rfl rfl ?_; intro x19 mx19 dx19; refine ⟨?_, ?_⟩; · (unfold Rg.callSpec; go_simp; (refine (sameTexts_c v16 v18 KE x19 (RdL.same R16 (dx19.out 16 (by omega) (by kernel_rfl))) (RdL.same R18 (dx19.out 18 (by omega) (by kernel_rfl)))).mono ?_; rintro e w' ⟨rfl, g⟩; exact ⟨_, rfl, rfl, g⟩)))
        clear dx19
        rintro v19 y19 ⟨rfl, g19⟩
        refine ⟨g19, ?_⟩
        simp only [Act.put, List.setIfInBounds_toArray, List.set_cons_zero, List.set_cons_succ]
        (refine Rg.tree_quiet 3 rfl (by first | exact Or.inl rfl | exact Or.inr rfl) ?_; simp only [List.take, List.drop, List.length_cons, List.length_nil, List.replicate, Nat.reduceAdd]; (try simp only [List.cons_append]); (try simp only [List.nil_append]); (repeat (go_big_quiet_step (fail))); refine wpQuiet_nil ?_)
        ((refine Rg.tree_op rfl rfl ?_; intro x23 mx23 dx23); clear dx23; have BX := B6.same mx23; go_wp2_with (refine load_cfg_if rfl _ rfl _ rfl c (by assumption) ?_); refine ⟨grownBy_refl _ _, ?_⟩; clear BX)
        (refine Rg.tree_quiet 1 rfl (by first | exact Or.inl rfl | exact Or.inr rfl) ?_; simp only [List.take, List.drop, List.length_cons, List.length_nil, List.replicate, Nat.reduceAdd]; (try simp only [List.cons_append]); (try simp only [List.nil_append]); (repeat (go_big_quiet_step (fail))); refine wpQuiet_nil ?_)
        ((refine Rg.tree_callG rfl rfl rfl ?_; intro x25 mx25 dx25; refine ⟨?_, ?_⟩; · (unfold Rg.callSpec; go_simp; (refine (C8.out x25 (grownBy_trans K6 mx25)).mono ?_; rintro e w' ⟨rfl, g⟩; exact ⟨_, rfl, rfl, g⟩))); clear dx25; rintro v y ⟨rfl, g⟩; refine ⟨g, ?_⟩; clear g; simp only [Act.put, List.setIfInBounds_toArray, List.set_cons_zero, List.set_cons_succ])
        ((refine Rg.tree_op rfl rfl ?_; intro x26 mx26 dx26); clear dx26; have BX := B6.same mx26; go_wp2_with (refine load_cfg_if rfl _ rfl _ rfl c (by assumption) ?_); refine ⟨grownBy_refl _ _, ?_⟩; clear BX)
        (refine Rg.tree_quiet 1 rfl (by first | exact Or.inl rfl | exact Or.inr rfl) ?_; simp only [List.take, List.drop, List.length_cons, List.length_nil, List.replicate, Nat.reduceAdd]; (try simp only [List.cons_append]); (try simp only [List.nil_append]); (repeat (go_big_quiet_step (fail))); refine wpQuiet_nil ?_)
        ((refine Rg.tree_callG rfl rfl rfl ?_; intro x28 mx28 dx28; refine ⟨?_, ?_⟩; · (unfold Rg.callSpec; go_simp; (refine (C9.out x28 (grownBy_trans K6 mx28)).mono ?_; rintro e w' ⟨rfl, g⟩; exact ⟨_, rfl, rfl, g⟩))); clear dx28; rintro v y ⟨rfl, g⟩; refine ⟨g, ?_⟩; clear g; simp only [Act.put, List.setIfInBounds_toArray, List.set_cons_zero, List.set_cons_succ])
        (refine Rg.tree_quiet 2 rfl (by first | exact Or.inl rfl | exact Or.inr rfl) ?_; simp only [List.take, List.drop, List.length_cons, List.length_nil, List.replicate, Nat.reduceAdd]; (try simp only [List.cons_append]); (try simp only [List.nil_append]); (repeat (go_big_quiet_step (fail))); refine wpQuiet_nil ?_)
        (refine Rg.tree_nil ?_; intro xz mxz dxz cxz)
        have KZ := grownBy_trans hg (grownBy_trans K6 mxz)
        clear dxz cxz B6
        go_wp2_with fail
        exact ⟨⟨j + 1, by omega, by go_num, KZ⟩, by simp [intOf]; omega⟩
      · have C0 := Lib.hid (by have h := mcheck_c c t _ l wr (HF.out.same (grownBy_trans G8 hg)).rcfg (HF.out.same (grownBy_trans G8 hg)).sums HF.out.small; rw [few_ok HF.out] at h; exact h)
        go_wp2_with (first | (refine load_cfg rfl _ rfl _ rfl c (by assumption) ?_) | (go_at_call 34; refine C0.out.mono ?_; rintro e w9 ⟨rfl, G9⟩) | (go_at_call 27; refine (awake_c _).mono ?_; rintro e w10 ⟨rfl, G10⟩))
        go_ret
        exact retBool rfl (grownBy_trans K8 (grownBy_trans hg (grownBy_trans G9 G10)))
  · have s0c : ∀ u ∈ sumF ⟨0, .slice none 0 0, 0, .slice none 0 0, [], [], []⟩, u.oneCell' = true := by
      intro u hu
      simp only [sumF, List.mem_cons, List.not_mem_nil, or_false] at hu
      rcases hu with rfl | rfl | rfl | rfl <;> rfl
    have S0 := Lib.hid s0c
    clear s0c
    have hO := HM.out.own
    have hb5 : (l'.length + 1) * 64 ≤ 140737488355328 := by omega
    have hb6 : l'.length + 1 ≤ 9223372036854775807 := by omega
    have hz7 := G7.size
    have Hc0 := Lib.hid (show (#[Value.int .u64 0, .slice none 0 0, .int .u64 0, .slice none 0 0] : Array Value).toList = sumF ⟨0, .slice none 0 0, 0, .slice none 0 0, [], [], []⟩ from rfl)
    go_upto_region 15 with (at_builtin; refine app_oneV elt_sum sumF_len hO ⟨0, .slice none 0 0, 0, .slice none 0 0, [], [], []⟩ S0.out hb5 hb6 hz7 Hc0.out rfl (.tmp 64) (.tmp 66) rfl rfl rfl ?_; intro v9 wv o9 g9 l9)
    have Gv := grown_own G7 hO (Nat.le_refl _) g9
    have Kv := grownBy_trans K5 Gv
    have R2 : Chkd wv v9 (l' ++ [⟨0, .slice none 0 0, 0, .slice none 0 0, [], [], []⟩]) := by
      refine ⟨⟨o9.rd, fun s hs => ?_, fun s hs => ?_⟩, fun s hs => ?_, ?_⟩
      · rcases List.mem_append.1 hs with h | h
        · exact (HM.out.all s h).1.off g9 (fun k hk => by cases hk; exact (HM.out.all s h).2.2.2)
        · obtain rfl := List.mem_singleton.1 h
          exact ⟨⟨by simp [cellsOf], by simp, .inl ⟨rfl, none, 0, rfl⟩⟩, ⟨by simp [cellsOf], by simp, .inl ⟨rfl, none, 0, rfl⟩⟩, rfl, by simp⟩
      · rcases List.mem_append.1 hs with h | h
        · exact (HM.out.all s h).2.1
        · obtain rfl := List.mem_singleton.1 h
          exact ⟨w64_0, w64_0, by simp, by simp⟩
      · rcases List.mem_append.1 hs with h | h
        · exact (HM.out.all s h).2.2.1
        · obtain rfl := List.mem_singleton.1 h
          exact ⟨by simp, by simp, by simp⟩
      · have := HM.out.keys
        rw [show keysL (l' ++ [⟨0, .slice none 0 0, 0, .slice none 0 0, [], [], []⟩]) = keysL l' by simp [keysL]]
        omega
    generalize l' ++ [(⟨0, .slice none 0 0, 0, .slice none 0 0, [], [], []⟩ : Summ)] = L2 at *
    clear HM G7 K7 hO S0 Hc0 o9 g9 l9 hb5 hb6 hz7
    obtain ⟨ma, mcc, rfl⟩ := R2.rd.rd.shape
    go_upto_region 16 with fail
    have Z8 := Blk.new wv #[.slice la l.length lcp, .slice ma L2.length mcc, .slice none 0 0] 33
    have K8 := grownBy_new_block Kv (.cells #[.slice la l.length lcp, .slice ma L2.length mcc, .slice none 0 0] 33)
    have G8 := grownBy_new_block Gv (.cells #[.slice la l.length lcp, .slice ma L2.length mcc, .slice none 0 0] 33)
    have R8 := Lib.hid (R2.same (World.grownBy_alloc wv (.cells #[.slice la l.length lcp, .slice ma L2.length mcc, .slice none 0 0] 33) none))
    generalize wv.alloc (.cells #[.slice la l.length lcp, .slice ma L2.length mcc, .slice none 0 0] 33) = wz at *
    generalize wv.heap.size = kb at *
    have B8 := HB5.out.same G8
    have Q8 := Lib.hid (Chkd.mk (HF.out.same G8).sums HF.out.small (by have := kf.out; omega))
    clear R2 Gv Kv
    go_loopw [72] (fun s72 wk => ∃ j : Nat, j ≤ 3 ∧ s72 = .int .i64 j ∧ wz.grownBy wk none) (fun s72 _ => 3 - (intOf s72).toNat)
    case atStart => exact ⟨0, by omega, rfl, grownBy_refl _ _⟩
    case round =>
      obtain ⟨j, hj, rfl, hg⟩ := hrel
      have B9 := B8.same hg
      have Z9 := Z8.same hg
      by_cases hjl : j < 3
      · obtain ⟨xa, xn, xc, L, hcl, hch⟩ : ∃ xa xn xc L, wr.cell? ⟨kb, j, none⟩ = some (.slice xa xn xc) ∧ Chkd wr (.slice xa xn xc) L := by
          rw [Z9.cell j]
          have : j = 0 ∨ j = 1 ∨ j = 2 := by omega
          rcases this with rfl | rfl | rfl
          · exact ⟨la, l.length, lcp, l, rfl, Q8.out.same hg⟩
          · exact ⟨_, _, _, L2, rfl, R8.out.same hg⟩
          · exact ⟨none, 0, 0, [], rfl, chkd_nil wr⟩
        have G9 := grownBy_trans G8 hg
        have RC := Lib.hid fun w' (h : World.grownBy wr w' none) => (HF.out.same (grownBy_trans G9 h)).rcfg
        have C1 := Lib.hid fun w' (h : World.grownBy wr w' none) => mcheck_c c t _ L w' (RC.out _ h) (hch.rd.same h) hch.small
        have C2 := Lib.hid fun w' (h : World.grownBy wr w' none) => rmerge_c c t _ L w' (RC.out _ h) (hch.rd.same h) hch.small
        have C3 := Lib.hid fun w' (h : World.grownBy wr w' none) => mtotal_c _ L w' (hch.rd.same h)
        have C4 := Lib.hid fun w' (h : World.grownBy wr w' none) => rtotal_c _ L w' (hch.rd.same h)
        have C5 := Lib.hid fun w' (h : World.grownBy wr w' none) => mkeys_c _ L w' (hch.rd.same h) (by have := hch.keys; omega)
        have C6 := Lib.hid fun w' (h : World.grownBy wr w' none) => rkeys_c _ L w' (hch.rd.same h) (by have := hch.keys; omega)
        have C8 := Lib.hid fun w' (h : World.grownBy wr w' none) => rest_c c t _ L w' (RC.out _ h) (hch.rd.same h) hch.small
        have C9 := Lib.hid fun w' (h : World.grownBy wr w' none) => rrest_c c t _ L w' (RC.out _ h) (hch.rd.same h) hch.small
        clear RC hch
        generalize mergeErr c L = ME at *
        generalize totalF L = TE at *
        generalize keysF L = KE at *
        generalize restF c L = RE at *
        go_upto_region 18 with fail
        have B6 := B9.same (w' := wr.drew) (by (repeat (first | exact grownBy_refl _ _ | assumption | refine grownBy_new_block ?_ _ | refine grownBy_drew ?_ | refine grownBy_drewN ?_ _ | refine grownBy_setNew ?_ (by first | (simp; done) | omega | (simp; omega)) _)))
        have K6 : World.grownBy wr wr.drew none := (by (repeat (first | exact grownBy_refl _ _ | assumption | refine grownBy_new_block ?_ _ | refine grownBy_drew ?_ | refine grownBy_drewN ?_ _ | refine grownBy_setNew ?_ (by first | (simp; done) | omega | (simp; omega)) _)))
        (refine Rg.wp_region_rgZ 31 #[] (fun w w' => World.grownBy w w' none) (fun k _ w v w' => match k with | 2 => v = .int .i64 ME ∧ World.grownBy w w' none | 5 => v = .int .i64 ME ∧ World.grownBy w w' none | 9 => v = .int .u64 TE ∧ World.grownBy w w' none | 11 => v = .int .u64 TE ∧ World.grownBy w w' none | 16 => RdL strB 1 w' v KE ∧ World.grownBy w w' none | 18 => RdL strB 1 w' v KE ∧ World.grownBy w w' none | 19 => v = .bool true ∧ World.grownBy w w' none | 25 => v = .int .u64 RE ∧ World.grownBy w w' none | 28 => v = .int .u64 RE ∧ World.grownBy w w' none | _ => False) (by kernel_rfl) (by kernel_rfl) (fun w => grownBy_refl w none) (fun _ _ _ h k => grownBy_trans h k) (fun _ _ _ _ _ h => h) ?_; simp only [List.take, List.drop])
        generalize wr.drew = wd at *
        ((refine Rg.tree_op rfl rfl ?_; intro x0 mx0 dx0); clear dx0; have BX := B6.same mx0; go_wp2_with (refine load_cfg rfl _ rfl _ rfl c (by assumption) ?_); refine ⟨grownBy_refl _ _, ?_⟩; clear BX)
        (refine Rg.tree_quiet 1 rfl (by first | exact Or.inl rfl | exact Or.inr rfl) ?_; simp only [List.take, List.drop, List.length_cons, List.length_nil, List.replicate, Nat.reduceAdd]; (try simp only [List.cons_append]); (try simp only [List.nil_append]); (repeat (go_big_quiet_step (fail))); refine wpQuiet_nil ?_)
        ((refine Rg.tree_call rfl rfl rfl ?_; intro x2 mx2 dx2; refine ⟨?_, ?_⟩; · (unfold Rg.callSpec; go_simp; (refine (C1.out x2 (grownBy_trans K6 mx2)).mono ?_; rintro e w' ⟨rfl, g⟩; exact ⟨_, rfl, rfl, g⟩))); clear dx2; rintro v y ⟨rfl, g⟩; refine ⟨g, ?_⟩; clear g; simp only [Act.put, List.setIfInBounds_toArray, List.set_cons_zero, List.set_cons_succ])
        ((refine Rg.tree_op rfl rfl ?_; intro x3 mx3 dx3); clear dx3; have BX := B6.same mx3; go_wp2_with (refine load_cfg rfl _ rfl _ rfl c (by assumption) ?_); refine ⟨grownBy_refl _ _, ?_⟩; clear BX)
        (refine Rg.tree_quiet 1 rfl (by first | exact Or.inl rfl | exact Or.inr rfl) ?_; simp only [List.take, List.drop, List.length_cons, List.length_nil, List.replicate, Nat.reduceAdd]; (try simp only [List.cons_append]); (try simp only [List.nil_append]); (repeat (go_big_quiet_step (fail))); refine wpQuiet_nil ?_)
        ((refine Rg.tree_call rfl rfl rfl ?_; intro x5 mx5 dx5; refine ⟨?_, ?_⟩; · (unfold Rg.callSpec; go_simp; (refine (C2.out x5 (grownBy_trans K6 mx5)).mono ?_; rintro e w' ⟨rfl, g⟩; exact ⟨_, rfl, rfl, g⟩))); clear dx5; rintro v y ⟨rfl, g⟩; refine ⟨g, ?_⟩; clear g; simp only [Act.put, List.setIfInBounds_toArray, List.set_cons_zero, List.set_cons_succ])
        (refine Rg.tree_quiet 3 rfl (by first | exact Or.inl rfl | exact Or.inr rfl) ?_; simp only [List.take, List.drop, List.length_cons, List.length_nil, List.replicate, Nat.reduceAdd]; (try simp only [List.cons_append]); (try simp only [List.nil_append]); (repeat (go_big_quiet_step (fail))); refine wpQuiet_nil ?_)
        ((refine Rg.tree_callG rfl rfl rfl ?_; intro x9 mx9 dx9; refine ⟨?_, ?_⟩; · (unfold Rg.callSpec; go_simp; (refine (C3.out x9 (grownBy_trans K6 mx9)).mono ?_; rintro e w' ⟨rfl, g⟩; exact ⟨_, rfl, rfl, g⟩))); clear dx9; rintro v y ⟨rfl, g⟩; refine ⟨g, ?_⟩; clear g; simp only [Act.put, List.setIfInBounds_toArray, List.set_cons_zero, List.set_cons_succ])
        (refine Rg.tree_quiet 1 rfl (by first | exact Or.inl rfl | exact Or.inr rfl) ?_; simp only [List.take, List.drop, List.length_cons, List.length_nil, List.replicate, Nat.reduceAdd]; (try simp only [List.cons_append]); (try simp only [List.nil_append]); (repeat (go_big_quiet_step (fail))); refine wpQuiet_nil ?_)
        ((refine Rg.tree_callG rfl rfl rfl ?_; intro x11 mx11 dx11; refine ⟨?_, ?_⟩; · (unfold Rg.callSpec; go_simp; (refine (C4.out x11 (grownBy_trans K6 mx11)).mono ?_; rintro e w' ⟨rfl, g⟩; exact ⟨_, rfl, rfl, g⟩))); clear dx11; rintro v y ⟨rfl, g⟩; refine ⟨g, ?_⟩; clear g; simp only [Act.put, List.setIfInBounds_toArray, List.set_cons_zero, List.set_cons_succ])
        (refine Rg.tree_quiet 4 rfl (by first | exact Or.inl rfl | exact Or.inr rfl) ?_; simp only [List.take, List.drop, List.length_cons, List.length_nil, List.replicate, Nat.reduceAdd]; (try simp only [List.cons_append]); (try simp only [List.nil_append]); (repeat (go_big_quiet_step (fail))); refine wpQuiet_nil ?_)
        (refine Rg.tree_callG rfl rfl rfl ?_; intro x16 mx16 dx16; refine ⟨?_, ?_⟩; · (unfold Rg.callSpec; go_simp; (refine (C5.out x16 (grownBy_trans K6 mx16)).mono ?_; rintro e w' ⟨v, rfl, o, g⟩; exact ⟨v, rfl, o.rd, g⟩)))
        clear dx16
        rintro v16 y16 ⟨R16, g16⟩
        refine ⟨g16, ?_⟩
        simp only [Act.put, List.setIfInBounds_toArray, List.set_cons_zero, List.set_cons_succ]
        (refine Rg.tree_quiet 1 rfl (by first | exact Or.inl rfl | exact Or.inr rfl) ?_; simp only [List.take, List.drop, List.length_cons, List.length_nil, List.replicate, Nat.reduceAdd]; (try simp only [List.cons_append]); (try simp only [List.nil_append]); (repeat (go_big_quiet_step (fail))); refine wpQuiet_nil ?_)
        (refine Rg.tree_callG rfl rfl rfl ?_; intro x18 mx18 dx18; refine ⟨?_, ?_⟩; · (unfold Rg.callSpec; go_simp; (refine (C6.out x18 (grownBy_trans K6 mx18)).mono ?_; rintro e w' ⟨v, rfl, o, g⟩; exact ⟨v, rfl, o.rd, g⟩)))
        clear dx18
        rintro v18 y18 ⟨R18, g18⟩
        refine ⟨g18, ?_⟩
        simp only [Act.put, List.setIfInBounds_toArray, List.set_cons_zero, List.set_cons_succ]
        (refine Rg.tree_callG rfl rfl rfl ?_; intro x19 mx19 dx19; refine ⟨?_, ?_⟩; · (unfold Rg.callSpec; go_simp; (refine (sameTexts_c v16 v18 KE x19 (RdL.same R16 (dx19.out 16 (by omega) (by kernel_rfl))) (RdL.same R18 (dx19.out 18 (by omega) (by kernel_rfl)))).mono ?_; rintro e w' ⟨rfl, g⟩; exact ⟨_, rfl, rfl, g⟩)))
        clear dx19
        rintro v19 y19 ⟨rfl, g19⟩
        refine ⟨g19, ?_⟩
        simp only [Act.put, List.setIfInBounds_toArray, List.set_cons_zero, List.set_cons_succ]
        (refine Rg.tree_quiet 3 rfl (by first | exact Or.inl rfl | exact Or.inr rfl) ?_; simp only [List.take, List.drop, List.length_cons, List.length_nil, List.replicate, Nat.reduceAdd]; (try simp only [List.cons_append]); (try simp only [List.nil_append]); (repeat (go_big_quiet_step (fail))); refine wpQuiet_nil ?_)
        ((refine Rg.tree_op rfl rfl ?_; intro x23 mx23 dx23); clear dx23; have BX := B6.same mx23; go_wp2_with (refine load_cfg_if rfl _ rfl _ rfl c (by assumption) ?_); refine ⟨grownBy_refl _ _, ?_⟩; clear BX)
        (refine Rg.tree_quiet 1 rfl (by first | exact Or.inl rfl | exact Or.inr rfl) ?_; simp only [List.take, List.drop, List.length_cons, List.length_nil, List.replicate, Nat.reduceAdd]; (try simp only [List.cons_append]); (try simp only [List.nil_append]); (repeat (go_big_quiet_step (fail))); refine wpQuiet_nil ?_)
        ((refine Rg.tree_callG rfl rfl rfl ?_; intro x25 mx25 dx25; refine ⟨?_, ?_⟩; · (unfold Rg.callSpec; go_simp; (refine (C8.out x25 (grownBy_trans K6 mx25)).mono ?_; rintro e w' ⟨rfl, g⟩; exact ⟨_, rfl, rfl, g⟩))); clear dx25; rintro v y ⟨rfl, g⟩; refine ⟨g, ?_⟩; clear g; simp only [Act.put, List.setIfInBounds_toArray, List.set_cons_zero, List.set_cons_succ])
        ((refine Rg.tree_op rfl rfl ?_; intro x26 mx26 dx26); clear dx26; have BX := B6.same mx26; go_wp2_with (refine load_cfg_if rfl _ rfl _ rfl c (by assumption) ?_); refine ⟨grownBy_refl _ _, ?_⟩; clear BX)
        (refine Rg.tree_quiet 1 rfl (by first | exact Or.inl rfl | exact Or.inr rfl) ?_; simp only [List.take, List.drop, List.length_cons, List.length_nil, List.replicate, Nat.reduceAdd]; (try simp only [List.cons_append]); (try simp only [List.nil_append]); (repeat (go_big_quiet_step (fail))); refine wpQuiet_nil ?_)
        ((refine Rg.tree_callG rfl rfl rfl ?_; intro x28 mx28 dx28; refine ⟨?_, ?_⟩; · (unfold Rg.callSpec; go_simp; (refine (C9.out x28 (grownBy_trans K6 mx28)).mono ?_; rintro e w' ⟨rfl, g⟩; exact ⟨_, rfl, rfl, g⟩))); clear dx28; rintro v y ⟨rfl, g⟩; refine ⟨g, ?_⟩; clear g; simp only [Act.put, List.setIfInBounds_toArray, List.set_cons_zero, List.set_cons_succ])
        (refine Rg.tree_quiet 2 rfl (by first | exact Or.inl rfl | exact Or.inr rfl) ?_; simp only [List.take, List.drop, List.length_cons, List.length_nil, List.replicate, Nat.reduceAdd]; (try simp only [List.cons_append]); (try simp only [List.nil_append]); (repeat (go_big_quiet_step (fail))); refine wpQuiet_nil ?_)
        (refine Rg.tree_nil ?_; intro xz mxz dxz cxz)
        have KZ := grownBy_trans hg (grownBy_trans K6 mxz)
        clear dxz cxz B6
        go_wp2_with fail
        exact ⟨⟨j + 1, by omega, by go_num, KZ⟩, by simp [intOf]; omega⟩
      · have C0 := Lib.hid (by have h := mcheck_c c t _ l wr (HF.out.same (grownBy_trans G8 hg)).rcfg (HF.out.same (grownBy_trans G8 hg)).sums HF.out.small; rw [few_ok HF.out] at h; exact h)
        go_wp2_with (first | (refine load_cfg rfl _ rfl _ rfl c (by assumption) ?_) | (go_at_call 34; refine C0.out.mono ?_; rintro e w9 ⟨rfl, G9⟩) | (go_at_call 27; refine (awake_c _).mono ?_; rintro e w10 ⟨rfl, G10⟩))
        go_ret
        exact retBool rfl (grownBy_trans K8 (grownBy_trans hg (grownBy_trans G9 G10)))
end Go.Proofs.Ytiagjiaahnkefaa
