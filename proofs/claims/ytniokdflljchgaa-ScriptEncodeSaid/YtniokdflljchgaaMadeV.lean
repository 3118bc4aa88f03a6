/- What the deck makes: lists of events, bytes of frames. -/
import Derived.Test.YtniokdflljchgaaMadeE
import Derived.Lib.MinMax
namespace Go.Proofs.Ytniokdflljchgaa
open Go.RowKit Go.Sort

theorem elt_ev : Elt 131 145 (.agg #[.slice none 0 0, .int .i64 0, .int .u64 0]) 3 40 := ⟨Try.underlying131, by kernel_rfl, rfl, by decide⟩
structure EvsG (lo : Nat) (w : World) (v : Value) (l : List EvR) : Prop where
  own : Own evF 3 145 lo w v l
  all : ∀ x ∈ l, RdL tagF 2 w x.vt x.tags ∧ InB lo w.heap.size x.vt ∧ EvOk x ∧ ∀ k, v.ownBlock = some k → NotIn x.vt k
theorem EvsG.nil (lo : Nat) (w : World) : EvsG lo w (.slice none 0 0) [] := ⟨Own.nil _ _ _ _ _, by simp⟩
theorem EvsG.rd {lo : Nat} {w : World} {v : Value} {l : List EvR} (h : EvsG lo w v l) : EvsRd w v l := ⟨h.own.rd, fun x hx => (h.all x hx).1⟩
theorem EvsG.kept {lo : Nat} {w w' : World} {v : Value} {l : List EvR} {r : Option Nat} (h : EvsG lo w v l) (hg : w.grownBy w' r) (hr : ∀ k, r = some k → k < lo) : EvsG lo w' v l := by
  refine ⟨h.own.kept hg (fun k hk e => by have := (h.own.lt k hk).1; have := hr k e; omega), fun x hx => ?_⟩
  obtain ⟨h1, h2, h3, h4⟩ := h.all x hx
  exact ⟨Rd.kept h1 hg fun k e => h2.notIn (.inl (hr k e)), h2.wide (Nat.le_refl _) hg.size, h3, h4⟩
theorem EvsG.snoc {lo : Nat} {w w' : World} {v v' : Value} {l : List EvR} {x : EvR} {n : Nat} (h : EvsG lo w v l) (h1 : RdL tagF 2 w x.vt x.tags) (h2 : InB n w.heap.size x.vt) (h3 : EvOk x) (hn : lo ≤ n) (hv : ∀ k, v.ownBlock = some k → k < n)
    (ho : Own evF 3 145 lo w' v' (l ++ [x])) (hg : w.grownBy w' v.ownBlock) (hL : Lies v v' w.heap.size) : EvsG lo w' v' (l ++ [x]) := by
  have hnew : ∀ y : EvR, InB lo w.heap.size y.vt → (∀ k, v.ownBlock = some k → NotIn y.vt k) → ∀ k, v'.ownBlock = some k → NotIn y.vt k := fun y hi hs k hk => by
    rcases hL with e | ⟨m, e1, e2⟩
    · exact hs k (e ▸ hk)
    · rw [e1] at hk; cases hk; exact hi.notIn (.inr e2)
  refine ⟨ho, fun y hy => ?_⟩
  rcases List.mem_append.1 hy with hy | hy
  · obtain ⟨a1, a2, a3, a4⟩ := h.all y hy
    exact ⟨Rd.kept a1 hg fun k e => a4 k e, a2.wide (Nat.le_refl _) hg.size, a3, hnew y a2 a4⟩
  · obtain rfl := List.mem_singleton.1 hy
    have a4 : ∀ k, v.ownBlock = some k → NotIn y.vt k := fun k hk => h2.notIn (.inl (hv k hk))
    exact ⟨Rd.kept h1 hg fun k e => a4 k e, (h2.wide hn hg.size), h3, hnew y (h2.wide hn (Nat.le_refl _)) a4⟩
theorem one_ev {a : Option Addr} {n c : Nat} {t wt : Int} {tg : List TagR} : ∀ u ∈ evF ⟨.slice a n c, t, wt, tg⟩, u.oneCell' = true := by
  intro u hu; simp [evF] at hu; rcases hu with rfl | rfl | rfl <;> rfl
def EvsD (B b : Nat) (w : World) (e : Ending) (w' : World) : Prop := ∃ v l, e = .returned v ∧ EvsG w.heap.size w' v l ∧ (1 ≤ l.length ∧ l.length ≤ 4) ∧ Deck B w' b ∧ w.grownBy w' (some b)

set_option maxHeartbeats 1000000 in
set_option maxRecDepth 100000 in
theorem events_c {B : Nat} (b : Nat) (t : Int) (w : World) (hd : Deck B w b) (hB : B ≤ w.heap.size) (ht : 0 ≤ t ∧ t ≤ 549755813888) : Calls Try.prog 84 #[.pointer (some ⟨b, 0, none⟩), .int .i64 t, .int .i64 3] w (EvsD B b w) := by
  have hbB := hd.below
  have C1 := Lib.hid (next_c b 4 w hd (by omega) (by omega))
  go_enter Try.func84, Try.ntmps84
  go_upto_region 3 with (go_at_call 62; refine C1.out.mono ?_; rintro e w1 ⟨k0, rfl, hk0, hk1, hd1, hg1⟩)
  have HD1 := Lib.hid hd1
  have HG1 := Lib.hid hg1
  clear C1 hd1 hg1 hd
  go_loopw [8, 7] (fun s8 s7 wk => ∃ (k : Int) (l : List EvR), s8 = .int .i64 k ∧ (-1 ≤ k ∧ k ≤ 3) ∧ (l.length : Int) = k0 - k ∧ k ≤ k0 ∧ EvsG w.heap.size wk s7 l ∧ Deck B wk b ∧ w.grownBy wk (some b)) (fun s8 _ _ => (intOf s8 + 1).toNat)
  case atStart => exact ⟨k0, [], rfl, by omega, by simp, by omega, EvsG.nil _ _, HD1.out, HG1.out⟩
  case round =>
    clear HD1 HG1
    obtain ⟨k, l, rfl, ⟨hk2, hk3⟩, hl, hkk, hE, hD, hg⟩ := hrel
    have HE := Lib.hid hE
    have HD := Lib.hid hD
    have HG := Lib.hid hg
    have Hl := Lib.hid hl
    have hl4 : l.length ≤ 4 := by omega
    obtain ⟨oa, oc, rfl⟩ := hE.own.shape
    clear hE hD hl
    by_cases hge : 0 ≤ k
    · have C2 := Lib.hid (next_c b 60 wr HD.out (by omega) (by omega))
      go_upto_region 4 with (go_at_call 62; refine C2.out.mono ?_; rintro e w2 ⟨r, rfl, hr0, hr1, hd2, hg2⟩)
      have E2 := HE.out.kept hg2 (fun k e => by cases e; omega)
      have hz2 := Nat.le_trans HG.out.size hg2.size
      have HL := Lib.hid (fun k hk => (E2.own.lt k hk).2 : ∀ k, (Value.slice oa l.length oc).ownBlock = some k → k < w2.heap.size)
      have HE2 := Lib.hid E2
      have HG2 := Lib.hid (grownBy_trans HG.out hg2)
      have hb1 : (l.length + 1) * 40 ≤ 140737488355328 := by omega
      have hb2 : l.length + 1 ≤ 9223372036854775807 := by omega
      clear E2 HE HG HD hg2 C2
      refine (event_c b (max (t + r - 20) 0) w2 hd2 (by omega) (by omega)).mono ?_
      rintro e w3 ⟨x, rfl, hx, hR, hI, hd3, hg3⟩
      obtain ⟨xv, xt, xw, xg⟩ := x
      obtain ⟨xa, xc, e1⟩ := hR.shape
      dsimp only at e1 hR hI
      subst e1
      have E3 := HE2.out.kept hg3 (fun k e => by cases e; omega)
      have hz3 := Nat.le_trans hz2 hg3.size
      have HE3 := Lib.hid E3
      have HR := Lib.hid hR
      have HI := Lib.hid hI
      have Hx := Lib.hid hx
      have HG3 := Lib.hid (grownBy_trans HG2.out hg3)
      have HD3 := Lib.hid hd3
      clear E3 hR hI hx hg3 hd3 HE2 HG2
      go_upto_region 4 with (at_builtin; refine app_oneV elt_ev evF_len HE3.out.own ⟨.slice xa xg.length xc, xt, xw, xg⟩ one_ev hb1 hb2 hz3 (by rfl) rfl _ _ (by rfl) (by rfl) (by rfl) ?_; intro v4 w4 o4 g4 l4)
      have E4 := HE3.out.snoc (x := ⟨.slice xa xg.length xc, xt, xw, xg⟩) (n := w2.heap.size) HR.out HI.out Hx.out hz2 HL.out o4 g4 l4
      have hlo : ∀ k, (Value.slice oa l.length oc).ownBlock = some k → w.heap.size ≤ k := fun k hk => (HE3.out.own.lt k hk).1
      have D4 := HD3.out.kept g4 (fun k e => by have := hlo _ e; omega)
      have G4 : w.grownBy w4 (some b) := by
        cases hv : (Value.slice oa l.length oc).ownBlock with
        | none => rw [hv] at g4; exact grownBy_trans HG3.out (grownBy_some g4 _)
        | some q => rw [hv] at g4; exact grownBy_new HG3.out g4 (hlo q hv)
      have HF := Lib.hid (And.intro E4 (And.intro D4 G4))
      clear E4 D4 G4 o4 g4 l4 HE3 HD3 HG3
      go_wp2_with fail
      exact ⟨⟨k - 1, _, rfl, by omega, by have := Hl.out; simp; omega, by omega, HF.out.1, HF.out.2.1, HF.out.2.2⟩, by simp [intOf]; omega⟩
    · obtain rfl : k = -1 := by omega
      go_wp2_with fail
      go_ret
      exact ⟨_, l, rfl, HE.out, by have := Hl.out; omega, HD.out, HG.out⟩
def FramesD (B b : Nat) (w : World) (e : Ending) (w' : World) : Prop := ∃ v l, e = .returned v ∧ Own byF 1 5 w.heap.size w' v l ∧ l.length ≤ 4096 ∧ Deck B w' b ∧ w.grownBy w' (some b)

set_option maxHeartbeats 1000000 in
set_option maxRecDepth 100000 in
theorem frames_c {B : Nat} (b : Nat) (t : Int) (w : World) (hd : Deck B w b) (hB : B ≤ w.heap.size) (ht : 0 ≤ t ∧ t ≤ 549755813888) : Calls Try.prog 64 #[.pointer (some ⟨b, 0, none⟩), .int .i64 t] w (FramesD B b w) := by
  have hbB := hd.below
  have C1 := Lib.hid (next_c b 2 w hd (by omega) (by omega))
  go_enter Try.func64, Try.ntmps64
  go_upto_region 3 with (go_at_call 62; refine C1.out.mono ?_; rintro e w1 ⟨k0, rfl, hk0, hk1, hd1, hg1⟩)
  have HD1 := Lib.hid hd1
  have HG1 := Lib.hid hg1
  clear C1 hd1 hg1 hd
  go_loopw [6, 5] (fun s6 s5 wk => ∃ (k : Int) (l : List UInt8), s6 = .int .i64 k ∧ (-1 ≤ k ∧ k ≤ 1) ∧ (l.length : Int) ≤ 1844 * (1 - k) ∧ Own byF 1 5 w.heap.size wk s5 l ∧ Deck B wk b ∧ w.grownBy wk (some b)) (fun s6 _ _ => (intOf s6 + 1).toNat)
  case atStart => exact ⟨k0, [], rfl, by omega, by simp; omega, Own.nil _ _ _ _ _, HD1.out, HG1.out⟩
  case round =>
    clear HD1 HG1
    obtain ⟨k, l, rfl, ⟨hk2, hk3⟩, hl, hO, hD, hg⟩ := hrel
    have HO := Lib.hid hO
    have HD := Lib.hid hD
    have HG := Lib.hid hg
    have hl4 : l.length ≤ 3688 := by omega
    obtain ⟨oa, oc, rfl⟩ := hO.shape
    have hzr := hg.size
    clear hO hD
    by_cases hge : 0 ≤ k
    · have C2 := Lib.hid (events_c b t wr HD.out (by omega) ht)
      go_upto_region 6 with (first
        | (go_at_call 84; refine C2.out.mono ?_; rintro e w2 ⟨v2, ev, rfl, hev, hel, hd2, hg2⟩; obtain ⟨ea, ec, rfl⟩ := hev.own.shape; have C3 := Lib.hid (rframe_c _ ev w2 hev.rd (fun x hx => (hev.all x hx).2.2.1) (by omega) (by omega)))
        | (go_at_call 83; refine C3.out.mono ?_; rintro e w3 ⟨v3, rfl, o3, g3⟩; obtain ⟨fa, fc, rfl⟩ := o3.shape))
      have hfl := frB_len (fun x hx => (hev.all x hx).2.2.1) hel.2
      have HO3 := Lib.hid ((HO.out.kept hg2 (fun q hq e => by cases e; have := (HO.out.lt _ hq).1; omega)).same g3)
      have HR3 := Lib.hid o3.rd
      have HD3 := Lib.hid (hd2.kept g3 (by simp))
      have HG3 := Lib.hid (grownBy_trans (grownBy_trans HG.out hg2) (grownBy_some g3 _))
      have hz3 := HG3.out.size
      generalize frB ev = F at *
      have hb1 : (l.length + F.length) * 1 ≤ 140737488355328 := by omega
      have hb2 : l.length + F.length ≤ 9223372036854775807 := by omega
      clear C2 C3 hev hd2 hg2 o3 g3 HO HD HG hg
      go_upto_region 4 with (at_builtin; refine app elt_by one_by HO3.out HR3.out rfl hb1 hb2 hz3 (by rfl) _ _ (by rfl) (by rfl) (by rfl) ?_; intro v4 w4 o4 g4 l4)
      have hlo : ∀ k, (Value.slice oa l.length oc).ownBlock = some k → w.heap.size ≤ k := fun k hk => (HO3.out.lt k hk).1
      have D4 := HD3.out.kept g4 (fun k e => by have := hlo _ e; omega)
      have G4 : w.grownBy w4 (some b) := by
        cases hv : (Value.slice oa l.length oc).ownBlock with
        | none => rw [hv] at g4; exact grownBy_trans HG3.out (grownBy_some g4 _)
        | some q => rw [hv] at g4; exact grownBy_new HG3.out g4 (hlo q hv)
      have HF := Lib.hid (And.intro o4 (And.intro D4 G4))
      clear D4 G4 o4 g4 l4 HO3 HD3 HG3
      go_wp2_with fail
      exact ⟨⟨k - 1, _, rfl, by omega, by simp; omega, HF.out.1, HF.out.2.1, HF.out.2.2⟩, by simp [intOf]; omega⟩
    · obtain rfl : k = -1 := by omega
      clear hg hge
      by_cases h0 : l.length = 0
      · obtain rfl : l = [] := List.eq_nil_of_length_eq_zero h0
        clear h0
        go_wp2_with fail
        go_ret
        exact ⟨_, [], rfl, HO.out, by simp, HD.out, HG.out⟩
      · have i0 : (0 : Int) < (l.length : Int) := by omega
        have H0 := Lib.hid h0
        clear h0
        have C2 := Lib.hid (next_c b 12 wr HD.out (by omega) (by omega))
        go_wp2_with fail
        refine C2.out.mono ?_
        rintro e w2 ⟨q, rfl, hq0, hq1, hd2, hg2⟩
        have HO2 := Lib.hid (HO.out.kept hg2 (fun k hk e => by cases e; have := (HO.out.lt _ hk).1; omega))
        have HG2 := Lib.hid (grownBy_trans HG.out hg2)
        have HD2 := Lib.hid hd2
        clear HO HG HD hg2 hd2 C2
        by_cases hq : q = 1
        · subst hq
          have C3 := Lib.hid (next_c b l.length w2 HD2.out i0 (by omega))
          go_wp2_with fail
          refine C3.out.mono ?_
          rintro e w3 ⟨i, rfl, hi0, hi1, hd3, hg3⟩
          obtain ⟨i, rfl⟩ := Int.eq_ofNat_of_zero_le hi0
          have HO3 := Lib.hid (HO2.out.kept hg3 (fun k hk e => by cases e; have := (HO2.out.lt _ hk).1; omega))
          have HG3 := Lib.hid (grownBy_trans HG2.out hg3)
          have C4 := Lib.hid (next_c b 256 w3 hd3 (by omega) (by omega))
          clear HO2 HG2 HD2 hg3 hd3 C3
          go_wp2_with fail
          refine C4.out.mono ?_
          rintro e w4 ⟨r, rfl, hr0, hr1, hd4, hg4⟩
          obtain ⟨r, rfl⟩ := Int.eq_ofNat_of_zero_le hr0
          have HO4 := HO3.out.kept hg4 (fun k hk e => by cases e; have := (HO3.out.lt _ hk).1; omega)
          have HG4 := Lib.hid (grownBy_trans HG3.out hg4)
          have HD4 := Lib.hid hd4
          have hil : i < l.length := by omega
          obtain ⟨gv, cv, hv, hgb, hgv, -, hcx, hfz⟩ := HO4.at_ byF_len hil
          obtain ⟨rfl, -, rfl⟩ : oa = some ⟨gv, 0, none⟩ ∧ l.length = l.length ∧ oc = cv := by simpa only [Value.slice.injEq] using hv
          have c0 := hcx 0 _ rfl
          rw [Nat.mul_one, Nat.add_zero] at c0
          have hf := hfz i
          have hwr : IntKind.u8.wrap (r : Int) = (r : Int) := by rw [by_wrap]; omega
          have hst := HO4.stored byF_len hil (j := 0) (by omega) (.int .u8 r) (UInt8.ofNat r) (by
            have : ((UInt8.ofNat r).toNat : Int) = (r : Int) := by rw [UInt8.toNat_ofNat']; omega
            rw [show byF (UInt8.ofNat r) = [Value.int .u8 ((UInt8.ofNat r).toNat : Int)] from rfl, this]; rfl)
          rw [Nat.mul_one, Nat.add_zero] at hst
          have HST := Lib.hid hst
          have HGB := Lib.hid hgb
          clear hv hcx hfz hst hgb HO3 HO4 C4 hg4 hd4 HG3
          go_wp2_with fail
          go_ret
          refine ⟨.slice (some ⟨gv, 0, none⟩) l.length oc, l.set i (UInt8.ofNat r), rfl, HST.out.1, by rw [List.length_set]; omega, HD4.out.kept HST.out.2 (fun k e => by cases e; have := HGB.out; omega), grownBy_new HG4.out HST.out.2 HGB.out⟩
        · have f1 : ((q : Int) == 1) = false := by simpa using hq
          clear hq
          go_wp2_with fail
          go_ret
          exact ⟨_, l, rfl, HO2.out, by omega, HD2.out, HG2.out⟩
end Go.Proofs.Ytniokdflljchgaa
