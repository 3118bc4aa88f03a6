/- The walk of the law LedgerOnce. -/
import Derived.Test.YtniokdflljchgaaLaw26S
import Derived.Test.YtniokdflljchgaaArgW
namespace Go.Proofs.Ytniokdflljchgaa
open Go.RowKit Go.Maps Go.Sort

def h16F (n : Int) : List Value := [.int .u16 n]
theorem h16_one (x : Int) : h16F x = [Value.int .u16 x] := rfl
theorem cells_h16 (l : List Int) : cellsOf h16F l = l.map (fun x => Value.int .u16 x) := by
  induction l with
  | nil => rfl
  | cons a l ih => simp only [cellsOf, List.flatMap_cons, List.map_cons] at *; rw [ih]; rfl
theorem IsRow.rd16 {w : World} {a : Option Addr} {len cap : Nat} {zs : List Int} (h : IsRow .u16 w a len cap zs) : RdL h16F 1 w (.slice a len cap) (zs.take len) := by
  have e := h.len_take
  have h2 := h.rd
  unfold RdL
  rw [e, cells_h16]
  exact h2
def sum4 (L : List (Int × Int)) : Int := ldAt L 0 + ldAt L 1 + ldAt L 2 + ldAt L 3
def part4 (L : List (Int × Int)) : Nat → Int
  | 0 => 0
  | j + 1 => part4 L j + ldAt L j
theorem part4_succ (L : List (Int × Int)) {j : Nat} (_ : j < 4) : part4 L (j + 1) = part4 L j + ldAt L j := rfl
theorem part4_le {L : List (Int × Int)} (h : ∀ p ∈ L, W64 p.2) {j : Nat} (hj : j < 4) : 0 ≤ part4 L j ∧ part4 L j + ldAt L j ≤ sum4 L ∧ 0 ≤ ldAt L j := by
  have h0 := (ldAt_w h 0).1
  have h1 := (ldAt_w h 1).1
  have h2 := (ldAt_w h 2).1
  have h3 := (ldAt_w h 3).1
  match j, hj with
  | 0, _ => simp [part4, sum4]; omega
  | 1, _ => simp [part4, sum4]; omega
  | 2, _ => simp [part4, sum4]; omega
  | 3, _ => simp [part4, sum4]; omega
theorem sum4_put {L : List (Int × Int)} (hA : Asc L) {v n : Int} (h0 : 0 ≤ v) (h1 : v < 4) : sum4 (ldPut L v n) = sum4 L + n := by
  have e := fun u => ldAt_put (w := v) (n := n) (v := u) hA
  unfold sum4
  rw [e 0, e 1, e 2, e 3]
  have : v = 0 ∨ v = 1 ∨ v = 2 ∨ v = 3 := by omega
  rcases this with rfl | rfl | rfl | rfl <;> simp <;> omega
theorem ldAt_le4 {L : List (Int × Int)} (h : ∀ p ∈ L, W64 p.2) {v : Int} (h0 : 0 ≤ v) (h1 : v < 4) : ldAt L v ≤ sum4 L := by
  have h0 := (ldAt_w h 0).1
  have h1 := (ldAt_w h 1).1
  have h2 := (ldAt_w h 2).1
  have h3 := (ldAt_w h 3).1
  have : v = 0 ∨ v = 1 ∨ v = 2 ∨ v = 3 := by omega
  unfold sum4
  rcases this with rfl | rfl | rfl | rfl <;> omega
theorem sum_pos : ∀ {l : List Int}, (∀ x ∈ l, 0 ≤ x) → 0 ≤ l.sum
  | [], _ => by simp
  | x :: l, h => by
    have := h x (by simp)
    have := sum_pos (l := l) fun y hy => h y (List.mem_cons_of_mem x hy)
    simp; omega
theorem sum_take_le {l : List Int} (h : ∀ x ∈ l, 0 ≤ x) (k : Nat) : (l.take k).sum ≤ l.sum := by
  have e : l.sum = (l.take k).sum + (l.drop k).sum := by rw [← List.sum_append, List.take_append_drop]
  have := sum_pos (l := l.drop k) fun x hx => h x (List.mem_of_mem_drop hx)
  omega
theorem sum_set : ∀ {l : List Int} {i : Nat} (hi : i < l.length) (x : Int), (l.set i x).sum = l.sum - l[i] + x
  | [], i, hi, _ => by simp at hi
  | a :: l, 0, _, x => by simp; omega
  | a :: l, i + 1, hi, x => by
    have := sum_set (l := l) (i := i) (by simpa using hi) x
    simp [this]; omega

set_option maxHeartbeats 4000000 in
set_option maxRecDepth 100000 in
theorem once_w (ev : Value) (es : List Int) (w : World) (hev : RdL h16F 1 w ev es) (hes : ∀ x ∈ es, 0 ≤ x ∧ x ≤ 65535) : Calls Try.prog 7 #[ev] w (RetBool true w) := by
  obtain ⟨ea, ec, rfl⟩ := hev.shape
  have hm := hev.2.1
  have HEV := Lib.hid hev
  have HES := Lib.hid hes
  clear hev hes
  go_enter Try.func7, Try.ntmps7
  go_upto_region 2 with (go_at_call 19; refine (ledNew_c _).mono ?_; rintro e w1 ⟨b, bm, rfl, h1, hb, hbm, hb1, hbm1, g1⟩)
  have H1 := Lib.hid h1
  have HG1 := Lib.hid g1
  clear h1 g1 hb1 hbm1
  go_wp2_with fail
  go_loopw [4, 5, 6] (fun s4 s5 s6 wk => ∃ (k : Nat) (L : List (Int × Int)) (acc : Int) (R : List Int), k ≤ es.length ∧ k ≤ 100 ∧ s6 = .int .i64 k ∧ s5 = .int .i64 k ∧ s4 = .int .u64 (sum4 L) ∧ 0 ≤ acc ∧ acc + R.sum = k ∧ (∀ r ∈ R, 0 ≤ r ∧ r ≤ k) ∧ sum4 L ≤ 8192 * k ∧ Led wk b bm k L acc R ∧ w.grownBy wk none) (fun _ _ s6 _ => es.length - (Go.RowKit.intOf s6).toNat)
  case atStart => exact ⟨0, [], 0, _, Nat.zero_le _, by omega, rfl, rfl, rfl, by omega, by simp, fun r hr => by simp at hr; subst hr; omega, by simp [sum4, ldAt], H1.out, HG1.out⟩
  case round =>
    obtain ⟨k, L, acc, R, hk, hk2, rfl, rfl, rfl, ha0, haR, hRb, hS4, hL, hg⟩ := hrel
    have HL := Lib.hid hL
    have HG := Lib.hid hg
    have HRb := Lib.hid hRb
    have HAR := Lib.hid haR
    have HSm := Lib.hid (show sum4 L ≤ 1000000 by omega)
    clear H1 HG1 hL hg hRb
    by_cases hlt : k < es.length ∧ k < 100
    · obtain ⟨hlt, hlt100⟩ := hlt
      obtain ⟨g, off, cap, hv, hgl, ck⟩ := (RdL.same HEV.out HG.out).one h16_one hlt
      cases hv
      have hx := HES.out _ (List.getElem_mem hlt)
      generalize es[k] = x at *
      have hlt2 : (k : Int) < (es.length : Int) := by omega
      have hk0 : (0 : Int) ≤ (k : Int) := by omega
      have hlt3 : (k : Int) < 100 := by omega
      have hA1 : bits .and .i64 x 1 = x % 2 := and_low x 1 (by omega)
      have hA3 : bits .and .i64 (x / 2) 3 = x / 2 % 4 := and_low _ 2 (by omega)
      have hwx : IntKind.i64.wrap x = x := IntWalk.i64_in _ (by omega)
      by_cases hp : x % 2 = 0
      · have ht6 : (x / 2).tmod 6 = x / 2 % 6 := Int.tmod_eq_emod_of_nonneg (by omega)
        obtain ⟨r, hr⟩ : ∃ r : Nat, 1 + x / 2 % 6 = r := ⟨(1 + x / 2 % 6).toNat, by omega⟩
        have hr1 : 1 ≤ r ∧ r ≤ 6 := by omega
        have hwr : IntKind.i64.wrap (1 + x / 2 % 6) = r := by rw [hr]; exact IntWalk.i64_in _ (by omega)
        have hrl : r < R.length := by rw [HL.out.rl]; omega
        have hrb := HRb.out _ (List.getElem_mem hrl)
        have hRR : rejR R r = R.set r (R[r] + 1) := by
          unfold rejR
          rw [if_neg (by omega), List.getD_eq_getElem?_getD, Int.toNat_natCast, List.getElem?_eq_getElem hrl]
          simp only [Option.getD_some]
          rw [show satA R[r] 1 = R[r] + 1 from if_pos (by omega)]
        have hE : rejE (r : Int) = 0 := if_neg (by omega)
        have CC := Lib.hid (ledReject_c b bm k L acc R r wr HL.out)
        rw [hRR, hE] at CC
        have HS2 := Lib.hid (sum_set hrl (R[r] + 1))
        have HR2 := Lib.hid (show ∀ y ∈ R.set r (R[r] + 1), 0 ≤ y ∧ y ≤ (k + 1 : Nat) from fun y hy => by
          rcases List.mem_or_eq_of_mem_set hy with h | h
          · have := HRb.out y h; omega
          · omega)
        clear hRR hE hrb hr HSm
        generalize R.set r (R[r] + 1) = R' at *
        go_wp2_with (go_at_call 25; refine CC.out.mono ?_; rintro e w4 ⟨rfl, h4, k4⟩)
        exact ⟨⟨k + 1, L, acc, R', by omega, by omega, by go_num, by go_num, rfl, ha0, by have := HS2.out; omega, HR2.out, by omega, h4.up, two_base HG.out k4 hb hbm⟩, by simp [Go.RowKit.intOf]; omega⟩
      · have hv0 : 0 ≤ x / 2 % 4 ∧ x / 2 % 4 < 4 := by omega
        have hy0 : 0 ≤ x / 8 ∧ x / 8 ≤ 8191 := by omega
        have hp1 : x % 2 = 1 := by omega
        have hwy : IntKind.u64.wrap (x / 8) = x / 8 := IntWalk.u64_in _ (by omega)
        obtain ⟨v, hv⟩ : ∃ v, v = x / 2 % 4 := ⟨_, rfl⟩
        obtain ⟨y, hy⟩ : ∃ y, y = x / 8 := ⟨_, rfl⟩
        rw [← hv] at hv0
        rw [← hy] at hy0
        have hle := ldAt_le4 HL.out.vals hv0.1 hv0.2
        have hF : fitsB (ldAt L v) y = true := decide_eq_true (by omega)
        have hL2 : accL L v y = ldPut L v y := by unfold accL; rw [hF]; rfl
        have hN2 : accN L v y acc = acc + 1 := by unfold accN; rw [hF]; rfl
        have CC := Lib.hid (ledAccept_c b bm k L acc R v y wr HL.out (by unfold I64; omega) (by unfold W64; omega) (by omega) (by have := sum_pos (l := R) (fun x hx => (HRb.out x hx).1); omega))
        rw [hF, hL2, hN2, hv, hy] at CC
        have hsp := sum4_put (n := y) HL.out.asc hv0.1 hv0.2
        have h40 : 0 ≤ sum4 L := by have := (part4_le HL.out.vals (show 0 < 4 by omega)); simp [part4] at this; omega
        have hsw : IntKind.u64.wrap (sum4 L + x / 8) = sum4 L + x / 8 := IntWalk.u64_in _ (by omega)
        rw [hv, hy] at hsp
        have HS2 := Lib.hid hsp
        clear hF hL2 hN2 hsp hle HSm hv hv0
        rw [hy] at hy0
        clear hy
        generalize ldPut L (x / 2 % 4) (x / 8) = L' at *
        have HR2 := Lib.hid (show ∀ y ∈ R, 0 ≤ y ∧ y ≤ (k + 1 : Nat) from fun y hy => by have := HRb.out y hy; omega)
        go_wp2_with (go_at_call 23; refine CC.out.mono ?_; rintro e w4 ⟨rfl, h4, k4⟩)
        exact ⟨⟨k + 1, L', acc + 1, R, by omega, by omega, by go_num, by go_num, by rw [HS2.out], by omega, by omega, HR2.out, by have := HS2.out; omega, h4, two_base HG.out k4 hb hbm⟩, by simp [Go.RowKit.intOf]; omega⟩
    · have hn : ¬ ((k : Int) < (es.length : Int)) ∨ ¬ ((k : Int) < 100) := by omega
      rcases hn with hn | hn
      · go_upto_region 17 with fail
        have CRj := Lib.hid (ledRejects_c b bm k L acc R wr HL.out)
        go_upto_region 18 with (go_at_call 26; refine CRj.out.mono ?_; rintro e w5 ⟨v5, rfl, o5, g5⟩; obtain ⟨va5, vc5, rfl⟩ := o5.shape)
        have HL5 := Lib.hid (HL.out.same g5)
        have HG5 := Lib.hid (grownBy_trans HG.out g5)
        have HO5 := Lib.hid o5.rd
        have hR7 := HL.out.rl
        clear CRj HL HG o5 g5
        rw [hR7]
        rw [hR7] at HO5
        go_loopw [8, 58] (fun s8 s58 wk => ∃ j : Nat, j ≤ 7 ∧ s58 = .int .i64 j ∧ s8 = .int .u64 (R.take j).sum ∧ w5.grownBy wk none) (fun _ s58 _ => 7 - (Go.RowKit.intOf s58).toNat)
        case atStart => exact ⟨0, by omega, rfl, by simp, grownBy_refl _ _⟩
        case round =>
          obtain ⟨j, hj, rfl, rfl, hgj⟩ := hrel
          by_cases hj7 : j < 7
          · obtain ⟨gj, offj, capj, hvj, hglj, cj⟩ := (RdL.same HO5.out hgj).one word_one (k := j) (by rw [hR7]; exact hj7)
            rw [hR7] at hvj
            cases hvj
            have hjl : j < R.length := by rw [hR7]; exact hj7
            have hj1 : (j : Int) < 7 := by omega
            have hj0 : (0 : Int) ≤ (j : Int) := by omega
            have hs1 := sum_take_le (fun x hx => (HRb.out x hx).1) (j + 1)
            have hs0 := sum_pos (l := R.take (j + 1)) (fun x hx => (HRb.out x (List.mem_of_mem_take hx)).1)
            have hts : (R.take (j + 1)).sum = (R.take j).sum + R[j] := by rw [List.take_succ_eq_append_getElem hjl, List.sum_append]; simp
            have HTS := Lib.hid hts
            rw [hts] at hs1 hs0
            have hsw : IntKind.u64.wrap ((R.take j).sum + R[j]) = (R.take j).sum + R[j] := IntWalk.u64_in _ (by omega)
            clear hts hs1 hs0
            generalize (R.take j).sum = S1 at *
            generalize R[j] = rj at *
            go_wp2_with fail
            exact ⟨⟨j + 1, by omega, by go_num, by rw [HTS.out], hgj⟩, by simp [Go.RowKit.intOf]; omega⟩
          · obtain rfl : j = 7 := by omega
            have htk : R.take 7 = R := List.take_of_length_le (by omega)
            rw [htk, show ((7 : Nat) : Int) = 7 from rfl]
            have HL6 := Lib.hid (HL5.out.same hgj)
            have HG6 := Lib.hid (grownBy_trans HG5.out hgj)
            clear HL5 HG5 HO5 htk hgj
            go_wp2_with fail
            go_loopw [4, 11] (fun s4 s11 wk => ∃ j : Nat, j ≤ 4 ∧ s11 = .int .i64 j ∧ s4 = .int .u64 (sum4 L - part4 L j) ∧ wr.grownBy wk none) (fun _ s11 _ => 4 - (Go.RowKit.intOf s11).toNat)
            case atStart => exact ⟨0, by omega, rfl, by simp [part4], grownBy_refl _ _⟩
            case round =>
              obtain ⟨j, hj, rfl, rfl, hgj⟩ := hrel
              by_cases hj4 : j < 4
              · have hj1 : (j : Int) < 4 := by omega
                have hj0 : (0 : Int) ≤ (j : Int) := by omega
                have CT := Lib.hid (ledTotal_c b bm k L acc R j _ (HL6.out.same hgj) (by unfold I64; omega))
                have hpp := part4_le HL6.out.vals hj4
                have hp4 := part4_succ L hj4
                have HPS := Lib.hid hp4
                have hsw : IntKind.u64.wrap (sum4 L - part4 L j - ldAt L j) = sum4 L - part4 L j - ldAt L j := IntWalk.u64_in _ (by have := HSm.out; omega)
                clear hpp hp4
                generalize part4 L j = P1 at *
                generalize ldAt L (j : Int) = T at *
                generalize sum4 L = S4 at *
                go_wp2_with (go_at_call 20; refine CT.out.mono ?_; rintro e w7 ⟨rfl, g7⟩)
                exact ⟨⟨j + 1, by omega, by go_num, by rw [HPS.out]; exact congrArg _ (by omega), grownBy_trans hgj g7⟩, by simp [Go.RowKit.intOf]; omega⟩
              · obtain rfl : j = 4 := by omega
                have hz : sum4 L - part4 L 4 = 0 := by simp [sum4, part4] <;> omega
                rw [hz]
                have CA := Lib.hid (ledAccepted_c b bm k L acc R _ (HL6.out.same hgj))
                have hAR := HAR.out
                have hR0 := sum_pos (l := R) (fun x hx => (HRb.out x hx).1)
                have hw1 : IntKind.u64.wrap acc = acc := IntWalk.u64_in _ (by omega)
                have hw2 : IntKind.u64.wrap (acc + R.sum) = acc + R.sum := IntWalk.u64_in _ (by omega)
                have hw3 : IntKind.u64.wrap (k : Int) = (k : Int) := IntWalk.u64_in _ (by omega)
                have HG7 := Lib.hid (grownBy_trans HG6.out hgj)
                clear hz HL6 hgj HG6
                generalize R.sum = RS at *
                have hEq : (acc + RS == (k : Int)) = true := by rw [hAR]; simp
                go_wp2_with (first
                  | (go_at_call 21; refine CA.out.mono ?_; rintro e w7 ⟨rfl, g7⟩)
                  | (go_at_call 24; refine (awake26_c _).mono ?_; rintro e w8 ⟨rfl, g8⟩))
                go_ret
                exact retBool rfl (grownBy_trans (grownBy_trans HG7.out g7) g8)
      · by_cases hn2 : (k : Int) < (es.length : Int)
        · go_upto_region 17 with fail
          have CRj := Lib.hid (ledRejects_c b bm k L acc R wr HL.out)
          go_upto_region 18 with (go_at_call 26; refine CRj.out.mono ?_; rintro e w5 ⟨v5, rfl, o5, g5⟩; obtain ⟨va5, vc5, rfl⟩ := o5.shape)
          have HL5 := Lib.hid (HL.out.same g5)
          have HG5 := Lib.hid (grownBy_trans HG.out g5)
          have HO5 := Lib.hid o5.rd
          have hR7 := HL.out.rl
          clear CRj HL HG o5 g5
          rw [hR7]
          rw [hR7] at HO5
          go_loopw [8, 58] (fun s8 s58 wk => ∃ j : Nat, j ≤ 7 ∧ s58 = .int .i64 j ∧ s8 = .int .u64 (R.take j).sum ∧ w5.grownBy wk none) (fun _ s58 _ => 7 - (Go.RowKit.intOf s58).toNat)
          case atStart => exact ⟨0, by omega, rfl, by simp, grownBy_refl _ _⟩
          case round =>
            obtain ⟨j, hj, rfl, rfl, hgj⟩ := hrel
            by_cases hj7 : j < 7
            · obtain ⟨gj, offj, capj, hvj, hglj, cj⟩ := (RdL.same HO5.out hgj).one word_one (k := j) (by rw [hR7]; exact hj7)
              rw [hR7] at hvj
              cases hvj
              have hjl : j < R.length := by rw [hR7]; exact hj7
              have hj1 : (j : Int) < 7 := by omega
              have hj0 : (0 : Int) ≤ (j : Int) := by omega
              have hs1 := sum_take_le (fun x hx => (HRb.out x hx).1) (j + 1)
              have hs0 := sum_pos (l := R.take (j + 1)) (fun x hx => (HRb.out x (List.mem_of_mem_take hx)).1)
              have hts : (R.take (j + 1)).sum = (R.take j).sum + R[j] := by rw [List.take_succ_eq_append_getElem hjl, List.sum_append]; simp
              have HTS := Lib.hid hts
              rw [hts] at hs1 hs0
              have hsw : IntKind.u64.wrap ((R.take j).sum + R[j]) = (R.take j).sum + R[j] := IntWalk.u64_in _ (by omega)
              clear hts hs1 hs0
              generalize (R.take j).sum = S1 at *
              generalize R[j] = rj at *
              go_wp2_with fail
              exact ⟨⟨j + 1, by omega, by go_num, by rw [HTS.out], hgj⟩, by simp [Go.RowKit.intOf]; omega⟩
            · obtain rfl : j = 7 := by omega
              have htk : R.take 7 = R := List.take_of_length_le (by omega)
              rw [htk, show ((7 : Nat) : Int) = 7 from rfl]
              have HL6 := Lib.hid (HL5.out.same hgj)
              have HG6 := Lib.hid (grownBy_trans HG5.out hgj)
              clear HL5 HG5 HO5 htk hgj
              go_wp2_with fail
              go_loopw [4, 11] (fun s4 s11 wk => ∃ j : Nat, j ≤ 4 ∧ s11 = .int .i64 j ∧ s4 = .int .u64 (sum4 L - part4 L j) ∧ wr.grownBy wk none) (fun _ s11 _ => 4 - (Go.RowKit.intOf s11).toNat)
              case atStart => exact ⟨0, by omega, rfl, by simp [part4], grownBy_refl _ _⟩
              case round =>
                obtain ⟨j, hj, rfl, rfl, hgj⟩ := hrel
                by_cases hj4 : j < 4
                · have hj1 : (j : Int) < 4 := by omega
                  have hj0 : (0 : Int) ≤ (j : Int) := by omega
                  have CT := Lib.hid (ledTotal_c b bm k L acc R j _ (HL6.out.same hgj) (by unfold I64; omega))
                  have hpp := part4_le HL6.out.vals hj4
                  have hp4 := part4_succ L hj4
                  have HPS := Lib.hid hp4
                  have hsw : IntKind.u64.wrap (sum4 L - part4 L j - ldAt L j) = sum4 L - part4 L j - ldAt L j := IntWalk.u64_in _ (by have := HSm.out; omega)
                  clear hpp hp4
                  generalize part4 L j = P1 at *
                  generalize ldAt L (j : Int) = T at *
                  generalize sum4 L = S4 at *
                  go_wp2_with (go_at_call 20; refine CT.out.mono ?_; rintro e w7 ⟨rfl, g7⟩)
                  exact ⟨⟨j + 1, by omega, by go_num, by rw [HPS.out]; exact congrArg _ (by omega), grownBy_trans hgj g7⟩, by simp [Go.RowKit.intOf]; omega⟩
                · obtain rfl : j = 4 := by omega
                  have hz : sum4 L - part4 L 4 = 0 := by simp [sum4, part4] <;> omega
                  rw [hz]
                  have CA := Lib.hid (ledAccepted_c b bm k L acc R _ (HL6.out.same hgj))
                  have hAR := HAR.out
                  have hR0 := sum_pos (l := R) (fun x hx => (HRb.out x hx).1)
                  have hw1 : IntKind.u64.wrap acc = acc := IntWalk.u64_in _ (by omega)
                  have hw2 : IntKind.u64.wrap (acc + R.sum) = acc + R.sum := IntWalk.u64_in _ (by omega)
                  have hw3 : IntKind.u64.wrap (k : Int) = (k : Int) := IntWalk.u64_in _ (by omega)
                  have HG7 := Lib.hid (grownBy_trans HG6.out hgj)
                  clear hz HL6 hgj HG6
                  generalize R.sum = RS at *
                  have hEq : (acc + RS == (k : Int)) = true := by rw [hAR]; simp
                  go_wp2_with (first
                    | (go_at_call 21; refine CA.out.mono ?_; rintro e w7 ⟨rfl, g7⟩)
                    | (go_at_call 24; refine (awake26_c _).mono ?_; rintro e w8 ⟨rfl, g8⟩))
                  go_ret
                  exact retBool rfl (grownBy_trans (grownBy_trans HG7.out g7) g8)
        · go_upto_region 17 with fail
          have CRj := Lib.hid (ledRejects_c b bm k L acc R wr HL.out)
          go_upto_region 18 with (go_at_call 26; refine CRj.out.mono ?_; rintro e w5 ⟨v5, rfl, o5, g5⟩; obtain ⟨va5, vc5, rfl⟩ := o5.shape)
          have HL5 := Lib.hid (HL.out.same g5)
          have HG5 := Lib.hid (grownBy_trans HG.out g5)
          have HO5 := Lib.hid o5.rd
          have hR7 := HL.out.rl
          clear CRj HL HG o5 g5
          rw [hR7]
          rw [hR7] at HO5
          go_loopw [8, 58] (fun s8 s58 wk => ∃ j : Nat, j ≤ 7 ∧ s58 = .int .i64 j ∧ s8 = .int .u64 (R.take j).sum ∧ w5.grownBy wk none) (fun _ s58 _ => 7 - (Go.RowKit.intOf s58).toNat)
          case atStart => exact ⟨0, by omega, rfl, by simp, grownBy_refl _ _⟩
          case round =>
            obtain ⟨j, hj, rfl, rfl, hgj⟩ := hrel
            by_cases hj7 : j < 7
            · obtain ⟨gj, offj, capj, hvj, hglj, cj⟩ := (RdL.same HO5.out hgj).one word_one (k := j) (by rw [hR7]; exact hj7)
              rw [hR7] at hvj
              cases hvj
              have hjl : j < R.length := by rw [hR7]; exact hj7
              have hj1 : (j : Int) < 7 := by omega
              have hj0 : (0 : Int) ≤ (j : Int) := by omega
              have hs1 := sum_take_le (fun x hx => (HRb.out x hx).1) (j + 1)
              have hs0 := sum_pos (l := R.take (j + 1)) (fun x hx => (HRb.out x (List.mem_of_mem_take hx)).1)
              have hts : (R.take (j + 1)).sum = (R.take j).sum + R[j] := by rw [List.take_succ_eq_append_getElem hjl, List.sum_append]; simp
              have HTS := Lib.hid hts
              rw [hts] at hs1 hs0
              have hsw : IntKind.u64.wrap ((R.take j).sum + R[j]) = (R.take j).sum + R[j] := IntWalk.u64_in _ (by omega)
              clear hts hs1 hs0
              generalize (R.take j).sum = S1 at *
              generalize R[j] = rj at *
              go_wp2_with fail
              exact ⟨⟨j + 1, by omega, by go_num, by rw [HTS.out], hgj⟩, by simp [Go.RowKit.intOf]; omega⟩
            · obtain rfl : j = 7 := by omega
              have htk : R.take 7 = R := List.take_of_length_le (by omega)
              rw [htk, show ((7 : Nat) : Int) = 7 from rfl]
              have HL6 := Lib.hid (HL5.out.same hgj)
              have HG6 := Lib.hid (grownBy_trans HG5.out hgj)
              clear HL5 HG5 HO5 htk hgj
              go_wp2_with fail
              go_loopw [4, 11] (fun s4 s11 wk => ∃ j : Nat, j ≤ 4 ∧ s11 = .int .i64 j ∧ s4 = .int .u64 (sum4 L - part4 L j) ∧ wr.grownBy wk none) (fun _ s11 _ => 4 - (Go.RowKit.intOf s11).toNat)
              case atStart => exact ⟨0, by omega, rfl, by simp [part4], grownBy_refl _ _⟩
              case round =>
                obtain ⟨j, hj, rfl, rfl, hgj⟩ := hrel
                by_cases hj4 : j < 4
                · have hj1 : (j : Int) < 4 := by omega
                  have hj0 : (0 : Int) ≤ (j : Int) := by omega
                  have CT := Lib.hid (ledTotal_c b bm k L acc R j _ (HL6.out.same hgj) (by unfold I64; omega))
                  have hpp := part4_le HL6.out.vals hj4
                  have hp4 := part4_succ L hj4
                  have HPS := Lib.hid hp4
                  have hsw : IntKind.u64.wrap (sum4 L - part4 L j - ldAt L j) = sum4 L - part4 L j - ldAt L j := IntWalk.u64_in _ (by have := HSm.out; omega)
                  clear hpp hp4
                  generalize part4 L j = P1 at *
                  generalize ldAt L (j : Int) = T at *
                  generalize sum4 L = S4 at *
                  go_wp2_with (go_at_call 20; refine CT.out.mono ?_; rintro e w7 ⟨rfl, g7⟩)
                  exact ⟨⟨j + 1, by omega, by go_num, by rw [HPS.out]; exact congrArg _ (by omega), grownBy_trans hgj g7⟩, by simp [Go.RowKit.intOf]; omega⟩
                · obtain rfl : j = 4 := by omega
                  have hz : sum4 L - part4 L 4 = 0 := by simp [sum4, part4] <;> omega
                  rw [hz]
                  have CA := Lib.hid (ledAccepted_c b bm k L acc R _ (HL6.out.same hgj))
                  have hAR := HAR.out
                  have hR0 := sum_pos (l := R) (fun x hx => (HRb.out x hx).1)
                  have hw1 : IntKind.u64.wrap acc = acc := IntWalk.u64_in _ (by omega)
                  have hw2 : IntKind.u64.wrap (acc + R.sum) = acc + R.sum := IntWalk.u64_in _ (by omega)
                  have hw3 : IntKind.u64.wrap (k : Int) = (k : Int) := IntWalk.u64_in _ (by omega)
                  have HG7 := Lib.hid (grownBy_trans HG6.out hgj)
                  clear hz HL6 hgj HG6
                  generalize R.sum = RS at *
                  have hEq : (acc + RS == (k : Int)) = true := by rw [hAR]; simp
                  go_wp2_with (first
                    | (go_at_call 21; refine CA.out.mono ?_; rintro e w7 ⟨rfl, g7⟩)
                    | (go_at_call 24; refine (awake26_c _).mono ?_; rintro e w8 ⟨rfl, g8⟩))
                  go_ret
                  exact retBool rfl (grownBy_trans (grownBy_trans HG7.out g7) g8)
end Go.Proofs.Ytniokdflljchgaa
