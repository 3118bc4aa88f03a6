/- Several texts in one file; each begins with a comment that says what is proved in it. -/
import Derived.Test.YtkdbapbmbhmaiaaBunAI
import Derived.Maps.RangeWalk
import Derived.Test.YtkdbapbmbhmaiaaBunAC
import Derived.Test.YtkdbapbmbhmaiaaBunAG
import Derived.Test.YtkdbapbmbhmaiaaBunAD
import Derived.Test.YtkdbapbmbhmaiaaBunAE
import Derived.Test.YtkdbapbmbhmaiaaBunAA
import Derived.Laws.StructEq
import Derived.Test.YtkdbapbmbhmaiaaBunAF
import Derived.ProofKit
import Derived.ShutString
import Derived.ChangeOld
import Derived.Deep.Slices
import Derived.Deep.Fields
import Derived.Deep.Strs
import Derived.ChangeMaps5

/- The verdict on a report and events: the program. -/
namespace Go.Proofs.Ytkdbapbmbhmaiaa
open Go.RowKit Go.Sort Go.Maps Go.WideMaps

set_option maxHeartbeats 400000 in
theorem bcont_c (lo hi n : Int) (w : World) : Calls Try.prog 30 #[bndV lo hi, .int .u64 n] w (RetBool (decide (lo ≤ n) && decide (n ≤ hi)) w) := by
  have HB := Lib.hid (show (decide (lo ≤ n) && decide (n ≤ hi)) = (decide (lo ≤ n) && decide (n ≤ hi)) from rfl)
  generalize hb : (decide (lo ≤ n) && decide (n ≤ hi)) = bb at *
  have HB := Lib.hid hb
  clear hb
  by_cases h1 : lo ≤ n
  · by_cases h2 : n ≤ hi
    · have d1 : decide (lo ≤ n) = true := decide_eq_true h1
      have d2 : decide (n ≤ hi) = true := decide_eq_true h2
      have HF := Lib.hid (show true = bb by rw [← HB.out, d1, d2]; rfl)
      go_enter Try.func30, Try.ntmps30
      go_wp2_with fail
      go_ret
      exact retBool HF.out.symm (by (repeat (first | exact grownBy_refl _ _ | assumption | refine grownBy_new_block ?_ _ | refine grownBy_drew ?_ | refine grownBy_drewN ?_ _ | refine grownBy_setNew ?_ (by first | (simp; done) | omega | (simp; omega)) _)))
    · have d1 : decide (lo ≤ n) = true := decide_eq_true h1
      have d2 : decide (n ≤ hi) = false := decide_eq_false h2
      have HF := Lib.hid (show false = bb by rw [← HB.out, d1, d2]; rfl)
      go_enter Try.func30, Try.ntmps30
      go_wp2_with fail
      go_ret
      exact retBool HF.out.symm (by (repeat (first | exact grownBy_refl _ _ | assumption | refine grownBy_new_block ?_ _ | refine grownBy_drew ?_ | refine grownBy_drewN ?_ _ | refine grownBy_setNew ?_ (by first | (simp; done) | omega | (simp; omega)) _)))
  · have d1 : decide (lo ≤ n) = false := decide_eq_false h1
    have HF := Lib.hid (show false = bb by rw [← HB.out, d1]; rfl)
    go_enter Try.func30, Try.ntmps30
    go_wp2_with fail
    go_ret
    exact retBool HF.out.symm (by (repeat (first | exact grownBy_refl _ _ | assumption | refine grownBy_new_block ?_ _ | refine grownBy_drew ?_ | refine grownBy_drewN ?_ _ | refine grownBy_setNew ?_ (by first | (simp; done) | omega | (simp; omega)) _)))
attribute [local go_sem ↓] exec_load_cfg
attribute [local go_sem] run_loadCfgS

set_option maxHeartbeats 2000000 in
set_option maxRecDepth 100000 in
theorem against_c (c : Cfg) (r : Rep) (v : Value) (l : List ItR) (w : World) (hR : RepRd w r) (hW : RepW r) (h : RdL itF 3 w v l) (hI : ∀ x ∈ l, ItW x) (hl : l.length ≤ 1000000) :
    Calls Try.prog 13 #[c.val, repV r.win r.tot r.vl r.over r.trk r.rest r.vr, v] w (RetInt (agE c r l) w) := by
  have HA := Lib.hid (show agE c r l = if auditE c r ≠ 0 then auditE c r
  else if (agT (cntL c r.win l)).2 = false ∨ (agT (cntL c r.win l)).1 ≠ r.tot then 13
  else if r.lines.any (lineOff (cntL c r.win l)) = true then 13
  else if (delAll (cntL c r.win l) (keysN r.lines)).any (fun p => decide (r.rest < p.2)) = true then 13 else 0 from rfl)
  have HR := Lib.hid hR
  have HW := Lib.hid hW
  obtain ⟨a, cp, rfl⟩ := h.shape
  have H := Lib.hid h
  obtain ⟨la, lc, e1⟩ := hR.lines.shape
  obtain ⟨ra, rc, e2⟩ := hR.rej.shape
  have hlm := hR.lines.2.1
  have CR := Lib.hid fun w' (h : w.grownBy w' none) => acheck_c c r w' (hR.same h) hW
  have CC := Lib.hid fun w' (g : w.grownBy w' none) => acount_c c r.win (.slice a l.length cp) l w' (h.same g) hI hl
  have hLl := Lib.hid (cntL_len c r.win l)
  have HAs := Lib.hid (cntL_asc c r.win l)
  have HLw := Lib.hid (cntL_w c r.win l hI)
  have HLk := Lib.hid (cntL_key c r.win l (N := 9223372036854775807) fun x hx => (hI x hx).key)
  rw [e1, e2] at CR ⊢
  have E1 := Lib.hid e1
  clear hR e1 e2 h hI
  generalize agE c r l = AE at *
  have hmm := @run_makeMap Try.prog
  go_enter Try.func13, Try.ntmps13
  go_upto_region 1 with (refine box_cfg rfl _ rfl c rfl ?_; intro w1 B1 G1 z1)
  have D2 := Blk.new w1 (repA r.win r.tot (.slice la r.lines.length lc) r.over r.trk r.rest (.slice ra r.rej.length rc)) 48
  have B2 := B1.same (World.grownBy_alloc w1 (.cells #[.int .i64 r.win, .int .u64 r.tot, .slice la r.lines.length lc, .int .u64 r.over, .int .i64 r.trk, .int .u64 r.rest, .slice ra r.rej.length rc] 48) none)
  have G2 := grownBy_new_block G1 (.cells #[.int .i64 r.win, .int .u64 r.tot, .slice la r.lines.length lc, .int .u64 r.over, .int .i64 r.trk, .int .u64 r.rest, .slice ra r.rej.length rc] 48)
  generalize w1.alloc (.cells #[.int .i64 r.win, .int .u64 r.tot, .slice la r.lines.length lc, .int .u64 r.over, .int .i64 r.trk, .int .u64 r.rest, .slice ra r.rej.length rc] 48) = w2 at *
  generalize w1.heap.size = rb at *
  clear B1 G1
  have C2 := Lib.hid (CR.out w2 G2)
  by_cases hE : auditE c r = 0
  case neg =>
    have HF := Lib.hid (HA.out.trans (if_pos hE))
    generalize auditE c r = E at *
    have he2 : (E != 0) = true := by simpa using hE
    have he3 : (E == 0) = false := by simpa using hE
    clear hE HA
    go_wp2_with (first
      | (refine load_cfg rfl _ rfl _ rfl c (by assumption) ?_)
      | (refine load_rep rfl _ rfl _ rfl D2 ?_)
      | (go_at_call 12; refine C2.out.mono ?_; rintro e w3 ⟨rfl, g3⟩))
    go_ret
    exact retInt HF.out (grownBy_trans G2 g3)
  case pos =>
    have HF := Lib.hid (HA.out.trans (if_neg (by omega)))
    have OK := Lib.hid (p := RepOk r) (by
      refine rep_ok (Decidable.byContradiction fun h => ?_)
      unfold auditE at hE
      rw [if_pos h] at hE
      exact h hE)
    rw [hE] at C2
    clear HA hE
    generalize cntL c r.win l = L at *
    go_upto_region 4 with (first
      | (refine load_cfg rfl _ rfl _ rfl c (by assumption) ?_)
      | (refine load_rep rfl _ rfl _ rfl D2 ?_)
      | (go_at_call 12; refine C2.out.mono ?_; rintro e w3 ⟨rfl, g3⟩))
    have D3 := D2.same g3
    have B3 := B2.same g3
    have G3 := grownBy_trans G2 g3
    clear D2 B2 G2 g3 C2
    go_upto_region 5 with fail
    have M4 := World.ownsMap_made w3 Try.prog 9 (plainElem (H := Unit) Try.prog 25)
    have D4 := D3.same (World.grownBy_alloc w3 (.map #[] 0) none)
    have B4 := B3.same (World.grownBy_alloc w3 (.map #[] 0) none)
    have G4 := grownBy_new_block G3 (.map #[] 0)
    have hmw : w.heap.size ≤ w3.heap.size := G3.size
    have hrm := D3.lt
    have hbm := B3.lt
    generalize w3.alloc (.map #[] 0) = w4 at *
    generalize w3.heap.size = mb at *
    clear D3 B3 G3 hmm
    have d4 := D4.cell
    have C4 := Lib.hid (CC.out w4 G4)
    go_upto_region 7 with (first
      | (refine load_cfg rfl _ rfl _ rfl c (by assumption) ?_)
      | (go_at_call 9; refine C4.out.mono ?_; rintro e w5 ⟨v5, rfl, o5, g5⟩; obtain ⟨a5, c5, rfl⟩ := o5.shape))
    have M5 := M4.kept g5 (by simp)
    have HD5 := Lib.hid (D4.same g5)
    have HG5 := Lib.hid (grownBy_trans G4 g5)
    have hmb4 := M4.lt
    have HO := Lib.hid o5
    clear M4 D4 B4 G4 d4 C4 o5 g5
    go_loopw [31, 9, 10] (fun s31 s9 s10 wk => ∃ k : Nat, k ≤ L.length ∧ s31 = .int .i64 k ∧ s9 = .int .u64 (agT (L.take k)).1 ∧ s10 = .bool (agT (L.take k)).2 ∧ (∃ D n, wk.ownsMap Try.prog 9 (plainElem (H := Unit) Try.prog 25) mb n D ∧ n ≤ k ∧ CntD D (L.take k)) ∧ w5.grownBy wk (some mb)) (fun s31 _ _ _ => L.length - (intOf s31).toNat)
    case atStart => exact ⟨0, Nat.zero_le _, rfl, rfl, rfl, ⟨_, 0, M5, Nat.le_refl _, CntD.nil⟩, grownBy_refl _ _⟩
    case round =>
      clear M5
      obtain ⟨k, hk, rfl, rfl, rfl, ⟨D, n, hM, hn, hD⟩, hg⟩ := hrel
      have hLb := Nat.le_trans hLl.out hl
      by_cases hkl : k < L.length
      · have O6 := HO.out.kept hg (fun q hq e => by cases e; have := (HO.out.lt _ hq).1; omega)
        obtain ⟨gx, ox, cx, hv, hgx, hcx⟩ := O6.rd.at_ lnF_len (show k < (L.map kwLn).length by rw [List.length_map]; exact hkl)
        obtain ⟨rfl, -, rfl⟩ : a5 = some ⟨gx, ox, none⟩ ∧ (L.map kwLn).length = (L.map kwLn).length ∧ c5 = cx := by simpa only [Value.slice.injEq] using hv
        have hTk : L.take (k + 1) = L.take k ++ [L[k]] := List.take_succ_eq_append_getElem hkl
        have HT := Lib.hid (show agT (L.take (k + 1)) = (satA (agT (L.take k)).1 L[k].2, (agT (L.take k)).2 && fitA (agT (L.take k)).1 L[k].2) by rw [hTk, agT_snoc])
        have hTw : W64 (agT (L.take k)).1 := agT_w (fun p hp => HLw.out p (List.mem_of_mem_take hp))
        have hnw := HLw.out _ (List.getElem_mem hkl)
        have hkw := HLk.out _ (List.getElem_mem hkl)
        have hnew : ctHas (L.take k) L[k].1 = false := asc_new (by rw [← hTk]; exact List.Pairwise.sublist (List.take_sublist _ _) HAs.out)
        have HP := Lib.hid (p := ∀ D', D' = D.put (.string L[k].1) (.lit (.int .u64 L[k].2)) → CntD D' (L.take (k + 1))) (fun D' e => by rw [e, hTk]; exact hD.snoc hM.isMap hnew trivial)
        have c0 : wr.cell? ⟨gx, ox + k * 3, none⟩ = some (.string ⟨L[k].1.toArray⟩) := by have := hcx 0 _ rfl; rw [List.getElem_map, Nat.add_zero] at this; exact this
        have c1 : wr.cell? ⟨gx, ox + k * 3 + 1, none⟩ = some (.int .u64 L[k].2) := by have := hcx 1 _ rfl; rw [List.getElem_map] at this; exact this
        have c2 : wr.cell? ⟨gx, ox + k * 3 + 2, none⟩ = some (.int .u64 L[k].2) := by have := hcx 2 _ rfl; rw [List.getElem_map] at this; exact this
        have Hk1 := Lib.hid (show k + 1 ≤ L.length from hkl)
        clear hcx hv O6 hnew hD hTk
        generalize agT (L.take k) = TE at *
        obtain ⟨T, e⟩ := TE
        generalize L[k] = p at *
        obtain ⟨kb, kn⟩ := p
        dsimp only at *
        have hkey := keyOf_string_mk (P := Try.prog) Try.underlying9 (s := ⟨kb.toArray⟩) (show kb.toArray.size ≤ _ by unfold maxLen; simpa using hkw)
        have CA := Lib.hid fun w' => satAdd_c T kn w' hTw hnw
        have hwf : (Lit.int .u64 kn).wf = true := WalkArith.wf_u64 (by unfold W64 at hnw; omega)
        have hnm : n < maxLen := by unfold maxLen; omega
        have M6 := hM.alloc (.cells #[.string ⟨kb.toArray⟩, .int .u64 kn, .int .u64 kn] 46)
        have A6 := Blk.new wr #[.string ⟨kb.toArray⟩, .int .u64 kn, .int .u64 kn] 46
        have G6 := grownBy_new_block hg (.cells #[.string ⟨kb.toArray⟩, .int .u64 kn, .int .u64 kn] 46)
        clear hTw hnw hkw hM hg
        go_upto_region 9 with fail
        generalize wr.alloc (.cells #[.string ⟨kb.toArray⟩, .int .u64 kn, .int .u64 kn] 46) = w6 at *
        generalize wr.heap.size = gk at *
        have a6 := A6.cell
        generalize satA T kn = T2 at *
        generalize fitA T kn = f2 at *
        clear c0 c1 c2
        have hk1 := Hk1.out
        cases e
        all_goals
          go_wp2_with (first
            | (go_at_call 21; refine (CA.out _).mono ?_; rintro e w' ⟨rfl, hw'⟩; subst w')
            | (at_mapUpdate; refine wpList_mapUpdate_own _ rfl _ _ _ 63 rfl 9 25 keyS Try.underlying63 _ mb n D rfl M6 hnm _ _ _ rfl rfl hkey _ [] (plainElem_int Try.underlying25 hwf) ?_; intro w7 M7 g7))
          exact ⟨⟨k + 1, hk1, by go_num, by rw [HT.out], by rw [HT.out]; rfl, ⟨_, n + 1, M7, by omega, HP.out _ rfl⟩, grownBy_trans G6 g7⟩, by simp [intOf]; omega⟩
      · have hke : L.take k = L := List.take_of_length_le (by omega)
        rw [hke] at hD ⊢
        have hgw := grownBy_new HG5.out hg hmw
        have D6 := HD5.out.kept hg (by simp; omega)
        have d6 := D6.cell
        have HTw := Lib.hid (agT_w HLw.out)
        generalize agT L = TE at *
        obtain ⟨T, e⟩ := TE
        dsimp only at *
        cases e with
        | false =>
          have HF2 := Lib.hid (HF.out.trans (if_pos (.inl rfl)))
          go_wp2_with fail
          go_ret
          exact retInt HF2.out hgw
        | true =>
          by_cases hT : T = r.tot
          case neg =>
            have HF2 := Lib.hid (HF.out.trans (if_pos (.inr hT)))
            have t1 : (T != r.tot) = true := by simpa using hT
            have t2 : (T == r.tot) = false := by simpa using hT
            go_wp2_with fail
            go_ret
            exact retInt HF2.out hgw
          case pos =>
            have HF2 := Lib.hid (HF.out.trans (if_neg (by simp [hT])))
            have t1 : (T != r.tot) = false := by simpa using hT
            have t2 : (T == r.tot) = true := by simpa using hT
            clear HF
            go_upto_region 16 with fail
            clear t1 t2 hT HTw hke hkl d6 D6
            have HM := Lib.hid hM
            have HD := Lib.hid hD
            have HG := Lib.hid hg
            clear hM hD hg hgw
            go_loopw [63] (fun s63 wk => ∃ k : Nat, k ≤ r.lines.length ∧ s63 = .int .i64 k ∧ (∀ i (hi : i < r.lines.length), i < k → lineOff L r.lines[i] = false) ∧ (∃ D, wk.ownsMap Try.prog 9 (plainElem (H := Unit) Try.prog 25) mb n D ∧ CntD D (delAll L (keysN (r.lines.take k)))) ∧ w5.grownBy wk (some mb)) (fun s63 _ => r.lines.length - (intOf s63).toNat)
            case atStart => exact ⟨0, Nat.zero_le _, rfl, by intro i hi h; omega, ⟨D, HM.out, HD.out⟩, HG.out⟩
            case round =>
              clear HM HD HG
              obtain ⟨k, hk, rfl, hall, ⟨D, hM, hD⟩, hg⟩ := hrel
              have Hall := Lib.hid hall
              clear hall
              have HGw := Lib.hid (grownBy_new HG5.out hg hmw)
              by_cases hlt : k < r.lines.length
              · obtain ⟨g, off, cap, hv, hgl, hc⟩ := (HR.out.lines.same HGw.out).at_ lnF_len hlt
                rw [E1.out] at hv
                cases hv
                have c0 := hc 0 _ rfl
                have c1 := hc 1 _ rfl
                have c2 := hc 2 _ rfl
                rw [Nat.add_zero] at c0
                obtain ⟨-, hks, -, -⟩ := OK.out.ln hlt
                have hnot : r.lines[k].key.data.toList ∉ keysN (r.lines.take k) := by
                  have h1 := OK.out.keys
                  have h2 : (keysN (r.lines.take (k + 1))).Nodup := by
                    unfold keysN at h1 ⊢
                    rw [List.map_take]
                    exact List.Nodup.sublist (List.take_sublist _ _) h1
                  rw [keysN_snoc hlt, List.nodup_append] at h2
                  exact fun hm => h2.2.2 _ hm _ (by simp) rfl
                have hat := Lib.hid (hD.at_ r.lines[k].key.data.toList)
                rw [ctAt_delAll hnot] at hat
                have HDl := Lib.hid (p := CntD (D.del (.string r.lines[k].key.data.toList)) (delAll L (keysN (r.lines.take (k + 1))))) (by rw [keysN_snoc hlt, delAll_snoc]; exact hD.del)
                have HY := Lib.hid (p := lineOff L r.lines[k] = true → AE = 13) (fun h => HF2.out.trans (if_pos (List.any_eq_true.2 ⟨_, List.getElem_mem hlt, h⟩)))
                have HN := Lib.hid (p := lineOff L r.lines[k] = false → ∀ i (hi : i < r.lines.length), i < k + 1 → lineOff L r.lines[i] = false) (fun h i hi hik => by
                  rcases Nat.lt_or_ge i k with h1 | h1
                  · exact Hall.out i hi h1
                  · obtain rfl : i = k := by omega
                    exact h)
                have HBl := Lib.hid (show lineOff L r.lines[k] = !(decide (r.lines[k].lo ≤ ctAt L r.lines[k].key.data.toList) && decide (ctAt L r.lines[k].key.data.toList ≤ r.lines[k].hi)) from rfl)
                have CB := Lib.hid fun w' => bcont_c r.lines[k].lo r.lines[k].hi (ctAt L r.lines[k].key.data.toList) w'
                clear hc hnot hD
                generalize lineOff L r.lines[k] = bl at *
                generalize (decide (r.lines[k].lo ≤ ctAt L r.lines[k].key.data.toList) && decide (ctAt L r.lines[k].key.data.toList ≤ r.lines[k].hi)) = bb at *
                generalize r.lines[k] = x at *
                generalize ctAt L x.key.data.toList = q at *
                have hkey := keyOf_string_mk (P := Try.prog) Try.underlying9 (s := x.key) (by unfold maxLen; omega)
                have M6 := hM.alloc (.cells #[.string x.key, .int .u64 x.lo, .int .u64 x.hi] 46)
                have A6 := Blk.new wr #[.string x.key, .int .u64 x.lo, .int .u64 x.hi] 46
                have G6 := grownBy_new_block hg (.cells #[.string x.key, .int .u64 x.lo, .int .u64 x.hi] 46)
                have GW6 := grownBy_new_block HGw.out (.cells #[.string x.key, .int .u64 x.lo, .int .u64 x.hi] 46)
                clear hM hg
                go_upto_region 18 with fail
                generalize wr.alloc (.cells #[.string x.key, .int .u64 x.lo, .int .u64 x.hi] 46) = w6 at *
                generalize wr.heap.size = gk at *
                have a6 := A6.cell
                clear c0 c1 c2
                cases bb with
                | false =>
                  have HQ := Lib.hid (HY.out (by rw [HBl.out]; rfl))
                  go_wp2_with (first
                    | (at_lookup; refine wpList_lookup_own_int _ rfl _ _ 63 rfl 9 25 .u64 keyS Try.underlying63 Try.underlying25 (zeroU _) mb n D rfl M6 _ _ rfl hkey ?_; intro c hc hwc; rw [hat.out] at hc; cases hc; clear hwc)
                    | (go_at_call 30; refine (CB.out _).mono ?_; rintro e w8 ⟨rfl, g8⟩))
                  go_ret
                  exact retInt HQ.out (grownBy_trans GW6 g8)
                | true =>
                  have HQ := Lib.hid (HN.out (by rw [HBl.out]; rfl))
                  go_wp2_with (first
                    | (at_lookup; refine wpList_lookup_own_int _ rfl _ _ 63 rfl 9 25 .u64 keyS Try.underlying63 Try.underlying25 (zeroU _) mb n D rfl M6 _ _ rfl hkey ?_; intro c hc hwc; rw [hat.out] at hc; cases hc; clear hwc)
                    | (go_at_call 30; refine (CB.out _).mono ?_; rintro e w8 ⟨rfl, g8⟩; have M8 := M6.kept g8 (by simp); have a8 := (A6.same g8).cell)
                    | (at_delete; refine wpList_delete_own _ rfl _ _ 63 9 rfl 25 keyS Try.underlying63 _ mb n D rfl M8 _ _ rfl hkey ?_; intro w9 M9 t9))
                  exact ⟨⟨k + 1, by omega, by go_num, HQ.out, ⟨_, M9, HDl.out⟩, grownBy_trans G6 (grownBy_trans (grownBy_some g8 _) t9.grown)⟩, by simp [intOf]; omega⟩
              · have hke : r.lines.take k = r.lines := List.take_of_length_le (by omega)
                rw [hke] at hD
                have HF3 := Lib.hid (HF2.out.trans (if_neg (by
                  rw [Bool.not_eq_true, List.any_eq_false]
                  intro x hx
                  obtain ⟨i, hi, rfl⟩ := List.getElem_of_mem hx
                  simp [Hall.out i hi (by omega)])))
                clear HF2 Hall hke
                have HLA := Lib.hid (delAll_asc HAs.out (keysN r.lines))
                generalize delAll L (keysN r.lines) = Lr at *
                have D6 := HD5.out.kept hg (by simp; omega)
                have HHas := Lib.hid hD.has
                have HAt := Lib.hid hD.at_
                have hrest := HW.out.rest
                clear hD
                go_upto_region 23 with (at_range; refine wpList_range_own _ rfl _ 63 rfl 9 25 keyS Try.underlying63 _ mb n D rfl hM ?_; intro w6 hrg6 hg6 hs6)
                have D7 := Lib.hid (D6.same hg6)
                have HGw6 := Lib.hid (grownBy_trans HGw.out hg6)
                have hrb := D6.lt
                have hib := HGw.out.size
                generalize wr.heap.size = ib at *
                clear D6 hg hM
                go_frame
                go_loopw [17] (fun _ wk => ∃ left cnt, wk.ranges Try.prog 9 (plainElem (H := Unit) Try.prog 25) mb ib n D left cnt ∧ (∀ p ∈ Lr, left (.string p.1) = false → p.2 ≤ r.rest) ∧ w6.grownBy wk (some ib)) (fun _ wk => wk.rangeLeft mb ib)
                case atStart =>
                  refine ⟨_, _, hrg6, fun p hp h => ?_, grownBy_refl _ _⟩
                  rw [HHas.out] at h
                  have : ctHas Lr p.1 = true := ctHas_iff.2 (List.mem_map.2 ⟨p, hp, rfl⟩)
                  rw [this] at h; cases h
                case round =>
                  clear hrg6
                  obtain ⟨left, cnt, hrg, hseen, hg⟩ := hrel
                  have Hs := Lib.hid hseen
                  clear hseen
                  go_wp2_with (at_next; refine wpList_next_ranges _ rfl _ rfl 9 keyS (plainElem (H := Unit) Try.prog 25) Value.string (Value.int .u64) (fun key kl hk => by obtain ⟨s, rfl, _, _⟩ := string_of_keyOf Try.underlying9 hk; exact ⟨s, rfl⟩) (fun v y hv => by obtain ⟨c, rfl, _⟩ := plainElem_int_inv Try.underlying25 hv; exact ⟨c, rfl⟩) mb ib n _ _ _ rfl hrg ?_ ?_)
                  · intro hc0 hl0
                    have HF4 := Lib.hid (HF3.out.trans (if_neg (by
                      rw [Bool.not_eq_true, List.any_eq_false]
                      intro p hp
                      have := Hs.out p hp (hl0 _)
                      simp; omega)))
                    go_wp2_with fail
                    go_ret
                    exact retInt HF4.out (grownBy_new HGw6.out hg hib)
                  · intro x cc kl yd yp w7 cnt2 hkey hlk hv hat hrg2 hlt hg2 hs2 hen
                    obtain ⟨s, es, rfl, hsz⟩ := string_of_keyOf Try.underlying9 hkey
                    cases es
                    obtain ⟨c2, ec, ey, hwc⟩ := plainElem_int_inv Try.underlying25 hv
                    cases ec
                    cases ey
                    have h0 := HAt.out x.data.toList
                    rw [hat] at h0
                    have hcc : cc = ctAt Lr x.data.toList := by cases h0; rfl
                    have D8 := (D7.out.kept hg (by simp; omega)).kept hg2 (by simp; omega)
                    have d8 := D8.cell
                    by_cases hbig : r.rest < cc
                    · have HF4 := Lib.hid (p := AE = 13) (HF3.out.trans (if_pos (by
                        cases hh : ctHas Lr x.data.toList with
                        | false => rw [ctAt_no hh] at hcc; unfold W64 at hrest; omega
                        | true => exact List.any_eq_true.2 ⟨_, ctAt_in hh, by simp; omega⟩)))
                      have hb1 : decide (r.rest < cc) = true := decide_eq_true hbig
                      clear hcc h0 hat hv hkey
                      go_wp2_with fail
                      go_ret
                      exact retInt HF4.out (grownBy_new (grownBy_new HGw6.out hg hib) hg2 (Nat.le_trans hib (by omega)))
                    · have hb1 : decide (r.rest < cc) = false := decide_eq_false hbig
                      have HN := Lib.hid (p := ∀ p ∈ Lr, (left (.string p.1) && !(Lit.string p.1).sameKey (.string x.data.toList)) = false → p.2 ≤ r.rest) (fun p hp h => by
                        cases hl : left (.string p.1) with
                        | false => exact Hs.out p hp hl
                        | true =>
                          rw [hl] at h
                          have e : p.1 = x.data.toList := by simpa [Lit.sameKey] using h
                          have := ctAt_mem HLA.out hp
                          rw [e, ← hcc] at this
                          omega)
                      clear hcc h0 hat hv hkey
                      go_wp2_with fail
                      exact ⟨⟨_, _, hrg2, HN.out, grownBy_trans hg hg2⟩, by rw [hrg2.left_eq, hrg.left_eq]; exact hlt⟩
end Go.Proofs.Ytkdbapbmbhmaiaa

/- Reports as bytes: the program's encoder. -/
namespace Go.Proofs.Ytkdbapbmbhmaiaa
open Go.RowKit Go.Sort
end Go.Proofs.Ytkdbapbmbhmaiaa

/- Reports as bytes: Encode. -/
namespace Go.Proofs.Ytkdbapbmbhmaiaa
open Go.RowKit Go.Sort

theorem Blk.many {α : Type} {f : α → List Value} {size : Nat} {w : World} {g : Nat} {cs : Array Value} (h : Blk w g cs) (hf : ∀ x, (f x).length = size) (l : List α) (hcs : cs.toList = cellsOf f l) (hl : l.length ≤ 9223372036854775807) : RdL f size w (.slice (some ⟨g, 0, none⟩) l.length l.length) l := by
  refine ⟨length_cellsOf f size hf l, hl, .inr ⟨g, 0, l.length, rfl, h.lt, fun j u hu => ?_⟩⟩
  rw [Nat.zero_add, h.cell j]
  rw [← hcs] at hu
  simpa using hu
theorem rd_nat {w : World} {v : Value} {l : List Int} (h : RdL wordF 1 w v l) (h0 : ∀ x ∈ l, 0 ≤ x) : RdL natF 1 w v (l.map Int.toNat) := by
  have e : ∀ l : List Int, (∀ x ∈ l, 0 ≤ x) → cellsOf natF (l.map Int.toNat) = cellsOf wordF l := by
    intro l
    induction l with
    | nil => intro _; rfl
    | cons x l ih =>
      intro h
      have h1 := ih fun y hy => h y (List.mem_cons_of_mem _ hy)
      have h2 := h x (by simp)
      simp only [cellsOf, List.map_cons, List.flatMap_cons] at *
      rw [h1]
      simp only [natF, wordF]
      rw [Int.toNat_of_nonneg h2]
  unfold RdL
  rw [e l h0, List.length_map]
  exact h
/-- The bytes of a line. -/
def lnB (x : Ln) : List UInt8 := vb x.key.size ++ x.key.data.toList ++ vbs [x.lo.toNat, (x.hi - x.lo).toNat]
def linesB (ls : List Ln) : List UInt8 := ls.flatMap lnB
theorem linesB_snoc (ls : List Ln) (x : Ln) : linesB (ls ++ [x]) = linesB ls ++ lnB x := by simp [linesB]
def headB (r : Rep) : List UInt8 := vbs [r.win.toNat, r.tot.toNat, r.over.toNat, r.trk.toNat, r.rest.toNat] ++ vbs ((r.rej.drop 1).map Int.toNat) ++ vb r.lines.length
def encF (r : Rep) : List UInt8 := headB r ++ linesB r.lines
def encR (r : Rep) : List UInt8 := if repErr r = 0 then encF r else []
def EncPost (r : Rep) (w : World) (e : Ending) (w' : World) : Prop := ∃ v, e = .returned (.tuple #[v, .int .i64 (repErr r)]) ∧ Own byF 1 5 w.heap.size w' v (encR r) ∧ w.grownBy w' none

end Go.Proofs.Ytkdbapbmbhmaiaa

/- The example of chapter 34. -/
namespace Go.Proofs.Ytkdbapbmbhmaiaa
open Go.RowKit Go.Sort
attribute [local go_sem ↓] exec_load_cfg
attribute [local go_sem] run_loadCfgS

theorem load_repA_if {ops : Array Oper} {rest : List Oper} {o : Oper} {a : Act} {w : World} {Q : Exit → Act → World → Prop} (hw : Region.wanted o (yielded ops a.tmps) = true) (x : Operand) (ho : o.op = .load 48 x)
    (b : Nat) (hx : a.eval x = .pointer (some ⟨b, 0, none⟩)) {win tot over trk rst : Int} {vl vr : Value} (hb : Blk w b (repA win tot vl over trk rst vr)) (h : wpList Try.prog ops Q rest (a.put o.dst (repV win tot vl over trk rst vr)) w) : wpList Try.prog ops Q (o :: rest) a w := by
  obtain ⟨t, hbl⟩ := hb.blk
  exact BigFrame.wpList_want hw fun K hK => wp_load_row _ x ho b hx t _ _ _ hbl Try.underlying48 rfl size_rep (hK _ _ h)
section
variable {α : Type} {f : α → List Value} {st e : TypeId} {z : Value} {size bytes : Nat} {w : World} {g n : Nat} {l l2 : List α} {A : Option Addr} {m c : Nat}
variable {o : Oper} {a : Act} {ops : Array Oper} {rest : List Oper} {Q : Exit → Act → World → Prop}
/-- append onto a slice that is full: a new block; the operation is guarded. -/
theorem app_grow_if (E : Elt st e z size bytes) (hr0 : RdL f size w (.slice (some ⟨g, 0, none⟩) n n) l) (hn : n = l.length) (hr : RdL f size w (.slice A m c) l2) (hm : m = l2.length) (h0 : 0 < l.length) (h02 : 0 < l2.length) (hb : (l.length + l2.length) * bytes ≤ 140737488355328) (h63 : l.length + l2.length ≤ 9223372036854775807)
    (hw : Region.wanted o (yielded ops a.tmps) = true) (s x : Operand) (ho : o.op = .call { callee := .builtin .append, args := #[s, x], argTypes := #[st, st] }) (hs : a.eval s = .slice (some ⟨g, 0, none⟩) n n) (hx : a.eval x = .slice A m c)
    (h : ∀ v' w', Own f size e w.heap.size w' v' (l ++ l2) → w.grownBy w' none → wpList Try.prog ops Q rest (a.put o.dst v') w') : wpList Try.prog ops Q (o :: rest) a w := by
  subst hm hn
  obtain ⟨i, hi, hz0, hz1, hz2⟩ := info_parts E.info
  rcases hr0.2.2 with ⟨h3, _⟩ | ⟨g1, off1, cap1, hv1, _, hc1⟩
  · omega
  rcases hr.2.2 with ⟨h3, _⟩ | ⟨g2, off2, cap2, hv2, _, hc2⟩
  · omega
  cases hv1
  cases hv2
  have hadd : ∀ b off j, (⟨b, off, none⟩ : Addr).add j = ⟨b, off + j, none⟩ := fun b off j => by unfold Addr.add; split <;> simp_all
  obtain ⟨v', w', hrun, h2, h3⟩ := run_append_arg_grows (P := Try.prog) w st o.type e i z size bytes E.ht hi hz0 hz1 hz2 E.cells E.pos ⟨g, 0, none⟩ l.length l.length (cellsOf f l) hr0.1 (fun j u hu => by rw [hadd]; exact hc1 j u hu) ⟨g2, off2, none⟩ l2.length c (cellsOf f l2) hr.1 (fun j u hu => by rw [hadd]; exact hc2 j u hu) (by omega) (by unfold maxLen; exact h63) hb
  refine BigFrame.wpList_want hw fun K hK => ?_
  unfold Oper.wp execOp
  simp only [ho, resolve, invoke, builtin, Sem.run_bind, Sem.run_pure, Result.andThen_ok, List.map_toArray, List.map_cons, List.map_nil, hs, hx, hrun]
  exact hK _ _ (h v' w' (by unfold Own; rw [cellsOf_append, List.length_append]; exact h2) h3)
end

set_option maxHeartbeats 1000000 in
set_option maxRecDepth 100000 in
theorem awake34_c (w : World) : Calls Try.prog 4 #[] w (RetBool true w) := by
  have hmk : ∀ w, (Instr.makeSlice 27 (.int .i64 7) (.int .i64 7)).run Try.prog w = .ok (.slice (some ⟨w.heap.size, 0, none⟩) 7 7) (w.alloc (.cells #[.int .u64 0, .int .u64 0, .int .u64 0, .int .u64 0, .int .u64 0, .int .u64 0, .int .u64 0] 25)) := fun _ => by kernel_rfl
  have K1 := Lib.hid (rkeyT_c _ [tA] _ ((Blk.new w #[.string ⟨#[97]⟩, .string ⟨#[]⟩] 43).one tagF_len tA rfl) (fun t ht => by rw [List.mem_singleton.1 ht]; exact tag_w1 ⟨rfl, rfl⟩))
  unfold KeyP at K1
  rw [key_A, keyE_A] at K1
  go_enter Try.func4, Try.ntmps4
  go_upto_region 2 with (go_at_call 11; refine K1.out.mono ?_; rintro e w2 ⟨rfl, g2⟩)
  have G2 := grownBy_trans (World.grownBy_alloc w (.cells #[.string ⟨#[97]⟩, .string ⟨#[]⟩] 43) none) g2
  have K2 := Lib.hid (rkeyT_c _ [tB] _ ((Blk.new w2 #[.string ⟨#[98]⟩, .string ⟨#[]⟩] 43).one tagF_len tB rfl) (fun t ht => by rw [List.mem_singleton.1 ht]; exact tag_w1 ⟨rfl, rfl⟩))
  unfold KeyP at K2
  rw [key_B, keyE_B] at K2
  clear K1 g2
  go_upto_region 3 with (go_at_call 11; refine K2.out.mono ?_; rintro e w3 ⟨rfl, g3⟩)
  have G3 := grownBy_trans (grownBy_new_block G2 (.cells #[.string ⟨#[98]⟩, .string ⟨#[]⟩] 43)) g3
  clear K2 g3 G2
  go_upto_region 4 with (first | (refine alloc_cfg rfl rfl ?_; intro w4 B4 G4 z4) | (refine store_cfg rfl _ _ rfl _ rfl awk34C rfl rfl rfl Cfg.zero (by assumption) ?_; intro w5 B5 G5))
  have G6 := grownBy_trans G3 (grownBy_new G4 G5 (Nat.le_refl _))
  generalize w3.heap.size = cb at *
  clear B4 G4 G5 G3
  have A1 := (Blk.new w5 #[.string kA, .int .u64 5, .int .u64 5] 46).same (World.grownBy_alloc _ (.cells #[.int .u64 0, .int .u64 0, .int .u64 0, .int .u64 0, .int .u64 0, .int .u64 0, .int .u64 0] 25) none)
  have A2 := Blk.new' (w5.alloc (.cells #[.string kA, .int .u64 5, .int .u64 5] 46)) #[.int .u64 0, .int .u64 0, .int .u64 0, .int .u64 0, .int .u64 0, .int .u64 0, .int .u64 0] 25 (g := w5.heap.size + 1) (by simp)
  have R1 := A1.one lnF_len ⟨kA, 5, 5⟩ rfl
  have R2 := A2.many (f := wordF) (size := 1) (fun _ => rfl) [0, 0, 0, 0, 0, 0, 0] rfl (by simp)
  have hR : RepRd ((w5.alloc (.cells #[.string kA, .int .u64 5, .int .u64 5] 46)).alloc (.cells #[.int .u64 0, .int .u64 0, .int .u64 0, .int .u64 0, .int .u64 0, .int .u64 0, .int .u64 0] 25)) (awk34R (.slice (some ⟨w5.heap.size, 0, none⟩) 1 1) (.slice (some ⟨w5.heap.size + 1, 0, none⟩) 7 7)) := ⟨R1, R2, fun a n c e => by cases e; omega, fun a n c e => by cases e; omega⟩
  have B6 := (B5.same (World.grownBy_alloc _ (.cells #[.string kA, .int .u64 5, .int .u64 5] 46) none)).same (World.grownBy_alloc _ (.cells #[.int .u64 0, .int .u64 0, .int .u64 0, .int .u64 0, .int .u64 0, .int .u64 0, .int .u64 0] 25) none)
  have G7 := grownBy_new_block (grownBy_new_block G6 (.cells #[.string kA, .int .u64 5, .int .u64 5] 46)) (.cells #[.int .u64 0, .int .u64 0, .int .u64 0, .int .u64 0, .int .u64 0, .int .u64 0, .int .u64 0] 25)
  have HR := Lib.hid hR
  have HB := Lib.hid B6
  have HG := Lib.hid G7
  clear A1 A2 R1 R2 hR B5 B6 G6 G7
  go_upto_region 5 with (first
    | (refine alloc_rep rfl rfl ?_; intro w7 A7 g7 z7)
    | (refine store_rep rfl _ _ rfl _ rfl (win := 0) (tot := 7) (over := 2) (trk := 2) (rst := 2) (vl := .slice (some ⟨w5.heap.size, 0, none⟩) 1 1) (vr := .slice (some ⟨w5.heap.size + 1, 0, none⟩) 7 7) rfl rfl rfl rep0 rfl A7 ?_; intro w8 A8 g8))
  have g9 := grownBy_new g7 g8 (Nat.le_refl _)
  have R8 := HR.out.same g9
  have B8 := HB.out.same g9
  have G8 := grownBy_trans HG.out g9
  generalize ((w5.alloc (.cells #[.string kA, .int .u64 5, .int .u64 5] 46)).alloc (.cells #[.int .u64 0, .int .u64 0, .int .u64 0, .int .u64 0, .int .u64 0, .int .u64 0, .int .u64 0] 25)).heap.size = rb at *
  clear HR HB HG g7 g8 g9 A7
  go_upto_region 6 with fail
  have I9 := (Blk.new w8 #[.string kA, .int .i64 3, .int .u64 5, .string kB, .int .i64 4, .int .u64 2] 50).many itF_len [itA, itB] rfl (by decide)
  have g9 := World.grownBy_alloc w8 (.cells #[.string kA, .int .i64 3, .int .u64 5, .string kB, .int .i64 4, .int .u64 2] 50) none
  have A9 := A8.same g9
  have R9 := R8.same g9
  have B9 := B8.same g9
  have G9 := grownBy_trans G8 g9
  generalize w8.alloc (.cells #[.string kA, .int .i64 3, .int .u64 5, .string kB, .int .i64 4, .int .u64 2] 50) = w9 at *
  generalize w8.heap.size = ib at *
  clear A8 R8 B8 G8 g9
  have HC := Lib.hid fun y (h : w9.grownBy y none) => acheck_c awk34C _ y (R9.same h) (awk34_w _ _)
  have HG1 := Lib.hid fun y (h : w9.grownBy y none) => against_c awk34C _ _ _ y (R9.same h) (awk34_w _ _) (RdL.same I9 h) (fun x hx => itABC_w x (by simp only [List.mem_cons, List.not_mem_nil, or_false] at hx ⊢; rcases hx with h | h <;> simp [h])) (by decide)
  have HG2 := Lib.hid fun v y (h : w9.grownBy y none) hv => against_c awk34C _ v [itA, itB, itC] y (R9.same h) (awk34_w _ _) hv itABC_w (by decide)
  simp only [awk34_aud, awk34_ag1, awk34_ag2] at HC HG1 HG2
  dsimp only [awk34R] at HC HG1 HG2
  have HI := Lib.hid I9
  have HA := Lib.hid A9
  have G10 := Lib.hid G9
  have K6 : World.grownBy w9 w9.drew none := (by (repeat (first | exact grownBy_refl _ _ | assumption | refine grownBy_new_block ?_ _ | refine grownBy_drew ?_ | refine grownBy_drewN ?_ _ | refine grownBy_setNew ?_ (by first | (simp; done) | omega | (simp; omega)) _)))
  have B6 := B9.same K6
  clear R9 I9 A9 G9 B9
  (refine Rg.wp_region_rgZ 23 #[] (fun w w' => World.grownBy w w' none) (fun k _ w v w' => match k with | 2 => v = .int .i64 0 ∧ World.grownBy w w' none | 8 => v = .int .i64 0 ∧ World.grownBy w w' none | 19 => v = .int .i64 13 ∧ World.grownBy w w' none | _ => False) (by kernel_rfl) (by kernel_rfl) (fun w => grownBy_refl w none) (fun _ _ _ h k => grownBy_trans h k) (fun _ _ _ _ _ h => h) ?_; simp only [List.take, List.drop])
  generalize w9.drew = w10 at *
  (refine Rg.tree_op rfl rfl ?_; intro y0 my0 dy0)
  clear dy0
  have BX := B6.same my0
  go_wp2_with (refine load_cfg rfl _ rfl _ rfl awk34C (by assumption) ?_)
  refine ⟨grownBy_refl _ _, ?_⟩
  clear BX
  (refine Rg.tree_op rfl rfl ?_; intro y1 my1 dy1)
  clear dy1
  have AX := HA.out.same (grownBy_trans K6 my1)
  go_wp2_with (refine load_rep rfl _ rfl _ rfl AX ?_)
  refine ⟨grownBy_refl _ _, ?_⟩
  clear AX
  ((refine Rg.tree_call rfl rfl rfl ?_; intro y2 my2 dy2; refine ⟨?_, ?_⟩; · (unfold Rg.callSpec; go_simp; (refine (HC.out y2 (grownBy_trans K6 my2)).mono ?_; rintro e w' ⟨rfl, g⟩; exact ⟨_, rfl, rfl, g⟩))); clear dy2; rintro v y ⟨rfl, g⟩; refine ⟨g, ?_⟩; clear g; simp only [Act.put, List.setIfInBounds_toArray, List.set_cons_zero, List.set_cons_succ])
  (refine Rg.tree_quiet 2 rfl (by first | exact Or.inl rfl | exact Or.inr rfl) ?_; simp only [List.take, List.drop, List.length_cons, List.length_nil, List.replicate, Nat.reduceAdd]; (try simp only [List.cons_append]); (try simp only [List.nil_append]); (repeat (go_big_quiet_step (fail))); refine wpQuiet_nil ?_)
  (refine Rg.tree_op rfl rfl ?_; intro y5 my5 dy5)
  clear dy5
  have BX := B6.same my5
  go_wp2_with (refine load_cfg_if rfl _ rfl _ rfl awk34C (by assumption) ?_)
  refine ⟨grownBy_refl _ _, ?_⟩
  clear BX
  (refine Rg.tree_op rfl rfl ?_; intro y6 my6 dy6)
  clear dy6
  have AX := HA.out.same (grownBy_trans K6 my6)
  go_wp2_with (refine load_repA_if (by rfl) _ rfl _ rfl AX ?_)
  refine ⟨grownBy_refl _ _, ?_⟩
  clear AX
  (refine Rg.tree_quiet 1 rfl (by first | exact Or.inl rfl | exact Or.inr rfl) ?_; simp only [List.take, List.drop, List.length_cons, List.length_nil, List.replicate, Nat.reduceAdd]; (try simp only [List.cons_append]); (try simp only [List.nil_append]); (repeat (go_big_quiet_step (fail))); refine wpQuiet_nil ?_)
  ((refine Rg.tree_callG rfl rfl rfl ?_; intro y8 my8 dy8; refine ⟨?_, ?_⟩; · (unfold Rg.callSpec; go_simp; (refine (HG1.out y8 (grownBy_trans K6 my8)).mono ?_; rintro e w' ⟨rfl, g⟩; exact ⟨_, rfl, rfl, g⟩))); clear dy8; rintro v y ⟨rfl, g⟩; refine ⟨g, ?_⟩; clear g; simp only [Act.put, List.setIfInBounds_toArray, List.set_cons_zero, List.set_cons_succ])
  (refine Rg.tree_quiet 3 rfl (by first | exact Or.inl rfl | exact Or.inr rfl) ?_; simp only [List.take, List.drop, List.length_cons, List.length_nil, List.replicate, Nat.reduceAdd]; (try simp only [List.cons_append]); (try simp only [List.nil_append]); (repeat (go_big_quiet_step (fail))); refine wpQuiet_nil ?_)
  (refine Rg.tree_op rfl rfl ?_; intro y12 my12 dy12)
  clear dy12
  have BX := B6.same my12
  go_wp2_with (refine load_cfg_if rfl _ rfl _ rfl awk34C (by assumption) ?_)
  refine ⟨grownBy_refl _ _, ?_⟩
  clear BX
  (refine Rg.tree_op rfl rfl ?_; intro y13 my13 dy13)
  clear dy13
  have AX := HA.out.same (grownBy_trans K6 my13)
  go_wp2_with (refine load_repA_if (by rfl) _ rfl _ rfl AX ?_)
  refine ⟨grownBy_refl _ _, ?_⟩
  clear AX
  (refine Rg.tree_quiet 3 rfl (by first | exact Or.inl rfl | exact Or.inr rfl) ?_; simp only [List.take, List.drop, List.length_cons, List.length_nil, List.replicate, Nat.reduceAdd]; (try simp only [List.cons_append]); (try simp only [List.nil_append]); (repeat (go_big_quiet_step (fail))); refine wpQuiet_nil ?_)
  (refine Rg.tree_op rfl rfl ?_; intro y17 my17 dy17)
  clear dy17
  go_wp2_with fail
  refine ⟨World.grownBy_alloc _ _ _, ?_⟩
  have N17 := Blk.new y17 #[.string kA, .int .i64 5, .int .u64 1] 50
  generalize y17.alloc (.cells #[.string kA, .int .i64 5, .int .u64 1] 50) = e17 at *
  generalize y17.heap.size = g17 at *
  (refine Rg.tree_op rfl rfl ?_; intro y18 my18 dy18)
  have R18 := (N17.same (dy18.out 17 (by omega) (by kernel_rfl))).one itF_len itC rfl
  have I18 := RdL.same HI.out (grownBy_trans K6 my18)
  clear dy18 N17
  go_wp2_with (at_builtin; refine app_grow_if elt_it I18 rfl R18 rfl (by decide) (by decide) (by decide) (by decide) (by rfl) _ _ (by rfl) (by rfl) (by rfl) ?_; intro v18 e18 o18 g18; have Hg18 := Lib.hid g18; clear g18)
  refine ⟨Hg18.out, ?_⟩
  obtain ⟨a18, c18, rfl⟩ := o18.shape
  clear I18 R18 Hg18
  (refine Rg.tree_callG rfl rfl rfl ?_; intro y19 my19 dy19; refine ⟨?_, ?_⟩; · (unfold Rg.callSpec; go_simp; (refine (HG2.out _ y19 (grownBy_trans K6 my19) (show RdL itF 3 y19 _ [itA, itB, itC] from RdL.same o18.rd (dy19.out 18 (by omega) (by kernel_rfl)))).mono ?_; rintro e w' ⟨rfl, g⟩; exact ⟨_, rfl, rfl, g⟩)))
  clear dy19
  rintro v y ⟨rfl, g⟩
  refine ⟨g, ?_⟩
  clear g
  simp only [Act.put, List.setIfInBounds_toArray, List.set_cons_zero, List.set_cons_succ]
  (refine Rg.tree_quiet 3 rfl (by first | exact Or.inl rfl | exact Or.inr rfl) ?_; simp only [List.take, List.drop, List.length_cons, List.length_nil, List.replicate, Nat.reduceAdd]; (try simp only [List.cons_append]); (try simp only [List.nil_append]); (repeat (go_big_quiet_step (fail))); refine wpQuiet_nil ?_)
  (refine Rg.tree_nil ?_; intro z mz dz cz)
  clear dz cz
  go_wp2_with fail
  go_ret
  exact retBool rfl (grownBy_trans G10.out (grownBy_trans K6 mz))
end Go.Proofs.Ytkdbapbmbhmaiaa

/- Lists of lines compared. -/
namespace Go.Proofs.Ytkdbapbmbhmaiaa
open Go.RowKit

theorem fields_line : Try.prog.underlying 46 = some (.struct (Try.prog.fieldsOf 46)) := by kernel_rfl
theorem held_line : Try.prog.stoodInHeld 46 = false := by kernel_rfl
theorem guard_line : Try.prog.eqGuardType Try.prog.depth 46 = false := by kernel_rfl
theorem same_line (x : Ln) (w : World) : (Op.equalIn 10000 46 (.agg #[.string x.key, .int .u64 x.lo, .int .u64 x.hi]) (.agg #[.string x.key, .int .u64 x.lo, .int .u64 x.hi])).run Try.prog w = .ok true w := by
  rw [run_equalIn_agg w 9999 _ _ _ fields_line held_line]
  have hf : ∃ a b c : Field, (Try.prog.fieldsOf 46).toList = [a, b, c] ∧ a.type = 9 ∧ b.type = 25 ∧ c.type = 25 ∧ a.offset = 0 ∧ b.offset = 1 ∧ c.offset = 2 ∧ (a.name == "_") = false ∧ (b.name == "_") = false ∧ (c.name == "_") = false := ⟨(Try.prog.fieldsOf 46).toList.getD 0 default, (Try.prog.fieldsOf 46).toList.getD 1 default, (Try.prog.fieldsOf 46).toList.getD 2 default, by kernel_rfl, by kernel_rfl, by kernel_rfl, by kernel_rfl, by kernel_rfl, by kernel_rfl, by kernel_rfl, by kernel_rfl, by kernel_rfl, by kernel_rfl⟩
  obtain ⟨a, b, c, h, h1, h2, h3, h4, h5, h6, h7, h8, h9⟩ := hf
  rw [h]
  have h7' := beq_eq_false_iff_ne.1 h7
  have h8' := beq_eq_false_iff_ne.1 h8
  have h9' := beq_eq_false_iff_ne.1 h9
  simp [go_sem, h1, h2, h3, h4, h5, h6, h7', h8', h9']

set_option maxHeartbeats 400000 in
theorem sameLines_c (v v' : Value) (L : List Ln) (w : World) (h : RdL lnF 3 w v L) (h' : RdL lnF 3 w v' L) : Calls Try.prog 8 #[v, v'] w (RetBool true w) := by
  obtain ⟨a, c, rfl⟩ := h.shape
  obtain ⟨a', c', rfl⟩ := h'.shape
  have hm := h.2.1
  have H := Lib.hid h
  have H' := Lib.hid h'
  clear h h'
  go_enter Try.func8, Try.ntmps8
  go_wp2_with fail
  go_loopw [13] (fun s13 wr => ∃ k : Nat, k ≤ L.length ∧ s13 = .int .i64 k ∧ w.grownBy wr none) (fun s13 _ => L.length - (intOf s13).toNat)
  case atStart => exact ⟨0, Nat.zero_le _, rfl, grownBy_refl _ _⟩
  case round =>
    obtain ⟨k, hk, rfl, hg⟩ := hrel
    by_cases hlt : k < L.length
    · obtain ⟨g, off, cap, hv, hgl, hc⟩ := (RdL.same H.out hg).at_ lnF_len hlt
      obtain ⟨g', off', cap', hv', hgl', hc'⟩ := (RdL.same H'.out hg).at_ lnF_len hlt
      cases hv
      cases hv'
      have c0 := hc 0 _ rfl
      have c1 := hc 1 _ rfl
      have c2 := hc 2 _ rfl
      have d0 := hc' 0 _ rfl
      have d1 := hc' 1 _ rfl
      have d2 := hc' 2 _ rfl
      clear hc hc'
      rw [Nat.add_zero] at c0 d0
      generalize L[k] = x at *
      have hk0 : (0 : Int) ≤ (k : Int) := by omega
      have hk1 : (k : Int) < (L.length : Int) := by omega
      have s1 := guard_line
      have s2 := fun w => same_line x w
      go_wp2_with fail
      go_quiet (fail)
      go_wp2_with fail
      exact ⟨⟨k + 1, by omega, by go_num, grownBy_drewN hg _⟩, by simp [intOf]; omega⟩
    · go_wp2_with fail
      go_ret
      exact retBool rfl hg
end Go.Proofs.Ytkdbapbmbhmaiaa

/- The walks of the four laws of the clock. -/
namespace Go.Proofs.Ytkdbapbmbhmaiaa
open Go.RowKit

attribute [local go_sem ↓] exec_load_cfg
attribute [local go_sem] run_loadCfgS

abbrev awk : Cfg := ⟨10, 5, 2, 0, 0, 0, 0, 0, 0, 0, 0, 0, 0, 0, .slice none 0 0, .slice none 0 0, 0⟩

theorem CfgMem.one1 {c : Cfg} {l : List (Int × Int)} {t : List Int} {w : World} (h : CfgMem c l t w) : c.Classes.oneCell' = true := by obtain ⟨a, cap, hv⟩ := h.classes.shape; rw [hv]; rfl
theorem CfgMem.one2 {c : Cfg} {l : List (Int × Int)} {t : List Int} {w : World} (h : CfgMem c l t w) : c.Table.oneCell' = true := by obtain ⟨a, cap, hv⟩ := h.table.shape; rw [hv]; rfl
theorem CfgNums.cok {c : Cfg} (h : CfgNums c) : cok c = true := decide_eq_true ⟨h.length.1, h.length.2, h.lateness.1, h.lateness.2, h.windows.1, h.windows.2⟩
theorem tok_of {n : Int} (h0 : 0 ≤ n) (h1 : n ≤ 1099511627776) : tok n = true := decide_eq_true ⟨h0, h1⟩

theorem lowV_eq {c : Cfg} (hc : cok c = true) {m : Int} (h0 : 0 ≤ m) (h1 : m ≤ 1099511627776) : lowV c m = max (m - c.Lateness) 0 / c.Length := by
  unfold lowV; rw [hc, tok_of h0 h1]; rfl
theorem winV_eq {c : Cfg} (hc : cok c = true) {m : Int} (h0 : 0 ≤ m) (h1 : m ≤ 1099511627776) : winV c m = m / c.Length := by
  unfold winV; rw [hc, tok_of h0 h1]; rfl
theorem lowV_mono {c : Cfg} (hc : cok c = true) {m m' : Int} (h0 : 0 ≤ m) (h : m ≤ m') (h1 : m' ≤ 1099511627776) : lowV c m ≤ lowV c m' := by
  rw [lowV_eq hc h0 (by omega), lowV_eq hc (by omega) h1]
  obtain ⟨⟨l0, _⟩, _⟩ := numsV hc
  exact Int.ediv_le_ediv (by omega) (by omega)
theorem verV_eq {c : Cfg} (hc : cok c = true) {m n : Int} (h0 : 0 ≤ m) (h1 : m ≤ 1099511627776) (h2 : 0 ≤ n) (h3 : n ≤ 1099511627776) :
    verV c m n = if winV c n < lowV c m then 3 else if lowV c m + c.Windows ≤ winV c n then 4 else 0 := verV_yes (by rw [hc, tok_of h0 h1, tok_of h2 h3]; rfl)
theorem late_stays {c : Cfg} (hc : cok c = true) {m m' n : Int} (h0 : 0 ≤ m) (h : m ≤ m') (h1 : m' ≤ 1099511627776) (h2 : 0 ≤ n) (h3 : n ≤ 1099511627776) (hv : verV c m n = 3) : verV c m' n = 3 := by
  have hm := lowV_mono hc h0 h h1
  rw [verV_eq hc h0 (by omega) h2 h3] at hv
  rw [verV_eq hc (by omega) h1 h2 h3]
  have : winV c n < lowV c m := by
    by_cases h : winV c n < lowV c m
    · exact h
    · rw [if_neg h] at hv; split at hv <;> omega
  rw [if_pos (by omega)]
theorem ok_no_early {c : Cfg} (hc : cok c = true) {m m' n : Int} (h0 : 0 ≤ m) (h : m ≤ m') (h1 : m' ≤ 1099511627776) (h2 : 0 ≤ n) (h3 : n ≤ 1099511627776) (hv : verV c m n = 0) : verV c m' n ≠ 4 := by
  have hm := lowV_mono hc h0 h h1
  rw [verV_eq hc h0 (by omega) h2 h3] at hv
  rw [verV_eq hc (by omega) h1 h2 h3]
  by_cases h4 : winV c n < lowV c m
  · rw [if_pos h4] at hv; omega
  · rw [if_neg h4] at hv
    by_cases h5 : lowV c m + c.Windows ≤ winV c n
    · rw [if_pos h5] at hv; omega
    · split
      · omega
      · rw [if_neg (by omega)]; omega

theorem div_in {c : Cfg} (hc : cok c = true) {t u : Int} (h0 : 0 ≤ t) (h1 : t ≤ 1099511627776) :
    winV c t * c.Length ≤ t ∧ t < (winV c t + 1) * c.Length := by
  obtain ⟨⟨l0, _⟩, _⟩ := numsV hc
  rw [winV_eq hc h0 h1]
  have e := Int.emod_add_mul_ediv t c.Length
  have a := Int.emod_nonneg t (show c.Length ≠ 0 by omega)
  have b := Int.emod_lt_of_pos t (show 0 < c.Length by omega)
  have e2 : t / c.Length * c.Length = c.Length * (t / c.Length) := Int.mul_comm _ _
  have e3 : (t / c.Length + 1) * c.Length = t / c.Length * c.Length + c.Length := by rw [Int.add_mul]; omega
  omega
theorem spanF {c : Cfg} (hc : cok c = true) {k : Int} (h0 : 0 ≤ k) (h1 : k ≤ 1099511627776) : fromV c k = k * c.Length := by unfold fromV; rw [hc, tok_of h0 h1]; rfl
theorem spanT {c : Cfg} (hc : cok c = true) {k : Int} (h0 : 0 ≤ k) (h1 : k ≤ 1099511627776) : toV c k = (k + 1) * c.Length := by unfold toV; rw [hc, tok_of h0 h1]; rfl
/-- A time lies in the span of a window just if it is its window. -/
theorem in_span {c : Cfg} (hc : cok c = true) {t o : Int} (h0 : 0 ≤ t) (h1 : t ≤ 1099511627776) (h2 : 0 ≤ o) (h3 : o ≤ 1099511627776) :
    (decide (fromV c o ≤ t) && decide (t < toV c o)) = (winV c t == o) := by
  rw [spanF hc h2 h3, spanT hc h2 h3, Bool.eq_iff_iff]
  simp only [Bool.and_eq_true, decide_eq_true_eq, beq_iff_eq]
  obtain ⟨d1, d2⟩ := div_in hc (u := 0) h0 h1
  obtain ⟨⟨l0, _⟩, _⟩ := numsV hc
  constructor
  · rintro ⟨g1, g2⟩
    have q1 : o * c.Length < (winV c t + 1) * c.Length := by omega
    have q2 : winV c t * c.Length < (o + 1) * c.Length := by omega
    have r1 := Int.lt_of_mul_lt_mul_right q1 (by omega)
    have r2 := Int.lt_of_mul_lt_mul_right q2 (by omega)
    omega
  · intro e; rw [← e]; exact ⟨d1, d2⟩

end Go.Proofs.Ytkdbapbmbhmaiaa

/- The law AuditCount walked. -/
namespace Go.Proofs.Ytkdbapbmbhmaiaa
open Go.RowKit Go.Sort
attribute [local go_sem ↓] exec_load_cfg
attribute [local go_sem] run_loadCfgS

set_option maxHeartbeats 2000000 in
set_option maxRecDepth 100000 in
theorem acount_w (a0 : Option Addr) (cap0 : Nat) (z0 : List ItR) (dv ov : Value) (xs ys : List Int) (n m : Nat) (win : Int) (w : World) (hR : RdL itF 3 w (.slice a0 z0.length cap0) z0) (hW : ∀ x ∈ z0, ItW x)
    (hd : Rd w 1 dv n (xs.map (fun x => Value.int .i64 x))) (ho : Rd w 1 ov m (ys.map (fun x => Value.int .i64 x))) :
    Calls Try.prog 3 #[.slice a0 z0.length cap0, dv, ov, .int .i64 win] w (RetBool true w) := by
  by_cases hlong : 60 < z0.length
  · have i1 : (60 : Int) < (z0.length : Int) := by omega
    go_enter Try.func3, Try.ntmps3
    go_wp2_with (go_at_call 4; refine (awake34_c _).mono ?_; rintro e w1 ⟨rfl, g1⟩)
    go_ret
    exact retBool rfl g1
  have i1 : ¬ (60 : Int) < (z0.length : Int) := by omega
  have HD := Lib.hid hd
  have HO := Lib.hid ho
  have HR := Lib.hid hR
  have HW := Lib.hid hW
  obtain ⟨da, dc, rfl⟩ := hd.shape
  obtain ⟨oa, oc, rfl⟩ := ho.shape
  have hl0 : z0.length ≤ 60 := by omega
  clear hd ho hR hW
  obtain ⟨q, hq⟩ : ∃ q, bits .and .i64 win 7 = q := ⟨_, rfl⟩
  go_enter Try.func3, Try.ntmps3
  go_upto_region 4 with (first | (go_at_call 5; refine (new_c _ _ _ _ HD.out).mono ?_; rintro e w1 ⟨rfl, D1, G1⟩) | (go_at_call 6; refine (config2_c _ _ D1 (Nat.le_refl _)).mono ?_; rintro e w2 ⟨c, lc, t, rfl, N2, M2, D2, G2, T2, C2⟩; have z12 := G2.size; replace G2 := grownBy_new G1 G2 (Nat.le_refl _); have oc1 := M2.one1; have oc2 := M2.one2) | (refine alloc_cfg rfl rfl ?_; intro w3 B3 G3 z3) | (refine store_cfg rfl _ _ rfl _ rfl c rfl oc1 oc2 Cfg.zero (by assumption) ?_; intro w4 B4 G4; have D4 := D2.kept (grownBy_new G3 G4 (Nat.le_refl _)) (by simp); have M4 := M2.same (grownBy_new G3 G4 (Nat.le_refl _)); have z14 := Nat.le_trans z12 (grownBy_new G3 G4 (Nat.le_refl _)).size; replace G4 := grownBy_new (grownBy_trans G2 G3) G4 G2.size))
  have HO4 := Lib.hid (Rd.same HO.out G4)
  have hcb : w2.heap.size < w4.heap.size := B4.lt
  clear D4 M4 z14 oc1 oc2 B3 G3 z3 M2 D2 T2 C2 z12 G2 D1 G1 N2 HD HO i1
  go_upto_region 5 with (first
    | (go_at_call 5; refine (new_c _ _ _ _ HO4.out).mono ?_; rintro e w5 ⟨rfl, D5, g5⟩)
    | (go_at_call 7; refine (items_c _ _ D5 (Nat.le_refl _)).mono ?_; rintro e w6 ⟨v6, l6, rfl, o6, hl6, hw6, d6, g6⟩; obtain ⟨a6, c6, rfl⟩ := o6.shape))
  have G6 := grownBy_new (grownBy_trans G4 g5) g6 G4.size
  have B6 := (B4.same g5).kept g6 (by simp; omega)
  have R6 := o6.rd
  generalize w2.heap.size = cb at *
  clear D5 d6 o6 g5 g6 G4 B4 HO4
  have HR6 := Lib.hid (RdL.same HR.out G6)
  have HL6 := Lib.hid (And.intro R6 (And.intro hw6 hl6))
  have HB6 := Lib.hid B6
  have HG6 := Lib.hid G6
  clear R6 hw6 hl6 B6 G6 HR
  go_upto_region 6 with fail
  have W7 := Blk.new w6 #[.int .i64 win, .int .i64 q] 3
  have g7 := World.grownBy_alloc w6 (.cells #[.int .i64 win, .int .i64 q] 3) none
  generalize w6.alloc (.cells #[.int .i64 win, .int .i64 q] 3) = w7 at *
  generalize w6.heap.size = wb at *
  clear hq
  go_loopw [30] (fun s30 wk => ∃ i : Nat, i ≤ 2 ∧ s30 = .int .i64 i ∧ w7.grownBy wk none) (fun s30 _ => 2 - (intOf s30).toNat)
  case atStart => exact ⟨0, by omega, rfl, grownBy_refl _ _⟩
  case round =>
    obtain ⟨i, hi, rfl, hg⟩ := hrel
    by_cases hlt : i < 2
    · have c7 := (W7.same hg).cell
      have hil : (i : Int) < 2 := by omega
      go_upto_region 7 with fail
      go_cut [32, 33, 12] (fun _ _ s12 wx => (∃ q, s12 = .int .i64 q) ∧ wr = wx)
      case first =>
        obtain rfl | rfl : i = 0 ∨ i = 1 := by omega
        · go_wp2_with fail
          go_meet
          exact ⟨⟨_, rfl⟩, rfl⟩
        · go_wp2_with fail
          go_meet
          exact ⟨⟨_, rfl⟩, rfl⟩
      obtain ⟨⟨wn, rfl⟩, rfl⟩ := hcut
      have HG := Lib.hid (grownBy_trans g7 hg)
      clear c7 hil
      go_upto_region 9 with fail
      have V8 := Blk.new wr #[.slice a0 z0.length cap0, .slice a6 l6.length c6] 22
      have g8 := World.grownBy_alloc wr (.cells #[.slice a0 z0.length cap0, .slice a6 l6.length c6] 22) none
      generalize wr.alloc (.cells #[.slice a0 z0.length cap0, .slice a6 l6.length c6] 22) = w8 at *
      generalize wr.heap.size = vb at *
      go_loopw [38] (fun s38 wk => ∃ k : Nat, k ≤ 2 ∧ s38 = .int .i64 k ∧ w8.grownBy wk none) (fun s38 _ => 2 - (intOf s38).toNat)
      case atStart => exact ⟨0, by omega, rfl, grownBy_refl _ _⟩
      case round =>
        obtain ⟨k, hk, rfl, hgk⟩ := hrel
        by_cases hkl : k < 2
        · have c8 := (V8.same hgk).cell
          have hil : (k : Int) < 2 := by omega
          have K9 := Lib.hid (grownBy_trans HG.out (grownBy_trans g8 hgk))
          go_upto_region 10 with fail
          go_cut [40, 41, 14] (fun _ _ s14 wx => (∃ L, RdL itF 3 wx s14 L ∧ (∀ x ∈ L, ItW x) ∧ L.length ≤ 60) ∧ wr = wx)
          case first =>
            obtain rfl | rfl : k = 0 ∨ k = 1 := by omega
            · go_wp2_with fail
              go_meet
              exact ⟨⟨_, RdL.same HR6.out K9.out, HW.out, hl0⟩, rfl⟩
            · go_wp2_with fail
              go_meet
              exact ⟨⟨_, RdL.same HL6.out.1 K9.out, HL6.out.2.1, by have := HL6.out.2.2; omega⟩, rfl⟩
          obtain ⟨⟨L, hL, hLw, hLl⟩, rfl⟩ := hcut
          have HC1 := Lib.hid fun y (h : World.grownBy wr y none) => acount_c c wn _ L y (RdL.same hL h) hLw (by omega)
          have HC2 := Lib.hid fun y (h : World.grownBy wr y none) => rcount_c c wn _ L y (RdL.same hL h) hLw (by omega)
          obtain ⟨La, Lc, rfl⟩ := hL.shape
          clear hL hLw c8 hil
          generalize (cntL c wn L).map kwLn = AL at *
          go_upto_region 11 with fail
          have K6 : World.grownBy wr wr.drew none := (by (repeat (first | exact grownBy_refl _ _ | assumption | refine grownBy_new_block ?_ _ | refine grownBy_drew ?_ | refine grownBy_drewN ?_ _ | refine grownBy_setNew ?_ (by first | (simp; done) | omega | (simp; omega)) _)))
          have B6 := HB6.out.same (grownBy_trans K9.out K6)
          (refine Rg.wp_region_rgZ 10 #[] (fun w w' => World.grownBy w w' none) (fun k _ w v w' => match k with | 3 => RdL lnF 3 w' v AL ∧ World.grownBy w w' none | 7 => RdL lnF 3 w' v AL ∧ World.grownBy w w' none | 8 => v = .bool true ∧ World.grownBy w w' none | _ => False) (by kernel_rfl) (by kernel_rfl) (fun w => grownBy_refl w none) (fun _ _ _ h k => grownBy_trans h k) (fun _ _ _ _ _ h => h) ?_; simp only [List.take, List.drop])
          generalize wr.drew = w10 at *
          (refine Rg.tree_op rfl rfl ?_; intro x0 mx0 dx0)
          clear dx0
          have BX := B6.same mx0
          go_wp2_with (refine load_cfg rfl _ rfl _ rfl c (by assumption) ?_)
          refine ⟨grownBy_refl _ _, ?_⟩
          clear BX
          (refine Rg.tree_quiet 2 rfl (by first | exact Or.inl rfl | exact Or.inr rfl) ?_; simp only [List.take, List.drop, List.length_cons, List.length_nil, List.replicate, Nat.reduceAdd]; (try simp only [List.cons_append]); (try simp only [List.nil_append]); (repeat (go_big_quiet_step (fail))); refine wpQuiet_nil ?_)
          (refine Rg.tree_call rfl rfl rfl ?_; intro x3 mx3 dx3; refine ⟨?_, ?_⟩; · (unfold Rg.callSpec; go_simp; (refine (HC1.out x3 (grownBy_trans K6 mx3)).mono ?_; rintro e w' ⟨v, rfl, o, g⟩; exact ⟨v, rfl, o.rd, g⟩)))
          clear dx3
          rintro v3 y3 ⟨R3, g3⟩
          refine ⟨g3, ?_⟩
          simp only [Act.put, List.setIfInBounds_toArray, List.set_cons_zero, List.set_cons_succ]
          (refine Rg.tree_op rfl rfl ?_; intro x4 mx4 dx4)
          clear dx4
          have BX := B6.same mx4
          go_wp2_with (refine load_cfg rfl _ rfl _ rfl c (by assumption) ?_)
          refine ⟨grownBy_refl _ _, ?_⟩
          clear BX
          (refine Rg.tree_quiet 2 rfl (by first | exact Or.inl rfl | exact Or.inr rfl) ?_; simp only [List.take, List.drop, List.length_cons, List.length_nil, List.replicate, Nat.reduceAdd]; (try simp only [List.cons_append]); (try simp only [List.nil_append]); (repeat (go_big_quiet_step (fail))); refine wpQuiet_nil ?_)
          (refine Rg.tree_call rfl rfl rfl ?_; intro x7 mx7 dx7; refine ⟨?_, ?_⟩; · (unfold Rg.callSpec; go_simp; (refine (HC2.out x7 (grownBy_trans K6 mx7)).mono ?_; rintro e w' ⟨v, rfl, o, g⟩; exact ⟨v, rfl, o.rd, g⟩)))
          clear dx7
          rintro v7 y7 ⟨R7, g7'⟩
          refine ⟨g7', ?_⟩
          simp only [Act.put, List.setIfInBounds_toArray, List.set_cons_zero, List.set_cons_succ]
          (refine Rg.tree_call rfl rfl rfl ?_; intro x8 mx8 dx8; refine ⟨?_, ?_⟩; · (unfold Rg.callSpec; go_simp; (refine (sameLines_c v3 v7 AL x8 (RdL.same R3 (dx8.out 3 (by omega) (by kernel_rfl))) (RdL.same R7 (dx8.out 7 (by omega) (by kernel_rfl)))).mono ?_; rintro e w' ⟨rfl, g⟩; exact ⟨_, rfl, rfl, g⟩)))
          clear dx8
          rintro v8 y8 ⟨rfl, g8'⟩
          refine ⟨g8', ?_⟩
          simp only [Act.put, List.setIfInBounds_toArray, List.set_cons_zero, List.set_cons_succ]
          (refine Rg.tree_quiet 1 rfl (by first | exact Or.inl rfl | exact Or.inr rfl) ?_; simp only [List.take, List.drop, List.length_cons, List.length_nil, List.replicate, Nat.reduceAdd]; (try simp only [List.cons_append]); (try simp only [List.nil_append]); (repeat (go_big_quiet_step (fail))); refine wpQuiet_nil ?_)
          (refine Rg.tree_nil ?_; intro z mz dz cz)
          clear dz cz
          go_wp2_with fail
          exact ⟨⟨k + 1, by omega, by go_num, grownBy_trans hgk (grownBy_trans K6 mz)⟩, by simp [intOf]; omega⟩
        · go_wp2_with fail
          exact ⟨⟨i + 1, by omega, by go_num, grownBy_trans hg (grownBy_trans g8 hgk)⟩, by simp [intOf]; omega⟩
    · go_wp2_with (go_at_call 4; refine (awake34_c _).mono ?_; rintro e w9 ⟨rfl, g9⟩)
      go_ret
      exact retBool rfl (grownBy_trans HG6.out (grownBy_trans g7 (grownBy_trans hg g9)))
end Go.Proofs.Ytkdbapbmbhmaiaa

/- Arguments that come in: slices of ints. -/
namespace Go.Proofs.Ytkdbapbmbhmaiaa
open Go.RowKit

theorem own : ownKnob Try.prog.godebug = none := by kernel_rfl
theorem laidOut : laidOutB Try.prog = true := by kernel_rfl

/-- A slice of integers that came in: it is nil; or it leads to a row of 'cap' cells, the numbers 'zs' (the first 'len' are its elements), each fitting its kind. -/
def IsRow (k : IntKind) (w : World) (a : Option Addr) (len cap : Nat) (zs : List Int) : Prop :=
  (a = none ∧ len = 0 ∧ cap = 0 ∧ zs = []) ∨
  ∃ x, a = some x ∧ len ≤ cap ∧ cap ≤ maxLen ∧ zs.length = cap ∧ (∀ i, i < zs.length → w.cell? (x.add i) = some (.int k (zs.getD i 0))) ∧ ∀ n ∈ zs, (Lit.int k n).wf = true

theorem IsRow.rd {k : IntKind} {w : World} {a : Option Addr} {len cap : Nat} {zs : List Int} (h : IsRow k w a len cap zs) : Rd w 1 (.slice a len cap) len ((zs.take len).map (fun x => Value.int k x)) := by
  rcases h with ⟨rfl, rfl, rfl, rfl⟩ | ⟨x, rfl, h1, h2, h3, h4, h5⟩
  · exact ⟨by simp, by omega, .inl ⟨rfl, _, _, rfl⟩⟩
  · have hm : len ≤ 9223372036854775807 := by unfold maxLen at h2; omega
    rcases Nat.eq_zero_or_pos len with rfl | h0
    · exact ⟨by simp, by omega, .inl ⟨rfl, _, _, rfl⟩⟩
    · obtain ⟨b, off, spot⟩ := x
      have hc := h4 0 (by omega)
      cases spot with
      | some s =>
        exfalso
        unfold Addr.add at hc
        simp [World.cell?] at hc
        split at hc <;> simp_all
      | none =>
        refine ⟨by simp; omega, hm, .inr ⟨b, off, cap, rfl, block_lt_of_cell hc, fun j u hu => ?_⟩⟩
        have hj : j < len := by
          have := (List.getElem?_eq_some_iff.1 hu).1
          simp at this; omega
        have := h4 j (by omega)
        have ha : (⟨b, off, none⟩ : Addr).add j = ⟨b, off + j, none⟩ := by unfold Addr.add; split <;> simp_all
        rw [ha] at this
        rw [this, ← hu]
        simp [hj, List.getElem?_eq_getElem (show j < zs.length by omega)]
end Go.Proofs.Ytkdbapbmbhmaiaa

/- Arguments that come in: slices of ints and of words, read as lists. -/
namespace Go.Proofs.Ytkdbapbmbhmaiaa
open Go.RowKit

theorem IsRow.len_take {k : IntKind} {w : World} {a : Option Addr} {len cap : Nat} {zs : List Int} (h : IsRow k w a len cap zs) : (zs.take len).length = len := by
  rcases h with ⟨_, rfl, _, rfl⟩ | ⟨x, _, h1, _, h3, _⟩
  · rfl
  · rw [List.length_take]; omega
theorem IsRow.rdI {w : World} {a : Option Addr} {len cap : Nat} {zs : List Int} (h : IsRow .i64 w a len cap zs) : RdL intF 1 w (.slice a len cap) (zs.take len) := by
  have e := h.len_take
  have h2 := h.rd
  unfold RdL
  rw [e, show cellsOf intF (zs.take len) = _ from cells_int _]
  exact h2
theorem IsRow.rdW {w : World} {a : Option Addr} {len cap : Nat} {zs : List Int} (h : IsRow .u64 w a len cap zs) : RdL wordF 1 w (.slice a len cap) (zs.take len) := by
  have e := h.len_take
  have h2 := h.rd
  unfold RdL
  rw [e, show cellsOf wordF (zs.take len) = _ from cells_word _]
  exact h2
theorem IsRow.wf {k : IntKind} {w : World} {a : Option Addr} {len cap : Nat} {zs : List Int} (h : IsRow k w a len cap zs) : ∀ x ∈ zs.take len, (Lit.int k x).wf = true := by
  intro x hx
  rcases h with ⟨_, rfl, _, rfl⟩ | ⟨_, _, _, _, _, _, h5⟩
  · simp at hx
  · exact h5 x (List.mem_of_mem_take hx)
end Go.Proofs.Ytkdbapbmbhmaiaa

/- Arguments that come in, opened: structs of one-cell fields, slices of whatever elements; reports. -/
namespace Go.Proofs.Ytkdbapbmbhmaiaa
open Go.RowKit Go.WideShapes Go.ChangeShapes Go.Deep

section
variable {H : Type} {enc : TypeId × Value → H} {P : Program} {w : World} {base : Nat} {spare : Nat → Bool} {held : Bool}
theorem open_fields {t : TypeId} {fs : Array Field} {fuel : Nat} {cs : List Value} {x : DataW H × List MemPlace} (ht : P.underlying t = some (.struct fs)) (hone : oneCellFields P fs = true) (hC : P.cellsOf t = fs.size)
    (h : DataW.trod enc P w base spare held fuel t cs = some x) : cs.length = fs.size ∧ ∃ n, ∀ (i : Nat) (f : Field), fs[i]? = some f → ∃ c y, cs[i]? = some c ∧ DataW.trod enc P w base spare held n f.type [c] = some y := by
  obtain ⟨xs, n, _, _, hl, hlen, hf⟩ := DataW.trod_struct ht h
  refine ⟨hl.trans hC, n, fun i f hi => ?_⟩
  have hi2 : i < fs.size := (Array.getElem?_eq_some_iff.1 hi).1
  obtain ⟨o, k⟩ := hone_of hone i f hi
  have h1 := hf i f hi
  have hi3 : i < cs.length := by rw [hl, hC]; exact hi2
  have hi4 : i < xs.length := by rw [hlen]; exact hi2
  rw [o, k, List.getElem?_eq_getElem hi4] at h1
  have e : (cs.drop i).take 1 = [cs[i]] := by
    rw [List.take_one, List.head?_drop, List.getElem?_eq_getElem hi3]; rfl
  rw [e] at h1
  exact ⟨cs[i], xs[i], List.getElem?_eq_getElem hi3, h1⟩
theorem open_elems {α : Type} [Inhabited α] (f : α → List Value) (s : Nat) {t e : TypeId} (ht : P.underlying t = some (.slice e)) (hC : P.cellsOf e = s) (hpos : 0 < s) (hs : ∀ x, (f x).length = s) (Ok : α → Prop)
    (hel : ∀ n cs y, DataW.trod enc P w base spare held n e cs = some y → ∃ x, cs = f x ∧ Ok x) {fuel : Nat} {cs : List Value} {x : DataW H × List MemPlace} (h : DataW.trod enc P w base spare held fuel t cs = some x) :
    ∃ a len cap, ∃ l : List α, cs = [.slice a len cap] ∧ l.length = len ∧ len ≤ cap ∧ RdL f s w (.slice a len cap) l ∧ ∀ x ∈ l, Ok x := by
  rcases open_slice ht h with ⟨rfl, _⟩ | ⟨a, len, cap, m, n, D, Pl, rfl, _, hl, hm, hmm, _, hx⟩
  · exact ⟨none, 0, 0, [], rfl, rfl, Nat.le_refl _, ⟨by simp [cellsOf], by simp, .inl ⟨rfl, none, 0, rfl⟩⟩, by simp⟩
  · have hml : len ≤ m := by rw [hmm]; split <;> omega
    have hm63 : len ≤ 9223372036854775807 := by unfold maxLen at hm; omega
    obtain ⟨V, hV⟩ := choose_lt (α := α) (n := len) (p := fun i y => w.cells? base (a.add (i * P.cellsOf e)) (P.cellsOf e) = some (f y) ∧ Ok y) (fun i hi => by
      obtain ⟨cs', h1, h2⟩ := hx i (by omega)
      obtain ⟨y, rfl, hy⟩ := hel _ _ _ h2
      exact ⟨y, h1, hy⟩)
    have hlen : ((List.range len).map V).length = len := by simp
    refine ⟨some a, len, cap, (List.range len).map V, rfl, hlen, hl, ?_, fun y hy => ?_⟩
    · rcases Nat.eq_zero_or_pos len with h0 | h0
      · subst h0
        exact ⟨by simp [cellsOf], by simp, .inl ⟨by simp, some a, cap, by simp⟩⟩
      · obtain ⟨b, off, spot⟩ := a
        have hc0 := (World.cells?_some (hV 0 h0).1).2.2 0 (by rw [hC]; exact hpos)
        have hf0 : 0 < (f (V 0)).length := by rw [hs]; exact hpos
        rw [List.getElem?_eq_getElem hf0] at hc0
        cases spot with
        | some q =>
          exfalso
          unfold Addr.add at hc0
          simp [World.cell?] at hc0
          split at hc0 <;> simp_all
        | none =>
          have hadd : ∀ o i, (⟨b, o, none⟩ : Addr).add i = ⟨b, o + i, none⟩ := fun o i => by unfold Addr.add; split <;> simp_all
          refine ⟨length_cellsOf f s hs _, by rw [hlen]; exact hm63, .inr ⟨b, off, cap, by rw [hlen], ?_, fun j u hu => ?_⟩⟩
          · rw [hadd, hadd] at hc0
            exact block_lt_of_cell hc0
          · have hj : j < len * s := by
              have := (List.getElem?_eq_some_iff.1 hu).1
              rwa [length_cellsOf f s hs, hlen] at this
            have hq : j / s < len := Nat.div_lt_of_lt_mul (by rw [Nat.mul_comm]; exact hj)
            have hr : j % s < s := Nat.mod_lt _ hpos
            have he : j / s * s + j % s = j := Nat.div_add_mod' j s
            have h1 := (World.cells?_some (hV (j / s) hq).1).2.2 (j % s) (by rw [hC]; exact hr)
            rw [hadd, hadd, hC] at h1
            have h2 := get_cellsOf f s hs ((List.range len).map V) (j / s) (j % s) hr (V (j / s)) (by simp [hq])
            rw [he] at h2
            rw [← he, ← Nat.add_assoc, h1, ← h2, hu]
    · obtain ⟨i, hi, rfl⟩ := List.mem_map.1 hy
      exact (hV i (List.mem_range.1 hi)).2
/-- A slice of integers. -/
theorem open_elems_int {k : IntKind} {t e : TypeId} (ht : P.underlying t = some (.slice e)) (he : P.underlying e = some (.int k)) (hC : P.cellsOf e = 1) {fuel : Nat} {cs : List Value} {x : DataW H × List MemPlace} (h : DataW.trod enc P w base spare held fuel t cs = some x) :
    ∃ a len cap, ∃ l : List Int, cs = [.slice a len cap] ∧ l.length = len ∧ len ≤ cap ∧ RdL (fun n => [Value.int k n]) 1 w (.slice a len cap) l ∧ ∀ n ∈ l, (Lit.int k n).wf = true :=
  open_elems (fun n => [Value.int k n]) 1 ht hC (by omega) (fun _ => rfl) (fun n => (Lit.int k n).wf = true) (fun n cs y h => by obtain ⟨m, h1, _, h2⟩ := DataW.trod_int he h; exact ⟨m, h1, h2⟩) h
/-- A struct by value: its cells, one a field. -/
theorem open_agg {r : Reach} {b0 : Nat} {t : TypeId} {fs : Array Field} {v : Value} {d : DataW H} {p : List MemPlace} (ht : P.underlying t = some (.struct fs)) (hone : oneCellFields P fs = true) (hC : P.cellsOf t = fs.size)
    (hv : Value.okWide P w r b0 t v) (h : DataW.Trod enc P w base spare held t v d p) :
    ∃ cs : Array Value, v = .agg cs ∧ cs.size = fs.size ∧ ∃ n, ∀ (i : Nat) (f : Field), fs[i]? = some f → ∃ c y, cs[i]? = some c ∧ DataW.trod enc P w base spare held n f.type [c] = some y := by
  obtain ⟨cs, rfl, hsz⟩ := okWide_struct ht hv
  obtain ⟨fuel, hf⟩ := h
  obtain ⟨_, n, hh⟩ := open_fields ht hone hC hf
  exact ⟨cs, rfl, hsz.trans hC, n, fun i f hi => by obtain ⟨c, y, h1, h2⟩ := hh i f hi; exact ⟨c, y, by simpa [Value.cells] using h1, h2⟩⟩
theorem array7 {α : Type} {cs : Array α} (h : cs.size = 7) : ∃ a b c d e f g, cs = #[a, b, c, d, e, f, g] := by
  obtain ⟨l⟩ := cs
  match l, h with
  | [a, b, c, d, e, f, g], _ => exact ⟨a, b, c, d, e, f, g, rfl⟩
theorem list3 {α : Type} {l : List α} (h : l.length = 3) : ∃ a b c, l = [a, b, c] := by
  match l, h with
  | [a, b, c], _ => exact ⟨a, b, c, rfl⟩
end

theorem fields_lineO : ∃ fs, Try.prog.underlying 46 = some (.struct fs) ∧ oneCellFields Try.prog fs = true ∧ Try.prog.cellsOf 46 = fs.size ∧ fs.size = 3 ∧ (fs[0]?).map (·.type) = some 9 ∧ (fs[1]?).map (·.type) = some 25 ∧ (fs[2]?).map (·.type) = some 25 :=
  ⟨_, Try.underlying46, by kernel_rfl, by kernel_rfl, rfl, rfl, rfl, rfl⟩
theorem fields_rep : ∃ fs, Try.prog.underlying 48 = some (.struct fs) ∧ oneCellFields Try.prog fs = true ∧ Try.prog.cellsOf 48 = fs.size ∧ fs.size = 7 ∧ (fs[0]?).map (·.type) = some 3 ∧ (fs[1]?).map (·.type) = some 25 ∧ (fs[2]?).map (·.type) = some 36 ∧
    (fs[3]?).map (·.type) = some 25 ∧ (fs[4]?).map (·.type) = some 3 ∧ (fs[5]?).map (·.type) = some 25 ∧ (fs[6]?).map (·.type) = some 27 :=
  ⟨_, Try.underlying48, by kernel_rfl, by kernel_rfl, rfl, rfl, rfl, rfl, rfl, rfl, rfl, rfl⟩
theorem maxLen_lt {n : Nat} (h : n ≤ maxLen) : n ≤ 9223372036854775807 := by unfold maxLen at h; omega
section
variable {H : Type} {enc : TypeId × Value → H} {w : World} {base : Nat} {spare : Nat → Bool} {held : Bool}
instance : Inhabited Ln := ⟨⟨ByteArray.empty, 0, 0⟩⟩
theorem some_map {α β : Type} {o : Option α} {g : α → β} {b : β} (h : o.map g = some b) : ∃ x, o = some x ∧ g x = b := by
  cases o with
  | none => cases h
  | some x => exact ⟨x, rfl, by simpa using h⟩
theorem open_line {n : Nat} {cs : List Value} {y : DataW H × List MemPlace} (h : DataW.trod enc Try.prog w base spare held n 46 cs = some y) : ∃ x : Ln, cs = lnF x ∧ LnW x := by
  obtain ⟨fs, h1, h2, h3, h4, f0, f1, f2⟩ := fields_lineO
  obtain ⟨hl, m, hf⟩ := open_fields h1 h2 h3 h
  obtain ⟨a, b, c, rfl⟩ := list3 (hl.trans h4)
  obtain ⟨g0, e0, t0⟩ := some_map f0
  obtain ⟨g1, e1, t1⟩ := some_map f1
  obtain ⟨g2, e2, t2⟩ := some_map f2
  obtain ⟨c0, y0, k0, r0⟩ := hf 0 g0 e0
  obtain ⟨c1, y1, k1, r1⟩ := hf 1 g1 e1
  obtain ⟨c2, y2, k2, r2⟩ := hf 2 g2 e2
  simp at k0 k1 k2
  subst k0 k1 k2
  rw [t0] at r0; rw [t1] at r1; rw [t2] at r2
  obtain ⟨s, q0, _, s0⟩ := DataW.trod_string Try.underlying9 r0
  obtain ⟨lo, q1, _, s1⟩ := DataW.trod_int Try.underlying25 r1
  obtain ⟨hi, q2, _, s2⟩ := DataW.trod_int Try.underlying25 r2
  simp at q0 q1 q2
  subst q0 q1 q2
  exact ⟨⟨s, lo, hi⟩, rfl, w64_wf s1, w64_wf s2, maxLen_lt s0⟩
-- A report that came in.
set_option maxRecDepth 100000 in
theorem open_rep {r : Reach} {b0 : Nat} {v : Value} {d : DataW H} {p : List MemPlace} (hv : Value.okWide Try.prog w r b0 48 v) (h : DataW.Trod enc Try.prog w base spare held 48 v d p) :
    ∃ x : Rep, v = repV x.win x.tot x.vl x.over x.trk x.rest x.vr ∧ RepRd w x ∧ RepW x := by
  obtain ⟨fs, h1, h2, h3, h4, f0, f1, f2, f3, f4, f5, f6⟩ := fields_rep
  obtain ⟨cs, rfl, hl, m, hf⟩ := open_agg h1 h2 h3 hv h
  obtain ⟨a0, a1, a2, a3, a4, a5, a6, rfl⟩ := array7 (hl.trans h4)
  obtain ⟨g0, e0, t0⟩ := some_map f0
  obtain ⟨g1, e1, t1⟩ := some_map f1
  obtain ⟨g2, e2, t2⟩ := some_map f2
  obtain ⟨g3, e3, t3⟩ := some_map f3
  obtain ⟨g4, e4, t4⟩ := some_map f4
  obtain ⟨g5, e5, t5⟩ := some_map f5
  obtain ⟨g6, e6, t6⟩ := some_map f6
  obtain ⟨c0, y0, k0, r0⟩ := hf 0 g0 e0
  obtain ⟨c1, y1, k1, r1⟩ := hf 1 g1 e1
  obtain ⟨c2, y2, k2, r2⟩ := hf 2 g2 e2
  obtain ⟨c3, y3, k3, r3⟩ := hf 3 g3 e3
  obtain ⟨c4, y4, k4, r4⟩ := hf 4 g4 e4
  obtain ⟨c5, y5, k5, r5⟩ := hf 5 g5 e5
  obtain ⟨c6, y6, k6, r6⟩ := hf 6 g6 e6
  clear hf
  simp at k0 k1 k2 k3 k4 k5 k6
  subst k0 k1 k2 k3 k4 k5 k6
  rw [t0] at r0; rw [t1] at r1; rw [t2] at r2; rw [t3] at r3; rw [t4] at r4; rw [t5] at r5; rw [t6] at r6
  obtain ⟨win, q0, _, s0⟩ := DataW.trod_int Try.underlying3 r0
  obtain ⟨tot, q1, _, s1⟩ := DataW.trod_int Try.underlying25 r1
  obtain ⟨la, ln, lc, ls, q2, hln, hlc, hlr, hlw⟩ := open_elems lnF 3 Try.underlying36 (by kernel_rfl) (by omega) lnF_len LnW (fun n cs y h => open_line h) r2
  obtain ⟨ov, q3, _, s3⟩ := DataW.trod_int Try.underlying25 r3
  obtain ⟨trk, q4, _, s4⟩ := DataW.trod_int Try.underlying3 r4
  obtain ⟨rst, q5, _, s5⟩ := DataW.trod_int Try.underlying25 r5
  obtain ⟨ra, rn, rc, rj, q6, hrn, hrc, hrr, hrw⟩ := open_elems_int (k := .u64) Try.underlying27 Try.underlying25 (by kernel_rfl) r6
  simp at q0 q1 q2 q3 q4 q5 q6
  subst q0 q1 q2 q3 q4 q5 q6
  refine ⟨⟨win, tot, _, ov, trk, rst, _, ls, rj⟩, rfl, ⟨hlr, hrr, fun a n c e => by cases e; exact hlc, fun a n c e => by cases e; exact hrc⟩, ?_, w64_wf s1, w64_wf s3, ?_, w64_wf s5, hlw, fun n hn => w64_wf (hrw n hn)⟩
  · have := bounds_i64 s0; unfold I64; simp only; omega
  · have := bounds_i64 s4; unfold I64; simp only; omega
end
end Go.Proofs.Ytkdbapbmbhmaiaa

/- Bytes that come in, opened. -/
namespace Go.Proofs.Ytkdbapbmbhmaiaa
open Go.RowKit Go.WideShapes Go.ChangeShapes Go.Deep

theorem byte_of {n : Int} (h : (Lit.int .u8 n).wf = true) : ∃ b : UInt8, n = (b.toNat : Int) := by
  have := bounds_u8 h
  exact ⟨UInt8.ofNat n.toNat, by rw [UInt8.toNat_ofNat']; omega⟩
section
variable {H : Type} {enc : TypeId × Value → H} {P : Program} {w : World} {base : Nat} {spare : Nat → Bool} {held : Bool}
theorem open_bytes {t e : TypeId} (ht : P.underlying t = some (.slice e)) (he : P.underlying e = some (.int .u8)) (hC : P.cellsOf e = 1) {fuel : Nat} {cs : List Value} {x : DataW H × List MemPlace} (h : DataW.trod enc P w base spare held fuel t cs = some x) :
    ∃ a len cap, ∃ l : List UInt8, cs = [.slice a len cap] ∧ l.length = len ∧ len ≤ cap ∧ RdL byF 1 w (.slice a len cap) l := by
  obtain ⟨a, len, cap, l, h1, h2, h3, h4, _⟩ := open_elems byF 1 ht hC (by omega) byF_len (fun _ => True) (fun n cs y h => by obtain ⟨m, h1, _, h2⟩ := DataW.trod_int he h; obtain ⟨b, rfl⟩ := byte_of h2; exact ⟨b, h1, trivial⟩) h
  exact ⟨a, len, cap, l, h1, h2, h3, h4⟩
end
end Go.Proofs.Ytkdbapbmbhmaiaa
