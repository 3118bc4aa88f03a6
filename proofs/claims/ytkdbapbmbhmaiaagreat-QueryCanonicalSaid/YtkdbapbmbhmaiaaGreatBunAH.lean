/- Several texts in one file; each begins with a comment that says what is proved in it. -/
import Derived.Test.YtkdbapbmbhmaiaaGreatBunAG
import Derived.Test.YtkdbapbmbhmaiaaGreatBunAC
import Derived.OwnWalk
import Derived.Maps.Keyed
import Derived.Test.YtkdbapbmbhmaiaaGreatBunAE
import Derived.Laws.Bits128
import Derived.Sort.Walk0
import Derived.Test.YtkdbapbmbhmaiaaGreatBunAD
import Derived.Test.YtkdbapbmbhmaiaaGreatShelf

/- Questions to a cluster that is new: nothing is queued, nothing is tracked. -/
namespace Go.Proofs.YtkdbapbmbhmaiaaGreat
open Go.RowKit Go.Sort Go.Maps
attribute [local go_sem ↓] exec_load_cfg
attribute [local go_sem] run_loadCfgS

theorem lookup_empty {H : Type} {P : Program} {k : TypeId} {R : Value → Option (DataW H × List MemPlace)} {w : World} {b : Nat} {D : DataW H} {t e : TypeId} (h : w.ownsMap P k R b 0 D) (K : Keyed P k) (ht : P.underlying t = some (.map k e)) {z : Value} (hz : (zeroValue e).run P w = .ok z w)
    {key : Value} {kl : Lit} (hkey : keyOf P k key = some kl) : (Instr.lookup t (.map (some b)) key false).run P w = .ok z w := by
  obtain ⟨es, clock, hb, F, hs, _⟩ := h
  rcases Maps.fit_look false K ht hz hb F hkey with ⟨hrun, _, _⟩ | ⟨e0, y, he, _⟩
  · exact hrun
  · have : es = #[] := Array.eq_empty_of_size_eq_zero (by omega)
    subst this; simp at he
theorem wpList_lookup_empty {H : Type} {P : Program} {k : TypeId} {R : Value → Option (DataW H × List MemPlace)} (w : World) {ops : Array Oper} {rest : List Oper} {o : Oper} {a : Act} {Q : Exit → Act → World → Prop}
    (hg : o.guard = none) (m x : Operand) (t : TypeId) (hop : o.op = Op.lookup t m x false) {e : TypeId} (K : Keyed P k) (ht : P.underlying t = some (.map k e)) {z : Value} (hz : (zeroValue e).run P w = .ok z w) {b : Nat} {D : DataW H}
    (hm : a.eval m = .map (some b)) (hown : w.ownsMap P k R b 0 D) {key : Value} {kl : Lit} (hx : a.eval x = key) (hkey : keyOf P k key = some kl)
    (hK : wpList P ops Q rest (a.put o.dst z) w) : wpList P ops Q (o :: rest) a w := by
  refine wpList_plain hg fun K' hK' => ?_
  have hrun := lookup_empty hown K ht hz hkey
  unfold Oper.wp
  simp [execOp, hop, hm, hx, hrun, Result.andThen]
  exact hK' _ _ hK
theorem zeroTier (w : World) : (zeroValue 130).run Tryz.prog w = .ok (.pointer none) w := by kernel_rfl

theorem openNil_c (w : World) : Calls Tryz.prog 76 #[.pointer none] w fun e w' => e = .returned (.bool false) ∧ w' = w := by
  go_enter Tryz.func76, Tryz.ntmps76
  go_wp2_with fail
  go_ret
  exact ⟨rfl, rfl⟩
set_option maxHeartbeats 400000 in
theorem tierBNil_c (k : ByteArray) (w : World) : Calls Tryz.prog 61 #[.pointer none, .string k] w (RetVal (.tuple #[bndV 0 0, .bool false]) w) := by
  go_enter Tryz.func61, Tryz.ntmps61
  go_wp2_with (go_at_call 76; refine (openNil_c _).mono ?_; rintro e w' ⟨rfl, hw'⟩; subst w')
  refine bodyPost_ret (v := .tuple #[bndV 0 0, .bool false]) (by simp [results, Tryz.results61, go_sem]) rfl ?_
  exact retVal rfl (by (repeat (first | exact grownBy_refl _ _ | assumption | refine grownBy_new_block ?_ _ | refine grownBy_drew ?_ | refine grownBy_drewN ?_ _ | refine grownBy_setNew ?_ (by first | (simp; done) | omega | (simp; omega)) _)))
section
variable {ga gp : Nat} {c : Cfg} {g gq gl gm : Nat}
theorem shTier_c (n : Int) (w : World) (h : ShardNew w ga gp c g gq gl gm) (hn : I64 n) : Calls Tryz.prog 60 #[.pointer (some ⟨g, 0, none⟩), .int .i64 n] w fun e w' => e = .returned (.pointer none) ∧ w' = w := by
  have b := h.blk.cell
  have hkey := keyOf_int_mk Tryz.underlying3 (wf_i64 hn.1 hn.2)
  have hown := h.own
  clear h
  go_enter Tryz.func60, Tryz.ntmps60
  go_wp2_with (at_lookup; refine wpList_lookup_empty _ rfl _ _ 108 rfl keyI Tryz.underlying108 (zeroTier _) rfl hown rfl hkey ?_)
  go_ret
  exact ⟨rfl, rfl⟩
theorem shBounds_c (n : Int) (k : ByteArray) (w : World) (h : ShardNew w ga gp c g gq gl gm) (hn : I64 n) : Calls Tryz.prog 46 #[.pointer (some ⟨g, 0, none⟩), .int .i64 n, .string k] w (RetVal (.tuple #[bndV 0 0, .bool false]) w) := by
  have H := Lib.hid fun w' (h' : World.grownBy w w' none) => shTier_c n w' (h.same h') hn
  go_enter Tryz.func46, Tryz.ntmps46
  go_wp2_with (first
    | (go_at_call 60; refine (H.out _ (World.grownBy_alloc w _ none)).mono ?_; rintro e w' ⟨rfl, hw'⟩; subst w')
    | (go_at_call 61; refine (tierBNil_c k _).mono ?_; rintro e w3 ⟨rfl, g3⟩; have b3 := ((Blk.new w #[.int .u64 0, .int .u64 0] 39).same g3); have c3 := b3.cell; have f3 := b3.free))
  have G4 := grownBy_setNew (p := ⟨w.heap.size, 1, none⟩) (grownBy_setNew (p := ⟨w.heap.size, 0, none⟩) (grownBy_trans (World.grownBy_alloc w _ none) g3) (Nat.le_refl _) (.int .u64 0)) (Nat.le_refl _) (.int .u64 0)
  have rc := ((b3.set_ 0 (.int .u64 0) (cs' := #[.int .u64 0, .int .u64 0]) rfl).set_ 1 (.int .u64 0) (cs' := #[.int .u64 0, .int .u64 0]) rfl).cell
  refine bodyPost_ret (v := .tuple #[bndV 0 0, .bool false]) (by simp [results, Tryz.results46, go_sem, rc]) rfl ?_
  exact retVal rfl G4

/-- Nothing waits in a new queue. -/
theorem quWeight_c (n : Int) (k : ByteArray) (w : World) (h : ShardNew w ga gp c g gq gl gm) (hq : 1 ≤ c.Queue ∧ c.Queue ≤ 64) : Calls Tryz.prog 63 #[.pointer (some ⟨gq, 0, none⟩), .int .i64 n, .string k] w (RetWord 0 w) := by
  have b := h.que.cell
  have hlt := h.que.lt
  obtain ⟨q, hq2⟩ : ∃ q, c.Queue.toNat = q := ⟨_, rfl⟩
  rw [hq2] at b
  have hq3 : q ≤ 64 := by omega
  clear h hq2 hq
  go_enter Tryz.func63, Tryz.ntmps63
  go_upto_region 4 with fail
  go_quiet (fail)
  go_wp2_with fail
  go_loopw [24, 7] (fun s24 s7 wk => s24 = .int .i64 0 ∧ s7 = .int .u64 0 ∧ wk = w.drewN nq) (fun _ _ _ => 0)
  case atStart => exact ⟨rfl, rfl, rfl⟩
  obtain ⟨rfl, rfl, rfl⟩ := hrel
  go_wp2_with fail
  go_ret
  exact ⟨rfl, (by (repeat (first | exact grownBy_refl _ _ | assumption | refine grownBy_new_block ?_ _ | refine grownBy_drew ?_ | refine grownBy_drewN ?_ _ | refine grownBy_setNew ?_ (by first | (simp; done) | omega | (simp; omega)) _)))⟩
theorem shQueued_c (n : Int) (k : ByteArray) (w : World) (h : ShardNew w ga gp c g gq gl gm) (hq : 1 ≤ c.Queue ∧ c.Queue ≤ 64) : Calls Tryz.prog 49 #[.pointer (some ⟨g, 0, none⟩), .int .i64 n, .string k] w (RetWord 0 w) := by
  have H := Lib.hid (quWeight_c n k w h hq)
  have b := h.blk.cell
  clear h
  go_enter Tryz.func49, Tryz.ntmps49
  go_wp2_with (go_at_call 63; refine H.out.mono ?_; rintro e w3 ⟨rfl, g3⟩)
  go_ret
  exact ⟨rfl, g3⟩
end

theorem CluNew.same {B : Nat} {w w' : World} {c : Cfg} {l : List (Int × Int)} {t : List Int} {g ga gp : Nat} {vs vl : Value} {sl : List Nat} (h : CluNew B w c l t g ga gp vs vl sl) (k : w.grownBy w' none) : CluNew B w' c l t g ga gp vs vl sl :=
  ⟨h.blk.same k, h.nums, h.mem.same k, h.cls, h.own.same k, fun b hb => by obtain ⟨gq, gl, gm, hs⟩ := h.sh b hb; exact ⟨gq, gl, gm, hs.same k⟩⟩
section
variable {B : Nat} {c : Cfg} {l : List (Int × Int)} {t : List Int} {g ga gp : Nat} {vs vl : Value} {sl : List Nat}
theorem cluMark_c (w : World) (h : CluNew B w c l t g ga gp vs vl sl) : Calls Tryz.prog 26 #[.pointer (some ⟨g, 0, none⟩)] w fun e w' => e = .returned (.int .i64 0) ∧ w' = w := by
  have b := h.blk.cell 23
  clear h
  go_enter Tryz.func26, Tryz.ntmps26
  go_wp2_with fail
  go_ret
  exact ⟨rfl, rfl⟩
theorem own_one {α : Type} {f : α → List Value} {s : Nat} {e : TypeId} {B : Nat} {w : World} {v : Value} {l : List α} (h : Own f s e B w v l) : v.oneCell' = true := by
  obtain ⟨_, _, rfl⟩ := h.shape; rfl
def ConfRet (c : Cfg) (l : List (Int × Int)) (t : List Int) (w : World) (e : Ending) (w' : World) : Prop :=
  ∃ v1 v2, e = .returned (c.with v1 v2).val ∧ RdL clsF 2 w' v1 l ∧ RdL wordF 1 w' v2 t ∧ w.grownBy w' none
set_option maxHeartbeats 1000000 in
theorem cluConfig_c (w : World) (h : CluNew B w c l t g ga gp vs vl sl) : Calls Tryz.prog 24 #[.pointer (some ⟨g, 0, none⟩)] w (ConfRet c l t w) := by
  have H := Lib.hid h
  have HC := Lib.hid fun y (k : w.grownBy y none) => cluClone_c c l t y (h.mem.classes.same k) (h.mem.table.same k) h.cls.ok.len h.mem.tlen
  have hg := h.blk.lt
  clear h
  go_enter Tryz.func24, Tryz.ntmps24
  go_upto_region 1 with (refine alloc_cfg rfl rfl ?_; intro w2 B2 G2 z2)
  have CX := cfgIn_clA (H.out.same G2).blk
  have hg2 := (H.out.same G2).blk.lt
  go_wp2_with (first
    | (refine load_cfg_at rfl _ rfl g 0 rfl c CX ?_)
    | (go_at_call 11; refine (HC.out _ G2).mono ?_; rintro e w3 ⟨v1, v2, rfl, O1, O2, g3⟩; have B3 := B2.same g3; have oc1 := own_one O1; have oc2 := own_one O2)
    | (refine store_cfg rfl _ _ rfl _ rfl (c.with v1 v2) rfl oc1 oc2 Cfg.zero B3 ?_; intro w8 B8 G8))
  obtain ⟨tt, ff, hh, hff⟩ := B8.block
  refine bodyPost_ret (v := (c.with v1 v2).val) (results_cell_row rfl _ _ w.heap.size _ _ _ _ rfl hh Tryz.underlying31 rfl size_cfg) rfl ?_
  refine ⟨v1, v2, rfl, (O1.kept G8 fun k e h => ?_).rd, (O2.kept G8 fun k e h => ?_).rd, grownBy_new (grownBy_trans G2 g3) G8 (Nat.le_refl _)⟩
  · have := (O1.lt k e).1; simp at h; omega
  · have := (O2.lt k e).1; simp at h; omega

set_option maxHeartbeats 1000000 in
theorem cluQueued_c (n : Int) (k : ByteArray) (w : World) (h : CluNew B w c l t g ga gp vs vl sl) : Calls Tryz.prog 29 #[.pointer (some ⟨g, 0, none⟩), .int .i64 n, .string k] w (RetWord 0 w) := by
  have b := h.blk.cell 18
  have H := Lib.hid h
  obtain ⟨va, vc, hv⟩ := h.own.shape
  subst hv
  have hlen := h.own.len
  clear h
  go_enter Tryz.func29, Tryz.ntmps29
  go_upto_region 5 with fail
  go_loopw [17, 7] (fun s17 s7 wk => ∃ i : Nat, i ≤ sl.length ∧ s17 = .int .i64 i ∧ s7 = .int .u64 0 ∧ w.grownBy wk none) (fun s17 _ _ => sl.length - (match s17 with | .int _ q => q | _ => 0).toNat)
  case atStart => exact ⟨0, by omega, rfl, rfl, grownBy_refl _ _⟩
  case round =>
    obtain ⟨i, hi, rfl, rfl, hG⟩ := hrel
    have HG := Lib.hid hG
    clear hG b
    by_cases hlt : i < sl.length
    · obtain ⟨gx, ox, cx, hv, hgx, hcx⟩ := (H.out.own.same HG.out).rd.at_ shF_len hlt
      cases hv
      have c0 := hcx 0 _ rfl
      rw [Nat.mul_one, Nat.add_zero] at c0
      obtain ⟨gq, gl, gm, hs⟩ := H.out.sh sl[i] (List.getElem_mem hlt)
      have HS := Lib.hid (shQueued_c n k wr (hs.same HG.out) H.out.nums.queue)
      clear hcx hs
      generalize sl[i] = b at *
      go_wp2_with (first
        | (go_at_call 49; refine HS.out.mono ?_; rintro e w3 ⟨rfl, g3⟩)
        | (go_at_call 48; refine (satAdd_c 0 0 _ ⟨by omega, by omega⟩ ⟨by omega, by omega⟩).mono ?_; rintro e w' ⟨rfl, hw'⟩; subst hw'))
      exact ⟨⟨i + 1, by omega, by go_num, rfl, grownBy_trans HG.out g3⟩, by simp; omega⟩
    · go_wp2_with fail
      go_ret
      exact ⟨rfl, HG.out⟩

theorem setN_in2 {h m : Int} {n : Nat} (h1 : 1 ≤ m) : ∀ x ∈ setN h m n, 0 ≤ x ∧ x < m := by
  intro x hx
  obtain ⟨i, _, rfl⟩ := List.mem_map.1 hx
  exact ⟨Int.emod_nonneg _ (by omega), Int.emod_lt_of_pos _ (by omega)⟩
set_option maxHeartbeats 2000000 in
set_option maxRecDepth 100000 in
theorem cluBounds_c (n : Int) (k : ByteArray) (w : World) (h : CluNew B w c l t g ga gp vs vl sl) (hsl : (sl.length : Int) = c.Shards) (hn : I64 n) (hk : k.size ≤ 9223372036854775807) : Calls Tryz.prog 28 #[.pointer (some ⟨g, 0, none⟩), .int .i64 n, .string k] w (RetVal (.tuple #[bndV 0 0, .bool false]) w) := by
  have hsh := h.nums.shards
  have H := Lib.hid h
  obtain ⟨va, vc, hv⟩ := h.own.shape
  subst hv
  have hlen := h.own.len
  have hgl := h.blk.lt
  have HS := Lib.hid fun y (q : w.grownBy y none) => set_cN c t k y ((h.mem.same q).rcfg h.nums) hk
  have Hin := Lib.hid (p := ∀ x ∈ setF c t k, 0 ≤ x ∧ x < c.Shards) (setN_in2 hsh.1)
  generalize setF c t k = L at *
  clear h
  go_enter Tryz.func28, Tryz.ntmps28
  go_upto_region 5 with fail
  have D2 := (Blk.new w #[.int .u64 0, .int .u64 0] 39).same (World.grownBy_alloc _ (.cells #[.int .u64 0, .int .u64 0] 39) none)
  have E2 := Blk.new (w.alloc (.cells #[.int .u64 0, .int .u64 0] 39)) #[.int .u64 0, .int .u64 0] 39
  have G2 := grownBy_new_block (World.grownBy_alloc w (.cells #[.int .u64 0, .int .u64 0] 39) none) (.cells #[.int .u64 0, .int .u64 0] 39)
  simp only [World.size_alloc] at E2
  have hzw : w.heap.size + 1 < ((w.alloc (.cells #[.int .u64 0, .int .u64 0] 39)).alloc (.cells #[.int .u64 0, .int .u64 0] 39)).heap.size := by simp
  generalize (w.alloc (.cells #[.int .u64 0, .int .u64 0] 39)).alloc (.cells #[.int .u64 0, .int .u64 0] 39) = w2 at *
  have CX := cfgIn_clA (H.out.same G2).blk
  have hg2 := (H.out.same G2).blk.lt
  go_upto_region 6 with (first
    | (refine load_cfg_at rfl _ rfl g 0 rfl c CX ?_)
    | (go_at_call 45; refine (HS.out _ G2).mono ?_; rintro e w3 ⟨v3, rfl, R3, n3, g3⟩; (obtain ⟨sa, sc, rfl⟩ := R3.shape); have RX := R3.2.1))
  have K3 := grownBy_trans G2 g3
  have hw3 := K3.size
  have D3 := D2.same g3
  have E3 := E2.same g3
  have hz3 : w.heap.size + 1 < w3.heap.size := by have := g3.size; omega
  have HR := Lib.hid R3
  have HK := Lib.hid K3
  have HN := Lib.hid (p := ∀ a n k, Value.slice sa L.length sc = .slice (some a) n k → w.heap.size + 1 < a.block) (fun a n k e => by have := n3 a n k e; omega)
  clear n3
  clear D2 E2 G2 g3 CX R3 K3 hg2 hzw
  go_loopw [24, 9] (fun s24 s9 wk => ∃ i : Nat, i ≤ L.length ∧ s24 = .int .i64 i ∧ s9 = .bool false ∧ Blk wk w.heap.size #[.int .u64 0, .int .u64 0] ∧ Blk wk (w.heap.size + 1) #[.int .u64 0, .int .u64 0] ∧ w3.grownBy wk (some (w.heap.size + 1)) ∧ w.grownBy wk none) (fun s24 _ _ => L.length - (match s24 with | .int _ q => q | _ => 0).toNat)
  case atStart => exact ⟨0, by omega, rfl, rfl, D3, E3, grownBy_refl _ _, HK.out⟩
  case round =>
    clear D3 E3
    obtain ⟨i, hi, rfl, rfl, D, E, hG, hW⟩ := hrel
    by_cases hlt : i < L.length
    · obtain ⟨gx, ox, cx, hv, hgx, hcx⟩ := RdL.at_ (Rd.kept HR.out hG (fun b e a n k e2 => by have := HN.out a n k e2; simp at e; omega)) intF_len hlt
      cases hv
      have c0 := hcx 0 _ rfl
      rw [Nat.mul_one, Nat.add_zero] at c0
      obtain ⟨y0, y1⟩ := Hin.out L[i] (List.getElem_mem hlt)
      have yn : (L[i].toNat : Int) = L[i] := by omega
      have HLi := Lib.hid (show L[i].toNat < sl.length by omega)
      clear hcx
      generalize L[i] = x at *
      obtain ⟨j, rfl⟩ : ∃ j : Nat, x = j := ⟨x.toNat, by omega⟩
      have hj : j < sl.length := by simpa using HLi.out
      have C4 := H.out.same hW
      obtain ⟨gy, oy, cy, hv2, hgy, hcy⟩ := C4.own.rd.at_ shF_len hj
      cases hv2
      have d0 := hcy 0 _ rfl
      rw [Nat.mul_one, Nat.add_zero] at d0
      obtain ⟨gq, gl, gm, hs⟩ := H.out.sh sl[j] (List.getElem_mem hj)
      have HS2 := Lib.hid (shBounds_c n k wr (hs.same hW) hn)
      have b18 := C4.blk.cell 18
      have hgl4 := C4.blk.lt
      clear hcy hs C4
      generalize sl[j] = bs at *
      have HD := Lib.hid D
      have HE := Lib.hid E
      have HW := Lib.hid hW
      have HG := Lib.hid hG
      have hj2 : (j : Int) < sl.length := by omega
      clear D E hW hG
      go_upto_region 9 with (go_at_call 46; refine HS2.out.mono ?_; rintro e w5 ⟨rfl, g5⟩)
      have GA := World.grownBy_alloc w5 (.cells #[.int .u64 0, .int .u64 0] 39) none
      have E6 := (HE.out.same g5).same GA
      have D6 := (HD.out.same g5).same GA
      have X6 := Blk.new w5 #[.int .u64 0, .int .u64 0] 39
      have G6 := grownBy_trans HW.out (grownBy_trans g5 GA)
      have K6 := grownBy_trans HG.out (grownBy_some (grownBy_trans g5 GA) (some (w.heap.size + 1)))
      clear g5 GA HD HE HW HG b18
      generalize w5.alloc (.cells #[.int .u64 0, .int .u64 0] 39) = w6 at *
      generalize w5.heap.size = x6 at *
      have e6 := E6.cell
      have y6 := X6.cell
      go_wp2_with (go_at_call 47; refine (bAdd_c 0 0 0 0 _ ⟨by omega, by omega⟩ ⟨by omega, by omega⟩ ⟨by omega, by omega⟩ ⟨by omega, by omega⟩).mono ?_; rintro e w7 ⟨rfl, g7⟩; have e7 := (E6.same g7).cell; have f7 := (E6.same g7).free)
      have hs0 : satA 0 0 = 0 := rfl
      have GW : w7.grownBy ((w7.setCell ⟨w.heap.size + 1, 0, none⟩ (.int .u64 (satA 0 0))).setCell ⟨w.heap.size + 1, 1, none⟩ (.int .u64 (satA 0 0))) (some (w.heap.size + 1)) := grownBy_set (grownBy_set (grownBy_refl w7 _) _ _) _ _
      have EW := ((E6.same g7).set_ 0 (.int .u64 (satA 0 0)) (cs' := #[.int .u64 0, .int .u64 0]) rfl).set_ 1 (.int .u64 (satA 0 0)) (cs' := #[.int .u64 0, .int .u64 0]) rfl
      refine ⟨⟨i + 1, by omega, by go_num, rfl, (D6.same g7).kept GW (by simp), EW, grownBy_trans (grownBy_trans K6 (grownBy_some g7 _)) GW, grownBy_new (grownBy_trans G6 g7) GW (by omega)⟩, by simp; omega⟩
    · have d := D.cell
      have ed := E.cell
      have f := D.free
      go_wp2_with fail
      have G4 := grownBy_setNew (p := ⟨w.heap.size, 1, none⟩) (grownBy_setNew (p := ⟨w.heap.size, 0, none⟩) hW (Nat.le_refl _) (.int .u64 0)) (Nat.le_refl _) (.int .u64 0)
      have rc := ((D.set_ 0 (.int .u64 0) (cs' := #[.int .u64 0, .int .u64 0]) rfl).set_ 1 (.int .u64 0) (cs' := #[.int .u64 0, .int .u64 0]) rfl).cell
      refine bodyPost_ret (v := .tuple #[bndV 0 0, .bool false]) (by simp [results, Tryz.results28, go_sem, rc]) rfl ?_
      exact retVal rfl G4
end
end Go.Proofs.YtkdbapbmbhmaiaaGreat

/- Numbers as bytes: what Append appends. -/
namespace Go.Proofs.YtkdbapbmbhmaiaaGreat
open Go.RowKit Go.Sort

def byF (b : UInt8) : List Value := [.int .u8 b.toNat]
theorem byF_len (b : UInt8) : (byF b).length = 1 := rfl
theorem by_one (b : UInt8) : byF b = [Value.int .u8 b.toNat] := rfl
theorem one_by : OneF byF := by intro x u hu; simp [byF] at hu; subst hu; rfl
theorem elt_by : Elt 51 5 (.int .u8 0) 1 1 := ⟨Tryz.underlying51, by kernel_rfl, rfl, by decide⟩
/-- The bytes of a number. -/
def vb (n : Nat) : List UInt8 := if n < 128 then [UInt8.ofNat n] else UInt8.ofNat (n % 128 + 128) :: vb (n / 128)
termination_by n
decreasing_by omega
theorem vb_small {n : Nat} (h : n < 128) : vb n = [UInt8.ofNat n] := by rw [vb, if_pos h]
theorem vb_big {n : Nat} (h : ¬ n < 128) : vb n = UInt8.ofNat (n % 128 + 128) :: vb (n / 128) := by rw [vb, if_neg h]
theorem vb_len : ∀ (k n : Nat), n < 128 ^ (k + 1) → (vb n).length ≤ k + 1
  | 0, n, h => by rw [vb_small (by simpa using h)]; simp
  | k + 1, n, h => by
    by_cases hn : n < 128
    · rw [vb_small hn]; simp
    · rw [vb_big hn, List.length_cons]
      have := vb_len k (n / 128) (by rw [Nat.div_lt_iff_lt_mul (by omega)]; rw [Nat.pow_succ] at h; exact h)
      omega
theorem vb_ten {n : Nat} (h : n < 18446744073709551616) : (vb n).length ≤ 10 := vb_len 9 n (Nat.lt_trans h (by decide))
theorem by_wrap (n : Nat) : IntKind.u8.wrap (n : Int) = ((n % 256 : Nat) : Int) := by
  have := IntKind.wrap_u8 (n : Int)
  rw [this]; omega
theorem by_of {m : Nat} (h : m < 256) : ((UInt8.ofNat m).toNat : Int) = (m : Int) := by
  rw [UInt8.toNat_ofNat']
  omega
theorem by_or (n : Nat) : bits .or .u8 ((n % 256 : Nat) : Int) 128 = ((n % 128 + 128 : Nat) : Int) := by
  have key : ∀ m : Fin 256, bits .or .u8 (((m.val : Nat) : Int)) 128 = ((m.val % 128 + 128 : Nat) : Int) := by decide +kernel
  have := key ⟨n % 256, Nat.mod_lt _ (by omega)⟩
  simp only at this
  rw [this]
  omega

end Go.Proofs.YtkdbapbmbhmaiaaGreat

/- Tags: their order, their key: plain. -/
namespace Go.Proofs.YtkdbapbmbhmaiaaGreat
open Go.RowKit Go.Sort

structure TagR where
  (name value : ByteArray)
def tagF (t : TagR) : List Value := [.string t.name, .string t.value]
theorem tagF_len (t : TagR) : (tagF t).length = 2 := rfl
theorem one_tag : OneF tagF := by intro x u hu; simp [tagF] at hu; rcases hu with rfl | rfl <;> rfl
theorem elt_tag : Elt 35 76 (.agg #[.string ⟨#[]⟩, .string ⟨#[]⟩]) 2 32 := ⟨Tryz.underlying35, by kernel_rfl, rfl, by decide⟩
abbrev tagV (t : TagR) : Value := .agg #[.string t.name, .string t.value]
def nmB (t : TagR) : List UInt8 := t.name.data.toList
def vlB (t : TagR) : List UInt8 := t.value.data.toList
theorem nm_len (t : TagR) : (nmB t).length = t.name.size := Array.length_toList
theorem vl_len (t : TagR) : (vlB t).length = t.value.size := Array.length_toList
/-- The sizes fit. -/
def TagW (t : TagR) : Prop := t.name.size ≤ 9223372036854775807 ∧ t.value.size ≤ 9223372036854775807
def letB (b : UInt8) : Bool := (decide (97 ≤ b.toNat) && decide (b.toNat ≤ 122)) || (decide (48 ≤ b.toNat) && decide (b.toNat ≤ 57)) || decide (b.toNat = 95) || decide (b.toNat = 46) || decide (b.toNat = 45)
/-- The error of a tag. -/
def tagE (t : TagR) : Int := if (nmB t).all letB = false then 3 else if t.name.size = 0 then 3 else if 32 < t.name.size ∨ 64 < t.value.size then 4 else 0
theorem tagE_ok {t : TagR} (h : tagE t = 0) : (nmB t).all letB = true ∧ 0 < t.name.size ∧ t.name.size ≤ 32 ∧ t.value.size ≤ 64 := by
  unfold tagE at h
  by_cases h1 : (nmB t).all letB = false
  · rw [if_pos h1] at h; cases h
  rw [if_neg h1] at h
  by_cases h2 : t.name.size = 0
  · rw [if_pos h2] at h; cases h
  rw [if_neg h2] at h
  by_cases h3 : 32 < t.name.size ∨ 64 < t.value.size
  · rw [if_pos h3] at h; cases h
  exact ⟨by simpa using h1, by omega, by omega, by omega⟩
/-- The first error of tags. -/
def tagsE : List TagR → Int
  | [] => 0
  | t :: l => if tagE t ≠ 0 then tagE t else tagsE l
theorem tagsE_at {l : List TagR} {j : Nat} (hj : j < l.length) (h : ∀ i (hi : i < l.length), i < j → tagE l[i] = 0) (h2 : tagE l[j] ≠ 0) : tagsE l = tagE l[j] := by
  induction l generalizing j with
  | nil => simp at hj
  | cons a l ih =>
    cases j with
    | zero => simp only [List.getElem_cons_zero] at h2 ⊢; unfold tagsE; rw [if_pos h2]
    | succ j =>
      have h0 := h 0 (by simp) (by omega)
      simp only [List.getElem_cons_zero] at h0
      simp only [List.getElem_cons_succ] at h2 ⊢
      unfold tagsE
      rw [if_neg (by omega)]
      exact ih (by simpa using hj) (fun i hi hij => by have := h (i + 1) (by simpa using hi) (by omega); simpa using this) h2
theorem tagsE_no {l : List TagR} (h : ∀ t ∈ l, tagE t = 0) : tagsE l = 0 := by
  induction l with
  | nil => rfl
  | cons a l ih =>
    unfold tagsE
    rw [if_neg (by rw [h a (by simp)]; simp)]
    exact ih fun o ho => h o (List.mem_cons_of_mem _ ho)
theorem tagsE_all {l : List TagR} (h : tagsE l = 0) : ∀ t ∈ l, tagE t = 0 := by
  induction l with
  | nil => simp
  | cons a l ih =>
    unfold tagsE at h
    by_cases h0 : tagE a ≠ 0
    · rw [if_pos h0] at h; exact absurd h h0
    · rw [if_neg h0] at h
      intro o ho
      rcases List.mem_cons.1 ho with rfl | ho
      · omega
      · exact ih h o ho
/-- How many at the beginning come before x. -/
def lessT (L : List TagR) (x : TagR) : Nat := (L.takeWhile (fun y => decide (nmB y < nmB x))).length
theorem lessT_le (L : List TagR) (k : TagR) : lessT L k ≤ L.length := List.Sublist.length_le (List.takeWhile_sublist _)
theorem lessT_lt {L : List TagR} {k : TagR} : ∀ {i : Nat} (_ : i < lessT L k) (h2 : i < L.length), nmB L[i] < nmB k := by
  induction L with
  | nil => intro i h h2; simp at h2
  | cons a L ih =>
    intro i h h2
    by_cases ha : nmB a < nmB k
    · cases i with
      | zero => exact ha
      | succ i =>
        have : i < lessT L k := by simp [lessT, ha] at h; simpa [lessT] using h
        simpa using ih this (by simpa using h2)
    · simp [lessT, ha] at h
theorem lessT_at {L : List TagR} {k : TagR} (h : lessT L k < L.length) : ¬ nmB L[lessT L k] < nmB k := by
  induction L with
  | nil => simp at h
  | cons a L ih =>
    by_cases ha : nmB a < nmB k
    · have e : lessT (a :: L) k = lessT L k + 1 := by simp [lessT, ha]
      have := ih (by rw [e] at h; simpa using h)
      simpa [e] using this
    · have e : lessT (a :: L) k = 0 := by simp [lessT, ha]
      simpa [e] using ha
def insT (L : List TagR) (x : TagR) : List TagR := L.take (lessT L x) ++ [x] ++ L.drop (lessT L x)
def sortT (L : List TagR) : List TagR := L.foldl insT []
theorem sortT_snoc (L : List TagR) (x : TagR) : sortT (L ++ [x]) = insT (sortT L) x := by simp [sortT]
theorem insT_len (L : List TagR) (x : TagR) : (insT L x).length = L.length + 1 := by
  have := lessT_le L x
  unfold insT
  simp; omega
theorem insT_mem (L : List TagR) (x y : TagR) : y ∈ insT L x ↔ y ∈ L ∨ y = x := by
  have e : L = L.take (lessT L x) ++ L.drop (lessT L x) := (List.take_append_drop _ _).symm
  unfold insT
  rw [List.mem_append, List.mem_append, List.mem_singleton]
  conv => rhs; rw [e, List.mem_append]
  constructor
  · rintro ((h | h) | h)
    · exact .inl (.inl h)
    · exact .inr h
    · exact .inl (.inr h)
  · rintro ((h | h) | h)
    · exact .inl (.inl h)
    · exact .inr h
    · exact .inl (.inr h)
theorem sortT_mem (L : List TagR) (y : TagR) : y ∈ sortT L ↔ y ∈ L := by
  have : ∀ (L a : List TagR), y ∈ L.foldl insT a ↔ y ∈ a ∨ y ∈ L := by
    intro L
    induction L with
    | nil => simp
    | cons x L ih => intro a; rw [List.foldl_cons, ih, insT_mem, List.mem_cons, or_assoc]
  simpa [sortT] using this L []
theorem sortT_len (L : List TagR) : (sortT L).length = L.length := by
  have : ∀ (l a : List TagR), (l.foldl insT a).length = a.length + l.length := by
    intro l
    induction l with
    | nil => simp
    | cons x l ih => intro a; simp only [List.foldl_cons, ih, insT_len, List.length_cons]; omega
  simpa [sortT] using this L []
def AscT (L : List TagR) : Prop := L.Pairwise (fun x y => nmB x < nmB y)
theorem lt_of_not {a b : List UInt8} (h : ¬ a < b) (hne : a ≠ b) : b < a := by
  rcases Decidable.em (b < a) with h1 | h1
  · exact h1
  · exact absurd (List.le_antisymm (List.not_lt.1 h1) (List.not_lt.1 h)) hne
theorem insT_asc {L : List TagR} {x : TagR} (h : AscT L) (hx : ∀ y ∈ L, nmB y ≠ nmB x) : AscT (insT L x) := by
  have hle := lessT_le L x
  unfold AscT insT
  have hd : ∀ y ∈ L.drop (lessT L x), nmB x < nmB y := by
    intro y hy
    obtain ⟨i, hi, rfl⟩ := List.getElem_of_mem hy
    rw [List.length_drop] at hi
    rw [List.getElem_drop]
    have h0 := lessT_at (L := L) (k := x) (by omega)
    have h1 : nmB x < nmB L[lessT L x] := lt_of_not h0 (hx _ (List.getElem_mem _))
    rcases Nat.eq_zero_or_pos i with rfl | hp
    · simpa using h1
    · exact List.lt_trans h1 (List.pairwise_iff_getElem.1 h (lessT L x) (lessT L x + i) (by omega) (by omega) (by omega))
  have ht : ∀ y ∈ L.take (lessT L x), nmB y < nmB x := by
    intro y hy
    obtain ⟨i, hi, rfl⟩ := List.getElem_of_mem hy
    rw [List.length_take] at hi
    rw [List.getElem_take]
    exact lessT_lt (by omega) (by omega)
  rw [List.append_assoc, List.pairwise_append]
  refine ⟨List.Pairwise.sublist (List.take_sublist _ _) h, ?_, ?_⟩
  · rw [List.singleton_append, List.pairwise_cons]
    exact ⟨hd, List.Pairwise.sublist (List.drop_sublist _ _) h⟩
  · intro y hy z hz
    rw [List.singleton_append, List.mem_cons] at hz
    rcases hz with rfl | hz
    · exact ht y hy
    · exact List.lt_trans (ht y hy) (hd z hz)
def Dif (L : List TagR) : Prop := (L.map nmB).Nodup
theorem Dif.take {L : List TagR} (h : Dif L) (k : Nat) : Dif (L.take k) := by
  unfold Dif at *
  rw [List.map_take]
  exact List.Nodup.sublist (List.take_sublist _ _) h
theorem dif_snoc {L : List TagR} {x : TagR} : Dif (L ++ [x]) ↔ Dif L ∧ ∀ y ∈ L, nmB y ≠ nmB x := by
  unfold Dif
  rw [List.map_append, List.map_singleton, List.nodup_append]
  constructor
  · rintro ⟨h1, _, h3⟩
    exact ⟨h1, fun y hy e => h3 _ (List.mem_map.2 ⟨y, hy, rfl⟩) _ (by simp) e⟩
  · rintro ⟨h1, h2⟩
    refine ⟨h1, by simp, fun a ha b hb => ?_⟩
    obtain ⟨y, hy, rfl⟩ := List.mem_map.1 ha
    rw [List.mem_singleton.1 hb]
    exact h2 y hy
theorem sortT_asc : ∀ {L : List TagR}, Dif L → AscT (sortT L) := by
  intro L h
  have key : ∀ k, k ≤ L.length → AscT (sortT (L.take k)) := by
    intro k
    induction k with
    | zero => intro _; simp [sortT, AscT]
    | succ k ih =>
      intro hk
      have h1 := ih (by omega)
      have h2 := h.take (k + 1)
      rw [List.take_succ_eq_append_getElem (by omega)] at h2 ⊢
      rw [sortT_snoc]
      exact insT_asc h1 fun y hy => (dif_snoc.1 h2).2 y ((sortT_mem _ _).1 hy)
  have := key L.length (Nat.le_refl _)
  rwa [List.take_of_length_le (Nat.le_refl _)] at this
/-- In an ascending list a name is found where those before it end. -/
theorem asc_found {S : List TagR} {x : TagR} (h : AscT S) : (∃ y ∈ S, nmB y = nmB x) ↔ ∃ (hk : lessT S x < S.length), nmB S[lessT S x] = nmB x := by
  constructor
  · rintro ⟨y, hy, e⟩
    obtain ⟨i, hi, rfl⟩ := List.getElem_of_mem hy
    rcases Nat.lt_trichotomy i (lessT S x) with h1 | h1 | h1
    · have := lessT_lt h1 hi
      rw [e] at this
      exact absurd this (List.lt_irrefl _)
    · subst h1; exact ⟨hi, e⟩
    · have h2 := List.pairwise_iff_getElem.1 h (lessT S x) i (by omega) hi h1
      have h3 := lessT_at (L := S) (k := x) (by omega)
      rw [e] at h2
      exact absurd h2 h3
  · rintro ⟨hk, e⟩
    exact ⟨_, List.getElem_mem hk, e⟩
instance (L : List TagR) : Decidable (Dif L) := by unfold Dif; infer_instance
/-- The error of sorting. -/
def sortE (L : List TagR) : Int := if L.length = 0 ∨ 8 < L.length then 5 else if tagsE L ≠ 0 then tagsE L else if ¬ Dif L then 5 else 0
theorem sortE_few {L : List TagR} (h : L.length = 0 ∨ 8 < L.length) : sortE L = 5 := if_pos h
theorem sortE_tag {L : List TagR} (h : ¬ (L.length = 0 ∨ 8 < L.length)) (h2 : tagsE L ≠ 0) : sortE L = tagsE L := by unfold sortE; rw [if_neg h, if_pos h2]
theorem sortE_dup {L : List TagR} (h : ¬ (L.length = 0 ∨ 8 < L.length)) (h2 : tagsE L = 0) (h3 : ¬ Dif L) : sortE L = 5 := by unfold sortE; rw [if_neg h, if_neg (by omega), if_pos h3]
theorem sortE_ok {L : List TagR} (h : ¬ (L.length = 0 ∨ 8 < L.length)) (h2 : tagsE L = 0) (h3 : Dif L) : sortE L = 0 := by unfold sortE; rw [if_neg h, if_neg (by omega), if_neg (by simpa using h3)]
theorem sortE_0 {L : List TagR} (h : sortE L = 0) : 0 < L.length ∧ L.length ≤ 8 ∧ (∀ t ∈ L, tagE t = 0) ∧ Dif L := by
  unfold sortE at h
  by_cases h1 : L.length = 0 ∨ 8 < L.length
  · rw [if_pos h1] at h; cases h
  rw [if_neg h1] at h
  by_cases h2 : tagsE L ≠ 0
  · rw [if_pos h2] at h; exact absurd h h2
  rw [if_neg h2] at h
  by_cases h3 : ¬ Dif L
  · rw [if_pos h3] at h; cases h
  exact ⟨by omega, by omega, tagsE_all (Decidable.byContradiction h2), Decidable.byContradiction h3⟩
/-- The bytes of a tag in a key. -/
def tkB (t : TagR) : List UInt8 := UInt8.ofNat t.name.size :: nmB t ++ (UInt8.ofNat t.value.size :: vlB t)
def kyB (L : List TagR) : List UInt8 := L.flatMap tkB
theorem kyB_snoc (L : List TagR) (t : TagR) : kyB (L ++ [t]) = kyB L ++ tkB t := by simp [kyB]
theorem tkB_len (t : TagR) : (tkB t).length = t.name.size + t.value.size + 2 := by
  unfold tkB
  simp only [List.length_append, List.length_cons, nm_len, vl_len]; omega
/-- The error and the text of a key. -/
def keyE (L : List TagR) : Int := if sortE L ≠ 0 then sortE L else if 255 < (kyB (sortT L)).length then 4 else 0
def keyY (L : List TagR) : ByteArray := if keyE L = 0 then ⟨(kyB (sortT L)).toArray⟩ else ⟨#[]⟩
theorem keyY_len (L : List TagR) : (keyY L).size ≤ 255 := by
  unfold keyY
  split
  case isTrue h =>
    unfold keyE at h
    by_cases h1 : sortE L ≠ 0
    · rw [if_pos h1] at h; exact absurd h h1
    rw [if_neg h1] at h
    by_cases h2 : 255 < (kyB (sortT L)).length
    · rw [if_pos h2] at h; cases h
    · simp [ByteArray.size]; omega
  case isFalse h => simp [ByteArray.size]
end Go.Proofs.YtkdbapbmbhmaiaaGreat

/- Tags: the reference's test of one. -/
namespace Go.Proofs.YtkdbapbmbhmaiaaGreat
open Go.RowKit Go.Sort

def letN (n : Nat) : Bool := (decide (97 ≤ n) && decide (n ≤ 122)) || (decide (48 ≤ n) && decide (n ≤ 57)) || decide (n = 95) || decide (n = 46) || decide (n = 45)
theorem letB_N (b : UInt8) : letB b = letN b.toNat := rfl
theorem nameByteN_c (n : Nat) (w : World) : Calls Tryz.prog 68 #[.int .u8 n] w fun e w' => e = .returned (.bool (letN n)) ∧ w = w' := by
  rcases (show (97 ≤ n ∧ n ≤ 122) ∨ (48 ≤ n ∧ n ≤ 57) ∨ n = 95 ∨ n = 46 ∨ n = 45 ∨ n < 45 ∨ n = 47 ∨ (58 ≤ n ∧ n ≤ 94) ∨ n = 96 ∨ 123 ≤ n by omega) with h | h | h | h | h | h | h | h | h | h
  · obtain ⟨h1, h2⟩ := h
    have i1 : (97 : Int) ≤ (n : Int) := by omega
    have i2 : (n : Int) ≤ 122 := by omega
    have HB := Lib.hid (show letN n = true by simp [letN]; omega)
    go_enter Tryz.func68, Tryz.ntmps68
    go_wp2_with fail
    go_ret
    exact ⟨by rw [HB.out]; rfl, rfl⟩
  · obtain ⟨h1, h2⟩ := h
    have i1 : (48 : Int) ≤ (n : Int) := by omega
    have i2 : (n : Int) ≤ 57 := by omega
    have HB := Lib.hid (show letN n = true by simp [letN]; omega)
    go_enter Tryz.func68, Tryz.ntmps68
    go_wp2_with fail
    go_ret
    exact ⟨by rw [HB.out]; rfl, rfl⟩
  · subst h
    have HB := Lib.hid (show letN 95 = true from rfl)
    rw [show (((95 : Nat) : Nat) : Int) = (95 : Int) from rfl]
    go_enter Tryz.func68, Tryz.ntmps68
    go_wp2_with fail
    go_ret
    exact ⟨by rw [HB.out]; rfl, rfl⟩
  · subst h
    have HB := Lib.hid (show letN 46 = true from rfl)
    rw [show (((46 : Nat) : Nat) : Int) = (46 : Int) from rfl]
    go_enter Tryz.func68, Tryz.ntmps68
    go_wp2_with fail
    go_ret
    exact ⟨by rw [HB.out]; rfl, rfl⟩
  · subst h
    have HB := Lib.hid (show letN 45 = true from rfl)
    rw [show (((45 : Nat) : Nat) : Int) = (45 : Int) from rfl]
    go_enter Tryz.func68, Tryz.ntmps68
    go_wp2_with fail
    go_ret
    exact ⟨by rw [HB.out]; rfl, rfl⟩
  · have i1 : (n : Int) < 45 := by omega
    have HB := Lib.hid (show letN n = false by simp [letN]; omega)
    have f1 : ((n : Int) == 95) = false := beq_eq_false_iff_ne.2 (by omega)
    have f2 : ((n : Int) == 46) = false := beq_eq_false_iff_ne.2 (by omega)
    have f3 : ((n : Int) == 45) = false := beq_eq_false_iff_ne.2 (by omega)
    go_enter Tryz.func68, Tryz.ntmps68
    go_wp2_with fail
    go_ret
    exact ⟨by rw [HB.out]; rfl, rfl⟩
  · subst h
    have HB := Lib.hid (show letN 47 = false from rfl)
    rw [show (((47 : Nat) : Nat) : Int) = (47 : Int) from rfl]
    go_enter Tryz.func68, Tryz.ntmps68
    go_wp2_with fail
    go_ret
    exact ⟨by rw [HB.out]; rfl, rfl⟩
  · obtain ⟨h1, h2⟩ := h
    have i1 : (58 : Int) ≤ (n : Int) := by omega
    have i2 : (n : Int) ≤ 94 := by omega
    have i3 : decide ((n : Int) ≤ 57) = false := decide_eq_false (by omega)
    have HB := Lib.hid (show letN n = false by simp [letN]; omega)
    have f1 : ((n : Int) == 95) = false := beq_eq_false_iff_ne.2 (by omega)
    have f2 : ((n : Int) == 46) = false := beq_eq_false_iff_ne.2 (by omega)
    have f3 : ((n : Int) == 45) = false := beq_eq_false_iff_ne.2 (by omega)
    go_enter Tryz.func68, Tryz.ntmps68
    go_wp2_with fail
    go_ret
    exact ⟨by rw [HB.out]; rfl, rfl⟩
  · subst h
    have HB := Lib.hid (show letN 96 = false from rfl)
    rw [show (((96 : Nat) : Nat) : Int) = (96 : Int) from rfl]
    go_enter Tryz.func68, Tryz.ntmps68
    go_wp2_with fail
    go_ret
    exact ⟨by rw [HB.out]; rfl, rfl⟩
  · have i1 : (123 : Int) ≤ (n : Int) := by omega
    have i3 : decide ((n : Int) ≤ 57) = false := decide_eq_false (by omega)
    have i4 : decide ((n : Int) ≤ 122) = false := decide_eq_false (by omega)
    have HB := Lib.hid (show letN n = false by simp [letN]; omega)
    have f1 : ((n : Int) == 95) = false := beq_eq_false_iff_ne.2 (by omega)
    have f2 : ((n : Int) == 46) = false := beq_eq_false_iff_ne.2 (by omega)
    have f3 : ((n : Int) == 45) = false := beq_eq_false_iff_ne.2 (by omega)
    go_enter Tryz.func68, Tryz.ntmps68
    go_wp2_with fail
    go_ret
    exact ⟨by rw [HB.out]; rfl, rfl⟩
theorem tagC_name (b : UInt8) (w : World) : Calls Tryz.prog 68 #[.int .u8 b.toNat] w fun e w' => e = .returned (.bool (letB b)) ∧ w = w' := nameByteN_c b.toNat w
theorem all_lets {q : List UInt8} (h : ∀ i (hi : i < q.length), letB q[i] = true) : q.all letB = true := by
  rw [List.all_eq_true]
  intro x hx
  obtain ⟨i, hi, rfl⟩ := List.getElem_of_mem hx
  exact h i hi
theorem all_let_not {q : List UInt8} {i : Nat} (hi : i < q.length) (h : letB q[i] = false) : q.all letB = false := by
  rw [List.all_eq_false]
  exact ⟨_, List.getElem_mem hi, by simp [h]⟩

set_option maxHeartbeats 1000000 in
set_option maxRecDepth 100000 in
theorem rtag_c (t : TagR) (w : World) (hW : TagW t) : Calls Tryz.prog 57 #[tagV t] w (RetInt (tagE t) w) := by
  obtain ⟨hn, hv⟩ := hW
  have HN := Lib.hid (nm_len t)
  have HX := Lib.hid (show tagE t = if (nmB t).all letB = false then 3 else if t.name.size = 0 then 3 else if 32 < t.name.size ∨ 64 < t.value.size then 4 else 0 from rfl)
  have HQ := Lib.hid (show nmB t = t.name.data.toList from rfl)
  generalize tagE t = E at *
  generalize nmB t = q at *
  obtain ⟨y, v⟩ := t
  dsimp only at *
  have B1 := Blk.new w #[.string y, .string v] 76
  have G1 := grownBy_new_block (grownBy_refl w none) (.cells #[.string y, .string v] 76)
  go_enter Tryz.func57, Tryz.ntmps57
  go_upto_region 1 with fail
  generalize w.alloc (.cells #[.string y, .string v] 76) = w1 at *
  generalize w.heap.size = b at *
  have b1 := B1.cell
  go_wp2_with fail
  go_loopw [3] (fun s3 wk => ∃ i : Nat, i ≤ q.length ∧ s3 = .int .i64 i ∧ (∀ j (hj : j < q.length), j < i → letB q[j] = true) ∧ w1 = wk) (fun s3 _ => q.length - (RowKit.intOf s3).toNat)
  case atStart => exact ⟨0, Nat.zero_le _, rfl, by intro j hj h; omega, rfl⟩
  case round =>
    obtain ⟨i, hi, rfl, hall, rfl⟩ := hrel
    have Hall := Lib.hid hall
    have hql := HN.out
    clear hall
    by_cases hlt : i < q.length
    · have hi1 : (i : Int) < (y.size : Int) := by omega
      have hi2 : i < y.size := by omega
      have hx : q[i] = y[i]'hi2 := by
        have : q[i]? = some (y[i]'hi2) := by
          rw [HQ.out]
          show y.data.toList[i]? = _
          rw [Array.getElem?_toList, Array.getElem?_eq_getElem (by exact hi2)]; rfl
        rw [List.getElem?_eq_getElem hlt] at this
        exact Option.some.inj this
      have HF := Lib.hid (show letB q[i] = false → E = 3 from fun h => by rw [HX.out, if_pos (all_let_not hlt h)])
      have HS := Lib.hid (show letB q[i] = true → ∀ j (hj : j < q.length), j < i + 1 → letB q[j] = true from fun h j hj hji => by
        rcases Nat.lt_or_ge j i with h1 | h1
        · exact Hall.out j hj h1
        · obtain rfl : j = i := by omega
          exact h)
      rw [hx] at HF HS
      have C := Lib.hid fun w' => tagC_name (y[i]'hi2) w'
      have hi0 : (0 : Int) ≤ (i : Int) := by omega
      clear hx Hall
      cases hb : letB (y[i]'hi2)
      · rw [hb] at C
        have HF2 := Lib.hid (HF.out hb)
        clear hb
        go_wp2_with (go_at_call 68; refine (C.out _).mono ?_; rintro e w' ⟨rfl, rfl⟩)
        go_ret
        exact retInt HF2.out G1
      · rw [hb] at C
        have HS2 := Lib.hid (HS.out hb)
        clear hb
        go_wp2_with (go_at_call 68; refine (C.out _).mono ?_; rintro e w' ⟨rfl, rfl⟩)
        exact ⟨⟨i + 1, by omega, by go_num, HS2.out, by trivial⟩, by simp [RowKit.intOf]; omega⟩
    · have hi1 : ¬ (i : Int) < (y.size : Int) := by omega
      have HA := Lib.hid (show ¬ q.all letB = false by rw [all_lets fun j hj => Hall.out j hj (by omega)]; simp)
      by_cases h0 : y.size = 0
      · have HF := Lib.hid (show E = 3 by rw [HX.out, if_neg HA.out, if_pos h0])
        obtain rfl : y = ⟨#[]⟩ := by
          obtain ⟨⟨l⟩⟩ := y
          have : l = [] := by simpa [ByteArray.size] using h0
          rw [this]
        clear h0
        go_wp2_with fail
        go_ret
        exact retInt HF.out G1
      · have hne : y.toList.isEmpty = false := by
          rw [ByteArray.toList_eq]
          obtain ⟨⟨l⟩⟩ := y
          cases l with
          | nil => exact absurd rfl h0
          | cons a l => rfl
        have HF := Lib.hid (show E = if 32 < y.size ∨ 64 < v.size then 4 else 0 by rw [HX.out, if_neg HA.out, if_neg h0])
        clear h0 HX
        by_cases h1 : 32 < y.size
        · have j1 : (32 : Int) < (y.size : Int) := by omega
          have HF2 := Lib.hid (HF.out.trans (if_pos (.inl h1)))
          clear HF h1
          go_wp2_with fail
          go_ret
          exact retInt HF2.out G1
        · have j1 : (y.size : Int) ≤ 32 := by omega
          by_cases h2 : 64 < v.size
          · have j2 : (64 : Int) < (v.size : Int) := by omega
            have HF2 := Lib.hid (HF.out.trans (if_pos (.inr h2)))
            clear HF h1 h2
            go_wp2_with fail
            go_ret
            exact retInt HF2.out G1
          · have j2 : (v.size : Int) ≤ 64 := by omega
            have HF2 := Lib.hid (HF.out.trans (if_neg (fun h => h.elim h1 h2)))
            clear HF h1 h2
            go_wp2_with fail
            go_ret
            exact retInt HF2.out G1
end Go.Proofs.YtkdbapbmbhmaiaaGreat

/- Tags: the program's test of one. -/
namespace Go.Proofs.YtkdbapbmbhmaiaaGreat
open Go.RowKit Go.Sort

theorem letterN_c (n : Nat) (w : World) : Calls Tryz.prog 83 #[.int .u8 n] w fun e w' => e = .returned (.bool (letN n)) ∧ w = w' := by
  rcases (show (97 ≤ n ∧ n ≤ 122) ∨ (48 ≤ n ∧ n ≤ 57) ∨ n = 95 ∨ n = 46 ∨ n = 45 ∨ n < 45 ∨ n = 47 ∨ (58 ≤ n ∧ n ≤ 94) ∨ n = 96 ∨ 123 ≤ n by omega) with h | h | h | h | h | h | h | h | h | h
  · obtain ⟨h1, h2⟩ := h
    have i1 : (97 : Int) ≤ (n : Int) := by omega
    have i2 : (n : Int) ≤ 122 := by omega
    have HB := Lib.hid (show letN n = true by simp [letN]; omega)
    go_enter Tryz.func83, Tryz.ntmps83
    go_wp2_with fail
    go_ret
    exact ⟨by rw [HB.out]; rfl, rfl⟩
  · obtain ⟨h1, h2⟩ := h
    have i1 : (48 : Int) ≤ (n : Int) := by omega
    have i2 : (n : Int) ≤ 57 := by omega
    have HB := Lib.hid (show letN n = true by simp [letN]; omega)
    go_enter Tryz.func83, Tryz.ntmps83
    go_wp2_with fail
    go_ret
    exact ⟨by rw [HB.out]; rfl, rfl⟩
  · subst h
    have HB := Lib.hid (show letN 95 = true from rfl)
    rw [show (((95 : Nat) : Nat) : Int) = (95 : Int) from rfl]
    go_enter Tryz.func83, Tryz.ntmps83
    go_wp2_with fail
    go_ret
    exact ⟨by rw [HB.out]; rfl, rfl⟩
  · subst h
    have HB := Lib.hid (show letN 46 = true from rfl)
    rw [show (((46 : Nat) : Nat) : Int) = (46 : Int) from rfl]
    go_enter Tryz.func83, Tryz.ntmps83
    go_wp2_with fail
    go_ret
    exact ⟨by rw [HB.out]; rfl, rfl⟩
  · subst h
    have HB := Lib.hid (show letN 45 = true from rfl)
    rw [show (((45 : Nat) : Nat) : Int) = (45 : Int) from rfl]
    go_enter Tryz.func83, Tryz.ntmps83
    go_wp2_with fail
    go_ret
    exact ⟨by rw [HB.out]; rfl, rfl⟩
  · have i1 : (n : Int) < 45 := by omega
    have HB := Lib.hid (show letN n = false by simp [letN]; omega)
    have f1 : ((n : Int) == 95) = false := beq_eq_false_iff_ne.2 (by omega)
    have f2 : ((n : Int) == 46) = false := beq_eq_false_iff_ne.2 (by omega)
    have f3 : ((n : Int) == 45) = false := beq_eq_false_iff_ne.2 (by omega)
    go_enter Tryz.func83, Tryz.ntmps83
    go_wp2_with fail
    go_ret
    exact ⟨by rw [HB.out]; rfl, rfl⟩
  · subst h
    have HB := Lib.hid (show letN 47 = false from rfl)
    rw [show (((47 : Nat) : Nat) : Int) = (47 : Int) from rfl]
    go_enter Tryz.func83, Tryz.ntmps83
    go_wp2_with fail
    go_ret
    exact ⟨by rw [HB.out]; rfl, rfl⟩
  · obtain ⟨h1, h2⟩ := h
    have i1 : (58 : Int) ≤ (n : Int) := by omega
    have i2 : (n : Int) ≤ 94 := by omega
    have i3 : decide ((n : Int) ≤ 57) = false := decide_eq_false (by omega)
    have HB := Lib.hid (show letN n = false by simp [letN]; omega)
    have f1 : ((n : Int) == 95) = false := beq_eq_false_iff_ne.2 (by omega)
    have f2 : ((n : Int) == 46) = false := beq_eq_false_iff_ne.2 (by omega)
    have f3 : ((n : Int) == 45) = false := beq_eq_false_iff_ne.2 (by omega)
    go_enter Tryz.func83, Tryz.ntmps83
    go_wp2_with fail
    go_ret
    exact ⟨by rw [HB.out]; rfl, rfl⟩
  · subst h
    have HB := Lib.hid (show letN 96 = false from rfl)
    rw [show (((96 : Nat) : Nat) : Int) = (96 : Int) from rfl]
    go_enter Tryz.func83, Tryz.ntmps83
    go_wp2_with fail
    go_ret
    exact ⟨by rw [HB.out]; rfl, rfl⟩
  · have i1 : (123 : Int) ≤ (n : Int) := by omega
    have i3 : decide ((n : Int) ≤ 57) = false := decide_eq_false (by omega)
    have i4 : decide ((n : Int) ≤ 122) = false := decide_eq_false (by omega)
    have HB := Lib.hid (show letN n = false by simp [letN]; omega)
    have f1 : ((n : Int) == 95) = false := beq_eq_false_iff_ne.2 (by omega)
    have f2 : ((n : Int) == 46) = false := beq_eq_false_iff_ne.2 (by omega)
    have f3 : ((n : Int) == 45) = false := beq_eq_false_iff_ne.2 (by omega)
    go_enter Tryz.func83, Tryz.ntmps83
    go_wp2_with fail
    go_ret
    exact ⟨by rw [HB.out]; rfl, rfl⟩
theorem letter_c (b : UInt8) (w : World) : Calls Tryz.prog 83 #[.int .u8 b.toNat] w fun e w' => e = .returned (.bool (letB b)) ∧ w = w' := letterN_c b.toNat w
set_option maxHeartbeats 1000000 in
set_option maxRecDepth 100000 in
theorem tvalid_c (t : TagR) (w : World) (hW : TagW t) : Calls Tryz.prog 69 #[tagV t] w (RetInt (tagE t) w) := by
  obtain ⟨hn, hv⟩ := hW
  have HN := Lib.hid (nm_len t)
  have HX := Lib.hid (show tagE t = if (nmB t).all letB = false then 3 else if t.name.size = 0 then 3 else if 32 < t.name.size ∨ 64 < t.value.size then 4 else 0 from rfl)
  have HQ := Lib.hid (show nmB t = t.name.data.toList from rfl)
  generalize tagE t = E at *
  generalize nmB t = q at *
  obtain ⟨y, v⟩ := t
  dsimp only at *
  have B1 := Blk.new w #[.string y, .string v] 76
  have G1 := grownBy_new_block (grownBy_refl w none) (.cells #[.string y, .string v] 76)
  go_enter Tryz.func69, Tryz.ntmps69
  go_upto_region 1 with fail
  generalize w.alloc (.cells #[.string y, .string v] 76) = w1 at *
  generalize w.heap.size = b at *
  have b1 := B1.cell
  by_cases h0 : y.size = 0
  · have HF := Lib.hid (show E = 3 by
      rw [HX.out, if_pos h0]
      split <;> rfl)
    obtain rfl : y = ⟨#[]⟩ := by
      obtain ⟨⟨l⟩⟩ := y
      have : l = [] := by simpa [ByteArray.size] using h0
      rw [this]
    clear h0
    go_wp2_with fail
    go_ret
    exact retInt HF.out G1
  have hne : y.toList.isEmpty = false := by
    rw [ByteArray.toList_eq]
    obtain ⟨⟨l⟩⟩ := y
    cases l with
    | nil => exact absurd rfl h0
    | cons a l => rfl
  go_upto_region 4 with fail
  go_loopw [10] (fun s10 wk => ∃ i : Nat, i ≤ q.length ∧ s10 = .int .i64 i ∧ (∀ j (hj : j < q.length), j < i → letB q[j] = true) ∧ w1 = wk) (fun s10 _ => q.length - (RowKit.intOf s10).toNat)
  case atStart => exact ⟨0, Nat.zero_le _, rfl, by intro j hj h; omega, rfl⟩
  case round =>
    obtain ⟨i, hi, rfl, hall, rfl⟩ := hrel
    have Hall := Lib.hid hall
    have hql := HN.out
    clear hall
    by_cases hlt : i < q.length
    · have hi1 : (i : Int) < (y.size : Int) := by omega
      have hi2 : i < y.size := by omega
      have hx : q[i] = y[i]'hi2 := by
        have : q[i]? = some (y[i]'hi2) := by
          rw [HQ.out]
          show y.data.toList[i]? = _
          rw [Array.getElem?_toList, Array.getElem?_eq_getElem (by exact hi2)]; rfl
        rw [List.getElem?_eq_getElem hlt] at this
        exact Option.some.inj this
      have HF := Lib.hid (show letB q[i] = false → E = 3 from fun h => by rw [HX.out, if_pos (all_let_not hlt h)])
      have HS := Lib.hid (show letB q[i] = true → ∀ j (hj : j < q.length), j < i + 1 → letB q[j] = true from fun h j hj hji => by
        rcases Nat.lt_or_ge j i with h1 | h1
        · exact Hall.out j hj h1
        · obtain rfl : j = i := by omega
          exact h)
      rw [hx] at HF HS
      have C := Lib.hid fun w' => letter_c (y[i]'hi2) w'
      have hi0 : (0 : Int) ≤ (i : Int) := by omega
      clear hx Hall
      cases hb : letB (y[i]'hi2)
      · rw [hb] at C
        have HF2 := Lib.hid (HF.out hb)
        clear hb
        go_wp2_with (go_at_call 83; refine (C.out _).mono ?_; rintro e w' ⟨rfl, rfl⟩)
        go_ret
        exact retInt HF2.out G1
      · rw [hb] at C
        have HS2 := Lib.hid (HS.out hb)
        clear hb
        go_wp2_with (go_at_call 83; refine (C.out _).mono ?_; rintro e w' ⟨rfl, rfl⟩)
        exact ⟨⟨i + 1, by omega, by go_num, HS2.out, by trivial⟩, by simp [RowKit.intOf]; omega⟩
    · have hi1 : ¬ (i : Int) < (y.size : Int) := by omega
      have HA := Lib.hid (show ¬ q.all letB = false by rw [all_lets fun j hj => Hall.out j hj (by omega)]; simp)
      have HF := Lib.hid (show E = if 32 < y.size ∨ 64 < v.size then 4 else 0 by rw [HX.out, if_neg HA.out, if_neg h0])
      clear h0 HX
      by_cases h1 : 32 < y.size
      · have j1 : (32 : Int) < (y.size : Int) := by omega
        have HF2 := Lib.hid (HF.out.trans (if_pos (.inl h1)))
        clear HF h1
        go_wp2_with fail
        go_ret
        exact retInt HF2.out G1
      · have j1 : (y.size : Int) ≤ 32 := by omega
        by_cases h2 : 64 < v.size
        · have j2 : (64 : Int) < (v.size : Int) := by omega
          have HF2 := Lib.hid (HF.out.trans (if_pos (.inr h2)))
          clear HF h1 h2
          go_wp2_with fail
          go_ret
          exact retInt HF2.out G1
        · have j2 : (v.size : Int) ≤ 64 := by omega
          have HF2 := Lib.hid (HF.out.trans (if_neg (fun h => h.elim h1 h2)))
          clear HF h1 h2
          go_wp2_with fail
          go_ret
          exact retInt HF2.out G1
end Go.Proofs.YtkdbapbmbhmaiaaGreat

/- The tags of a key: plain. -/
namespace Go.Proofs.YtkdbapbmbhmaiaaGreat
open Go.RowKit

/-- The text with a length at the beginning, and the rest. -/
def cutF : List UInt8 → Option (List UInt8 × List UInt8)
  | [] => none
  | b :: r => if r.length < b.toNat then none else some (r.take b.toNat, r.drop b.toNat)
theorem cutF_lt {l a r : List UInt8} (h : cutF l = some (a, r)) : r.length < l.length := by
  cases l with
  | nil => cases h
  | cons b q =>
    simp only [cutF] at h
    by_cases hb : q.length < b.toNat
    · rw [if_pos hb] at h; cases h
    · rw [if_neg hb] at h
      obtain ⟨rfl, rfl⟩ := by simpa using h
      simp; omega
theorem cutF_app {l a r : List UInt8} (h : cutF l = some (a, r)) : ∃ b : UInt8, l = b :: (a ++ r) ∧ a.length = b.toNat := by
  cases l with
  | nil => cases h
  | cons b q =>
    simp only [cutF] at h
    by_cases hb : q.length < b.toNat
    · rw [if_pos hb] at h; cases h
    · rw [if_neg hb] at h
      obtain ⟨rfl, rfl⟩ := by simpa using h
      exact ⟨b, by rw [List.take_append_drop], by simp; omega⟩
/-- Two texts: a tag; and the rest. -/
def cut2 (l : List UInt8) : Option (TagR × List UInt8) := match cutF l with
  | none => none
  | some (a, r) => match cutF r with
    | none => none
    | some (b, s) => some (⟨⟨a.toArray⟩, ⟨b.toArray⟩⟩, s)
theorem cut2_lt {l : List UInt8} {t : TagR} {s : List UInt8} (h : cut2 l = some (t, s)) : s.length < l.length := by
  unfold cut2 at h
  split at h
  · cases h
  · rename_i a r h1
    split at h
    · cases h
    · rename_i b s' h2
      cases h
      exact Nat.lt_trans (cutF_lt h2) (cutF_lt h1)
def splitP (l : List UInt8) : Option (List TagR) :=
  if l = [] then some [] else match h : cut2 l with
    | none => none
    | some (t, s) => (splitP s).map (t :: ·)
termination_by l.length
decreasing_by exact cut2_lt h
theorem splitP_nil : splitP [] = some [] := by rw [splitP]; rfl
theorem splitP_no {l : List UInt8} (h : l ≠ []) (h2 : cut2 l = none) : splitP l = none := by
  rw [splitP, if_neg h]
  split
  · rfl
  · rename_i h3; rw [h2] at h3; cases h3
theorem splitP_yes {l s : List UInt8} {t : TagR} (h : l ≠ []) (h2 : cut2 l = some (t, s)) : splitP l = (splitP s).map (t :: ·) := by
  rw [splitP, if_neg h]
  split
  · rename_i h3; rw [h2] at h3; cases h3
  · rename_i t' s' h3
    rw [h2] at h3; cases h3; rfl
/-- What is found in all, when L stands already and r is left. -/
def splitA (L : List TagR) (r : List UInt8) : Option (List TagR) := (splitP r).map (L ++ ·)
theorem splitA_nil (L : List TagR) : splitA L [] = some L := by simp [splitA, splitP_nil]
theorem splitA_0 (l : List UInt8) : splitA [] l = splitP l := by simp [splitA]
theorem splitA_no {L : List TagR} {l : List UInt8} (h : l ≠ []) (h2 : cut2 l = none) : splitA L l = none := by unfold splitA; rw [splitP_no h h2]; rfl
theorem splitA_yes {L : List TagR} {l s : List UInt8} {t : TagR} (h : l ≠ []) (h2 : cut2 l = some (t, s)) : splitA L l = splitA (L ++ [t]) s := by
  unfold splitA
  rw [splitP_yes h h2]
  cases splitP s <;> simp
/-- The error of a text that is asked for, or none; its tags. -/
def splitE (k : ByteArray) : Int := if 255 < k.size then 4 else match splitP k.data.toList with
  | none => 3
  | some L => if keyE L ≠ 0 ∨ keyY L ≠ k then 3 else 0
def splitL (k : ByteArray) : List TagR := if splitE k = 0 then (splitP k.data.toList).getD [] else []
theorem splitE_long {k : ByteArray} (h : 255 < k.size) : splitE k = 4 := if_pos h
theorem splitE_no {k : ByteArray} (h : ¬ 255 < k.size) (h2 : splitP k.data.toList = none) : splitE k = 3 := by unfold splitE; rw [if_neg h, h2]
theorem splitE_bad {k : ByteArray} {L : List TagR} (h : ¬ 255 < k.size) (h2 : splitP k.data.toList = some L) (h3 : keyE L ≠ 0 ∨ keyY L ≠ k) : splitE k = 3 := by unfold splitE; rw [if_neg h, h2]; simp only; rw [if_pos h3]
theorem splitE_ok {k : ByteArray} {L : List TagR} (h : ¬ 255 < k.size) (h2 : splitP k.data.toList = some L) (h3 : keyE L = 0) (h4 : keyY L = k) : splitE k = 0 ∧ splitL k = L := by
  have e : splitE k = 0 := by unfold splitE; rw [if_neg h, h2]; simp only; rw [if_neg (by simp [h3, h4])]
  exact ⟨e, by unfold splitL; rw [if_pos e, h2]; rfl⟩
end Go.Proofs.YtkdbapbmbhmaiaaGreat

/- Tags: the program's cut of a key. -/
namespace Go.Proofs.YtkdbapbmbhmaiaaGreat
open Go.RowKit Go.Sort

def CutP (l : List UInt8) (w : World) (e : Ending) (w' : World) : Prop :=
  w.grownBy w' none ∧ match cutF l with
    | none => e = .returned (.tuple #[.string ⟨#[]⟩, .string ⟨#[]⟩, .bool false])
    | some (a, r) => e = .returned (.tuple #[.string ⟨a.toArray⟩, .string ⟨r.toArray⟩, .bool true])
theorem cutP_no {l : List UInt8} {w : World} (h : cutF l = none) : CutP l w (.returned (.tuple #[.string ⟨#[]⟩, .string ⟨#[]⟩, .bool false])) w := ⟨grownBy_refl _ _, by rw [h]⟩
theorem cutP_yes {l a r : List UInt8} {w w' : World} (h : cutF l = some (a, r)) (hg : w.grownBy w' none) : CutP l w (.returned (.tuple #[.string ⟨a.toArray⟩, .string ⟨r.toArray⟩, .bool true])) w' := ⟨hg, by rw [h]⟩
theorem ext_text (b : UInt8) (q : List UInt8) (n : Nat) : (⟨⟨b :: q⟩⟩ : ByteArray).extract 1 (1 + n) = ⟨(q.take n).toArray⟩ := by
  apply ByteArray.ext
  rw [ByteArray.data_extract]
  apply Array.ext'
  simp
theorem ext_rest (b : UInt8) (q : List UInt8) (n : Nat) : (⟨⟨b :: q⟩⟩ : ByteArray).extract (1 + n) (q.length + 1) = ⟨(q.drop n).toArray⟩ := by
  apply ByteArray.ext
  rw [ByteArray.data_extract]
  apply Array.ext'
  simp [Nat.add_comm 1 n]
  exact List.take_of_length_le (by simp)
set_option maxHeartbeats 400000 in
set_option maxRecDepth 100000 in
theorem cut_c (k : ByteArray) (w : World) (hk : k.size ≤ 1000000) : Calls Tryz.prog 41 #[.string k] w (CutP k.data.toList w) := by
  obtain ⟨⟨l⟩⟩ := k
  cases l with
  | nil =>
    go_enter Tryz.func41, Tryz.ntmps41
    go_wp2_with fail
    go_ret3
    exact cutP_no rfl
  | cons b q =>
    have hs : (⟨(b :: q).toArray⟩ : ByteArray).size = q.length + 1 := by simp [ByteArray.size]
    have hne : (⟨(b :: q).toArray⟩ : ByteArray).toList.isEmpty = false := by rw [ByteArray.toList_eq]; rfl
    have hq : q.length ≤ 1000000 := by have : (⟨(b :: q).toArray⟩ : ByteArray).size ≤ 1000000 := hk; omega
    have hw1 : wrap64 (q.length : Int) = (q.length : Int) := by unfold wrap64; omega
    have hbb := b.toNat_lt
    have hw2 : wrap64 (b.toNat : Int) = (b.toNat : Int) := by unfold wrap64; omega
    have hw3 : wrap64 (1 + (b.toNat : Int)) = 1 + (b.toNat : Int) := by unfold wrap64; omega
    have hx : ∀ h, (⟨⟨b :: q⟩⟩ : ByteArray)[0]'h = b := fun _ => rfl
    by_cases hb : q.length < b.toNat
    · have hb2 : (q.length : Int) < (b.toNat : Int) := by omega
      have hb3 : ((⟨(b :: q).toArray⟩ : ByteArray).size : Int) - 1 < (b.toNat : Int) := by rw [hs]; omega
      go_enter Tryz.func41, Tryz.ntmps41
      go_wp2_with fail
      go_ret3
      exact cutP_no (by simp only [cutF]; rw [if_pos hb])
    · have hb2 : ¬ (q.length : Int) < (b.toNat : Int) := by omega
      have hb3 : ¬ ((⟨(b :: q).toArray⟩ : ByteArray).size : Int) - 1 < (b.toNat : Int) := by rw [hs]; omega
      go_enter Tryz.func41, Tryz.ntmps41
      go_upto_region 4 with fail
      have i1 : (0 : Int) ≤ 1 + (b.toNat : Int) := by omega
      have i2 : (1 : Int) ≤ 1 + (b.toNat : Int) := by omega
      have i3 : 1 + (b.toNat : Int) ≤ (q.length : Int) + 1 := by omega
      have i4 : (1 : Int) ≤ (q.length : Int) + 1 := by omega
      go_quiet (fail)
      go_wp2_with fail
      go_ret3
      rw [ext_text, ext_rest]
      exact cutP_yes (by simp only [cutF]; rw [if_neg hb]) (grownBy_drewN (grownBy_refl w none) nq)
end Go.Proofs.YtkdbapbmbhmaiaaGreat

/- Tags: a copy of a list, and the order by names. -/
namespace Go.Proofs.YtkdbapbmbhmaiaaGreat
open Go.RowKit Go.Sort

set_option maxHeartbeats 400000 in
set_option maxRecDepth 100000 in
theorem cloneT_c (v : Value) (l : List TagR) (w : World) (h : RdL tagF 2 w v l) (hl : l.length ≤ 1000000) : Calls Tryz.prog 70 #[v] w (RetOwn tagF 2 76 l w) := by
  obtain ⟨a, c, rfl⟩ := h.shape
  have H := Lib.hid h
  have hb1 : l.length * 32 ≤ 140737488355328 := by omega
  have hb2 : l.length ≤ 9223372036854775807 := by omega
  cases a with
  | none =>
    have hn : l = [] := by
      rcases h.2.2 with ⟨h0, _⟩ | ⟨g, off, cap, hv, _⟩
      · exact List.length_eq_zero_iff.1 h0
      · cases hv
    subst hn
    have hq := fun w => Lib.run_eql_slice_nil (P := Tryz.prog) w _ _ none 0 c 0 0 (elt_tag).ht
    simp only [List.length_nil]
    go_enter Tryz.func70, Tryz.ntmps70
    go_wp2
    go_ret
    exact ⟨_, rfl, Own.nil _ _ _ _ _, grownBy_refl _ _⟩
  | some ad =>
    clear h
    have hq := fun w => Lib.run_eql_slice_nil (P := Tryz.prog) w _ _ (some ad) l.length c 0 0 (elt_tag).ht
    go_enter Tryz.func70, Tryz.ntmps70
    go_upto_region 3 with fail
    have N := own_lit0 (e := 76) tagF 2 (Nat.le_refl w.heap.size)
    have R := H.out.same (World.grownBy_alloc w (.cells #[] 76) none)
    go_wp2_with (at_builtin; refine app_lit elt_tag one_tag N R rfl hb1 hb2 (by simp) (by rfl) _ _ (by rfl) (by rfl) (by rfl) ?_; intro v4 w4 o4 g4 l4)
    go_ret
    exact ⟨_, rfl, o4, grownBy_trans (World.grownBy_alloc w _ none) g4⟩
def cmpT (x y : TagR) : Int := Lib.compareBytes x.name.data.toList y.name.data.toList
set_option maxHeartbeats 400000 in
theorem sortTFn_c (x y : TagR) (w : World) : Calls Tryz.prog 72 #[tagV x, tagV y] w (RetInt (cmpT x y) w) := by
  have hc := Lib.hid fun w' => Tryz.strings_Compare x.name y.name w'
  have HX := Lib.hid (show cmpT x y = Lib.compareBytes x.name.data.toList y.name.data.toList from rfl)
  generalize cmpT x y = z at *
  generalize Lib.compareBytes x.name.data.toList y.name.data.toList = r at *
  have HG := Lib.hid (fun w' h => grownBy_trans (grownBy_new_block (grownBy_new_block (grownBy_refl w none) (.cells #[.string x.name, .string x.value] 76)) (.cells #[.string y.name, .string y.value] 76)) h : ∀ w', World.grownBy ((w.alloc (.cells #[.string x.name, .string x.value] 76)).alloc (.cells #[.string y.name, .string y.value] 76)) w' none → w.grownBy w' none)
  go_enter Tryz.func72, Tryz.ntmps72
  go_wp2_with (go_at_call 73; refine (hc.out _).mono ?_; rintro e w1 ⟨rfl, g1⟩)
  go_ret
  exact retInt HX.out (HG.out _ (grownBy_refl _ _))
end Go.Proofs.YtkdbapbmbhmaiaaGreat
