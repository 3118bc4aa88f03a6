/- merge.Line and the reference's Line. -/
import Derived.Test.YtiagjiaahnkefaaLine
namespace Go.Proofs.Ytiagjiaahnkefaa
open Go.RowKit
attribute [local go_sem ↓] exec_load_cfg
attribute [local go_sem] run_loadCfgS

def okShard (c : Cfg) (t : List Int) (l : List Summ) (k : ByteArray) (x : Int) : Bool := decide (x < (l.length : Int)) && (setF c t k).contains x
theorem fold_step (c : Cfg) (t : List Int) (l : List Summ) (k : ByteArray) (O : List Int) {j : Nat} (hj : j < O.length) :
    foldB c t l k ((O.take (j + 1)).filter (okShard c t l k)) = if okShard c t l k O[j] then addP (foldB c t l k ((O.take j).filter (okShard c t l k))) (bP c t l k O[j]) else foldB c t l k ((O.take j).filter (okShard c t l k)) := by
  rw [take_succ hj, List.filter_append]
  by_cases h : okShard c t l k O[j] = true
  · rw [if_pos h, List.filter_cons_of_pos h, List.filter_nil, foldB_snoc]
  · rw [if_neg h, List.filter_cons_of_neg h, List.filter_nil, List.append_nil]
theorem order_in (picks : List Int) (n : Nat) : ∀ x ∈ order picks n, 0 ≤ x ∧ x < n := fun _ hx => mem_rangeI.1 ((order_perm picks n).mem_iff.1 hx)

set_option maxHeartbeats 2000000 in
set_option maxRecDepth 100000 in
theorem line_c (c : Cfg) (t : List Int) (lv : Value) (l : List Summ) (k : ByteArray) (pv : Value) (P : List Int) (w : World) (h : RCfg w c t) (hl : SumsRd w lv l) (ho : SumsOk l) (hp : RdL intF 1 w pv P) (hk : k.size ≤ 9223372036854775807) :
    Calls Try.prog 33 #[c.val, lv, .string k, pv] w (RetVal (lineV k (lineF c t l k).1 (lineF c t l k).2) w) := by
  obtain ⟨la, lc, rfl⟩ := hl.rd.shape
  obtain ⟨pa, pc, rfl⟩ := hp.shape
  have H := Lib.hid h
  have HL := Lib.hid hl
  have HP := Lib.hid hp
  obtain ⟨s1, s2⟩ := h.shards
  clear h hl hp
  go_enter Try.func33, Try.ntmps33
  go_upto_region 1 with (refine box_cfg rfl _ rfl c rfl ?_; intro w1 B1 G1 z1)
  have kl : Blk (((w1.alloc (.cells #[.slice la l.length lc] 33)).alloc (.cells #[.string k] 9)).alloc (.cells #[.string ⟨#[]⟩, .int .u64 0, .int .u64 0] 71)) w1.heap.size #[.slice la l.length lc] := (by repeat (first | exact Blk.new' _ _ _ (by simp) | refine Blk.same ?_ (World.grownBy_alloc _ _ _) | refine Blk.drew ?_ _ | refine Blk.drew1 ?_ | refine Blk.set_ (by assumption) _ _ rfl | refine Blk.off ?_ (by first | omega | (simp; done) | (simp; omega)) _ _ | assumption))
  have kk : Blk (((w1.alloc (.cells #[.slice la l.length lc] 33)).alloc (.cells #[.string k] 9)).alloc (.cells #[.string ⟨#[]⟩, .int .u64 0, .int .u64 0] 71)) (w1.heap.size + 1) #[.string k] := (by repeat (first | exact Blk.new' _ _ _ (by simp) | refine Blk.same ?_ (World.grownBy_alloc _ _ _) | refine Blk.drew ?_ _ | refine Blk.drew1 ?_ | refine Blk.set_ (by assumption) _ _ rfl | refine Blk.off ?_ (by first | omega | (simp; done) | (simp; omega)) _ _ | assumption))
  have kr : Blk (((w1.alloc (.cells #[.slice la l.length lc] 33)).alloc (.cells #[.string k] 9)).alloc (.cells #[.string ⟨#[]⟩, .int .u64 0, .int .u64 0] 71)) (w1.heap.size + 1 + 1) #[.string ⟨#[]⟩, .int .u64 0, .int .u64 0] := (by repeat (first | exact Blk.new' _ _ _ (by simp) | refine Blk.same ?_ (World.grownBy_alloc _ _ _) | refine Blk.drew ?_ _ | refine Blk.drew1 ?_ | refine Blk.set_ (by assumption) _ _ rfl | refine Blk.off ?_ (by first | omega | (simp; done) | (simp; omega)) _ _ | assumption))
  have kg : w1.grownBy (((w1.alloc (.cells #[.slice la l.length lc] 33)).alloc (.cells #[.string k] 9)).alloc (.cells #[.string ⟨#[]⟩, .int .u64 0, .int .u64 0] 71)) none := (by (repeat (first | exact grownBy_refl _ _ | assumption | refine grownBy_new_block ?_ _ | refine grownBy_drew ?_ | refine grownBy_drewN ?_ _ | refine grownBy_setNew ?_ (by first | (simp; done) | omega | (simp; omega)) _)))
  replace kg := grownBy_trans G1 kg
  have kc : BoxAt (((w1.alloc (.cells #[.slice la l.length lc] 33)).alloc (.cells #[.string k] 9)).alloc (.cells #[.string ⟨#[]⟩, .int .u64 0, .int .u64 0] 71)) w.heap.size c := ((B1.same (World.grownBy_alloc _ _ _)).same (World.grownBy_alloc _ _ _)).same (World.grownBy_alloc _ _ _)
  generalize ((w1.alloc (.cells #[.slice la l.length lc] 33)).alloc (.cells #[.string k] 9)).alloc (.cells #[.string ⟨#[]⟩, .int .u64 0, .int .u64 0] 71) = w2 at *
  clear G1 B1
  generalize w1.heap.size = b at *
  have ck := kk.cell
  go_upto_region 2 with (first | (refine load_cfg rfl _ rfl _ rfl c (by assumption) ?_) | (go_at_call 31; refine (set_c c t k _ (H.out.same kg) hk).mono ?_; rintro e w3 ⟨sv, rfl, hsv, G3⟩; obtain ⟨sa, sc, rfl⟩ := hsv.shape))
  have K3 := grownBy_trans kg G3
  have E4 : LineEnv (w3.alloc (.cells #[.slice sa (setF c t k).length sc] 27)) b w3.heap.size w.heap.size (b + 1) c t (.slice la l.length lc) (.slice sa (setF c t k).length sc) l k :=
    ⟨(H.out.same K3).same (World.grownBy_alloc _ _ _), (HL.out.same K3).same (World.grownBy_alloc _ _ _), hsv.same (World.grownBy_alloc _ _ _), (kl.same G3).same (World.grownBy_alloc _ _ _), Blk.new _ _ _, (kc.same G3).same (World.grownBy_alloc _ _ _), (kk.same G3).same (World.grownBy_alloc _ _ _)⟩
  have kr4 : Blk (w3.alloc (.cells #[.slice sa (setF c t k).length sc] 27)) (b + 1 + 1) #[.string ⟨#[]⟩, .int .u64 0, .int .u64 0] := (kr.same G3).same (World.grownBy_alloc _ _ _)
  have K4 : w.grownBy (w3.alloc (.cells #[.slice sa (setF c t k).length sc] 27)) none := grownBy_new_block K3 _
  have z3 : b + 1 + 1 < w3.heap.size := (kr.same G3).lt
  clear kl kk kr kg kc ck G3 K3 hsv
  generalize w3.alloc (.cells #[.slice sa (setF c t k).length sc] 27) = w4 at *
  generalize w3.heap.size = bs at *
  have b4 := E4.kc.cell
  have b4' := fun o => (E4.kc.same (World.grownBy_alloc w4 o none)).cell
  go_upto_region 5 with (go_at_call 24; refine (order_c _ P c.Shards _ (HP.out.same (by (repeat (first | exact grownBy_refl _ _ | assumption | refine grownBy_new_block ?_ _ | refine grownBy_drew ?_ | refine grownBy_drewN ?_ _ | refine grownBy_setNew ?_ (by first | (simp; done) | omega | (simp; omega)) _)))) (by omega)).mono ?_; rintro e w6 ⟨ov, rfl, hov, G6⟩; obtain ⟨oa, oc, rfl⟩ := hov.shape)
  have kb : Blk w6 w4.heap.size #[.int .u64 0, .int .u64 0] := Blk.same (Blk.new w4 _ _) G6
  have K6 : w4.grownBy w6 none := grownBy_trans (World.grownBy_alloc _ _ _) G6
  have hlen := order_len P c.Shards.toNat
  have hin := order_in P c.Shards.toNat
  have Hfin := Lib.hid (line_order (c := c) (t := t) (k := k) ho ⟨s1, s2⟩ H.out.spread P)
  have hbase : ∀ g, Value.ownBlock (.slice oa (order P c.Shards.toNat).length oc) = some g → g ≠ w4.heap.size := fun g hg e => by have := (hov.lt g hg).1; simp at this; omega
  clear b4 b4'
  obtain ⟨O, hO⟩ : ∃ O, O = order P c.Shards.toNat := ⟨_, rfl⟩
  rw [← hO] at hov hlen hin Hfin hbase ⊢
  clear hO
  have HO : Hid (Own intF 1 3 (w4.alloc (.cells #[.int .u64 0, .int .u64 0] 62)).heap.size w6 (.slice oa O.length oc) O) := Lib.hid hov
  have Hin := Lib.hid hin
  have hlen8 : O.length ≤ 8 := by omega
  clear hov hin hlen G6
  go_loopw [13, 23] (fun s13 s23 wr => ∃ j : Nat, j ≤ O.length ∧ s23 = .int .i64 j ∧ Blk wr w4.heap.size #[.int .u64 (foldB c t l k ((O.take j).filter (okShard c t l k))).1, .int .u64 (foldB c t l k ((O.take j).filter (okShard c t l k))).2] ∧ w6.grownBy wr (some w4.heap.size) ∧ w4.grownBy wr none) (fun _ s23 _ => O.length - (intOf s23).toNat)
  case atStart => exact ⟨0, Nat.zero_le _, rfl, kb, grownBy_refl _ _, K6⟩
  case round =>
    obtain ⟨j, hj, rfl, kb, h6, h4⟩ := hrel
    by_cases hlt : j < O.length
    · obtain ⟨g, off, cap, hv, hgl, c0⟩ := ((HO.out.kept h6 (fun g hg e => hbase g hg (by injection e with e; exact e.symm))).rd).one int_one hlt
      cases hv
      have hF := fold_step c t l k O hlt
      obtain ⟨hx0, hx1⟩ := Hin.out _ (List.getElem_mem hlt)
      obtain ⟨hwa, hwb⟩ := foldB_w (c := c) (t := t) ho k ((O.take j).filter (okShard c t l k))
      have EE := E4.same h4
      generalize foldB c t l k ((O.take j).filter (okShard c t l k)) = f at *
      have kbc := kb.cell
      have kbf := kb.free
      cases hok : okShard c t l k O[j]
      · have hcall := lineFn_no b bs w.heap.size (b + 1) c t _ _ l k wr EE f.1 f.2 O[j] hok hx0 (by omega)
        rw [hok, if_neg (by decide)] at hF
        have HF := Lib.hid hF
        clear hok hF
        generalize O[j] = x at *
        go_wp2_with (go_at_call 78; refine hcall.mono ?_; rintro e w7 ⟨rfl, G7⟩; have kb7 := kb.same G7; have kbc7 := kb7.cell; have kbf7 := kb7.free)
        exact ⟨⟨j + 1, by omega, by go_num, by rw [HF.out]; exact (kb7.set_ 0 _ rfl).set_ 1 _ rfl, grownBy_set (grownBy_set (grownBy_trans h6 (grownBy_some G7 _)) 0 _) 1 _, grownBy_setNew (grownBy_setNew (grownBy_trans h4 G7) (Nat.le_refl _) _) (Nat.le_refl _) _⟩, by simp [intOf]; omega⟩
      · have hcall := lineFn_yes b bs w.heap.size (b + 1) c t _ _ l k wr EE ho hk f.1 f.2 O[j] hwa hwb hok hx0 (by omega)
        rw [hok, if_pos rfl] at hF
        have HF := Lib.hid hF
        clear hok hF
        generalize O[j] = x at *
        generalize hbp : bP c t l k x = bx at *
        clear hbp
        go_wp2_with (go_at_call 78; refine hcall.mono ?_; rintro e w7 ⟨rfl, G7⟩; have kb7 := kb.same G7; have kbc7 := kb7.cell; have kbf7 := kb7.free)
        exact ⟨⟨j + 1, by omega, by go_num, by rw [HF.out]; exact (kb7.set_ 0 _ rfl).set_ 1 _ rfl, grownBy_set (grownBy_set (grownBy_trans h6 (grownBy_some G7 _)) 0 _) 1 _, grownBy_setNew (grownBy_setNew (grownBy_trans h4 G7) (Nat.le_refl _) _) (Nat.le_refl _) _⟩, by simp [intOf]; omega⟩
    · have hl : foldB c t l k ((O.take j).filter (okShard c t l k)) = lineF c t l k := by rw [List.take_of_length_le (by omega)]; exact Hfin.out
      rw [hl] at kb
      clear hl Hfin
      generalize lineF c t l k = f at *
      have kbc := kb.cell
      have kkc := (E4.same h4).kk.cell
      have krc := (kr4.same h4).cell
      have krf := (kr4.same h4).free
      have hzz : b + 1 + 1 ≠ w4.heap.size := by have := kr4.lt; omega
      go_wp2_with fail
      have BZ := (((kr4.same h4).set_ 0 (.string k) rfl).set_ 1 (.int .u64 f.1) rfl).set_ 2 (.int .u64 f.2) rfl
      have bz := BZ.cell
      refine bodyPost_ret (v := lineV k f.1 f.2) (by simp [results, Try.results33, go_sem, bz]) rfl ?_
      exact retVal rfl (grownBy_setNew (grownBy_setNew (grownBy_setNew (grownBy_trans K4 h4) (by simp; omega) _) (by simp; omega) _) (by simp; omega) _)
end Go.Proofs.Ytiagjiaahnkefaa
