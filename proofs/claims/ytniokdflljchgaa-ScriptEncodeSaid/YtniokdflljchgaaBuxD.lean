/- Several texts in one file; each begins with a comment that says what is proved in it. -/
import Derived.Test.YtniokdflljchgaaVar
import Derived.Laws.CopyRow
import Derived.Test.YtniokdflljchgaaBuxB
import Derived.Test.YtniokdflljchgaaBuxC

/- append(s, make([]byte, n)...): zeros behind the bytes of a slice of the call's own. -/
namespace Go.Proofs.Ytniokdflljchgaa
open Go.RowKit

theorem zeros_by (m : Nat) : (Builtin.zeroCells (#[.int .u8 0] : Array Value) m).toList = cellsOf byF (List.replicate m (0 : UInt8)) := by
  have h3 : cellsOf byF (List.replicate m (0 : UInt8)) = List.replicate m (Value.int .u8 0) := by
    induction m with
    | zero => rfl
    | succ m ih => simp [cellsOf, byF, List.replicate_succ] at ih ⊢; exact ih
  rw [h3]
  apply List.ext_getElem
  · simp [Builtin.zeroCells]
  · intro i h1 h2
    simp [Builtin.zeroCells, Nat.mod_one]
theorem run_apz {w : World} {ty : TypeId} {base : Nat} {v : Value} {n : Nat} {xs : List Value} (hown : w.ownsRow base 5 1 v n xs) (m : Nat) (h63 : n + m ≤ 1000000000) (hbase : base ≤ w.heap.size) :
    ∃ v' w', (Builtin.append_ #[28, 3] ty #[v, .int .i64 m]).run Try.prog w = .ok v' w' ∧ w'.ownsRow base 5 1 v' (n + m) (xs ++ cellsOf byF (List.replicate m (0 : UInt8))) ∧ w.grownBy w' v.ownBlock ∧ Lies v v' w.heap.size := by
  obtain ⟨i, hi, hz0, hz1, hz2⟩ := info_parts elt_by.info
  have ht := elt_by.ht
  have hit := Try.underlying3
  have hw : IntKind.i64.wrap (m : Int) = (m : Int) := by have := IntKind.wrap_i64 (m : Int); rw [this]; omega
  have hneg : ¬ ((m : Int) < 0) := by omega
  have hbig : ¬ (281474976710656 < (m : Int)) := by omega
  have hl : (cellsOf byF (List.replicate m (0 : UInt8))).length = m := by rw [length_cellsOf byF 1 byF_len]; simp
  have h1 : ∀ u ∈ cellsOf byF (List.replicate m (0 : UInt8)), u.oneCell' = true := one_by.cells _
  have hzb := zeros_by m
  generalize cellsOf byF (List.replicate m (0 : UInt8)) = news at *
  have hlen : (xs ++ news).length = (n + m) * 1 := by rw [List.length_append, hown.1, hl]; omega
  have happ : ∀ w' : World, (if m * 1 = 0 then (pure #[] : Sem (Array Value)) else do pure (Builtin.zeroCells (← zeroValue 5).cells m)).run Try.prog w' = .ok news.toArray w' := by
    intro w'
    by_cases h0 : m = 0
    · subst h0
      have : news = [] := List.eq_nil_of_length_eq_zero hl
      subst this
      simp
    · simp [h0, zeroValue, typeInfo, hi, hz0, Value.cells, ← hzb]
  have hzb' : Builtin.zeroCells (#[.int .u8 0] : Array Value) m = news.toArray := by rw [← hzb]
  have grown : ∀ (old : Nat), old < n + m → ∀ (row : Option Nat),
      (w.drew.alloc (.cells (xs.toArray ++ news.toArray ++ Builtin.zeroCells #[.int .u8 0] (grownCap w (n + m) old 5 - (n + m))) 5)).ownsRow base 5 1
        (.slice (some ⟨w.heap.size, 0, none⟩) (n + m) (grownCap w (n + m) old 5)) (n + m) (xs ++ news) ∧
      w.grownBy (w.drew.alloc (.cells (xs.toArray ++ news.toArray ++ Builtin.zeroCells #[.int .u8 0] (grownCap w (n + m) old 5 - (n + m))) 5)) row := by
    intro old ho row
    have hge := grownCap_ge w (n + m) old 5
    have hcm : grownCap w (n + m) old 5 ≤ maxLen := grownCap_le_maxLen w (n + m) old _ (by unfold maxLen; omega)
    refine ⟨⟨hlen, .inr ⟨w.heap.size, _, _, rfl, hbase, heap_alloc_new w.drew _, hge, hcm, ?_, ?_⟩⟩, grownBy_new_block (grownBy_drew (grownBy_refl _ _)) _⟩
    · simp only [Array.size_append, List.size_toArray, size_zeroCells, hown.1, hl]
      simp
      omega
    · simp only [Array.toList_append, List.append_assoc]
      rw [← List.append_assoc, ← hlen]
      exact List.take_left
  rcases hown.2 with ⟨rfl, rfl⟩ | ⟨g, cap, cur, rfl, hbg, hg, hnc, hcm, hcs, htake⟩
  · have hx : xs = [] := List.eq_nil_of_length_eq_zero (by simpa using hown.1)
    subst hx
    by_cases hm : m = 0
    · subst hm
      have hn : news = [] := List.eq_nil_of_length_eq_zero hl
      subst hn
      refine ⟨.slice none 0 0, w, ?_, World.ownsRow_nil w base _ 1, World.grownBy.refl w _, .inl rfl⟩
      simp [Builtin.append_, run_underlying ht, run_underlying hit, sizeOf, typeInfo, hi, asInt, asIntOf, IntKind.wrap_i64]
    · obtain ⟨g1, g2⟩ := grown 0 (by omega) (Value.ownBlock (.slice none 0 0))
      refine ⟨_, _, ?_, by simpa using g1, by simpa using g2, .inr ⟨w.heap.size, rfl, Nat.le_refl _⟩⟩
      have hfit : Builtin.nextslicecap (0 + m) 0 * 1 ≤ 281474976710656 := growslice_fits (by omega) (by omega)
      have hfit' : ¬ (281474976710656 < Builtin.nextslicecap m 0) := by simp at hfit; omega
      have hb63 : ¬ (9223372036854775807 < (m : Int)) := by omega
      simp [Builtin.append_, run_underlying ht, run_underlying hit, sizeOf, typeInfo, zeroValue, hi, hz0, hz1, hz2, asInt, asIntOf, hw, hneg, hbig, hm, hfit', hb63, Question.forced, Builtin.firstCells, newRow, grownCap, Value.cells, hzb']
  · by_cases hroom : n + m ≤ cap
    · have hfit : n + 0 + news.length ≤ cur.size := by omega
      have hst := run_storeCells_at Try.prog g n _ news 0 cur w hg hfit h1
      refine ⟨.slice (some ⟨g, 0, none⟩) (n + m) cap, w.setRow g (cur.toList.take (n + 0) ++ news ++ cur.toList.drop (n + 0 + news.length)).toArray, ?_, ⟨hlen, .inr ⟨g, cap, _, rfl, hbg, setRow_heap w g cur _ _ _ hg, hroom, hcm, ?_, ?_⟩⟩, ⟨rfl, rfl, rfl, by simp, fun k _ hk => setRow_other w g k _ (fun e => hk (by simp [Value.ownBlock, e]))⟩, .inl rfl⟩
      · simp only [Nat.add_zero] at hst
        by_cases h0 : m = 0
        · subst h0
          have : news = [] := List.eq_nil_of_length_eq_zero hl
          subst this
          simp [Builtin.append_, run_underlying ht, run_underlying hit, sizeOf, typeInfo, hi, hz1, asInt, asIntOf, IntKind.wrap_i64, hnc, Addr.add_lit, hst]
        · simp [Builtin.append_, run_underlying ht, run_underlying hit, sizeOf, typeInfo, zeroValue, hi, hz0, hz1, hz2, asInt, asIntOf, hw, hneg, hbig, h0, hroom, Value.cells, hzb', Addr.add_lit, hst]
      · simp only [List.size_toArray, List.length_append, List.length_take, List.length_drop, Array.length_toList]
        omega
      · have e1 : cur.toList.take n = xs := by rw [← htake]; simp
        simp only [Nat.add_zero, e1, ← hlen, List.append_assoc]
        rw [← List.append_assoc]
        exact List.take_left
    · obtain ⟨g1, g2⟩ := grown cap (by omega) (Value.ownBlock (.slice (some ⟨g, 0, none⟩) n cap))
      refine ⟨_, _, ?_, g1, g2, .inr ⟨w.heap.size, rfl, Nat.le_refl _⟩⟩
      have hfit : Builtin.nextslicecap (n + m) cap * 1 ≤ 281474976710656 := growslice_fits (by omega) (by omega)
      have hfit' : ¬ (281474976710656 < Builtin.nextslicecap (n + m) cap) := by omega
      have hb63 : ¬ (9223372036854775807 < (n : Int) + (m : Int)) := by omega
      have h0 : m ≠ 0 := by omega
      have holds : ∀ j u, xs[j]? = some u → w.drew.cell? ((⟨g, 0, none⟩ : Addr).add j) = some u := fun j u hu => (hown.cells (g := g) rfl) j u hu
      have hold := run_firstCells_some (P := Try.prog) w.drew 1 n ⟨g, 0, none⟩ n cap xs hown.1 holds
      simp [Builtin.append_, run_underlying ht, run_underlying hit, sizeOf, typeInfo, zeroValue, hi, hz0, hz1, hz2, asInt, asIntOf, hw, hneg, hbig, h0, hroom, hfit', hb63, Question.forced, newRow, grownCap, Value.cells, hzb', hold]
      have ea : ∀ Z : Array Value, xs.toArray ++ (news.toArray ++ Z) = (xs ++ news).toArray ++ Z := fun Z => by
        apply Array.ext'
        simp [List.append_assoc]
      rw [ea]
section
variable {w : World} {B : Nat} {v : Value} {l : List UInt8} {o : Oper} {a : Act} {ops : Array Oper} {rest : List Oper} {Q : Exit → Act → World → Prop}
/-- append of zeros, in a region that is carried out in order. -/
theorem app_zeros (hown : Own byF 1 5 B w v l) (m : Nat) (hb : l.length + m ≤ 1000000000) (hbase : B ≤ w.heap.size)
    (hgd : o.guard = none) (s x : Operand) (ho : o.op = .call { callee := .builtin .append, args := #[s, x], argTypes := #[28, 3] }) (hs : a.eval s = v) (hx : a.eval x = .int .i64 m)
    (h : ∀ v' w', Own byF 1 5 B w' v' (l ++ List.replicate m 0) → w.grownBy w' v.ownBlock → Lies v v' w.heap.size → wpList Try.prog ops Q rest (a.put o.dst v') w') : wpList Try.prog ops Q (o :: rest) a w :=
  wpList_plain hgd fun _ hK => by
    obtain ⟨v', w', hrun, h2, h3, h4⟩ := run_apz (ty := o.type) hown m hb hbase
    unfold Oper.wp execOp
    simp only [ho, resolve, invoke, builtin, Sem.run_bind, Sem.run_pure, Result.andThen_ok, List.map_toArray, List.map_cons, List.map_nil, hs, hx, hrun]
    exact hK _ _ (h v' w' (by unfold Own; rw [cellsOf_append, List.length_append, List.length_replicate]; exact h2) h3 h4)
end
end Go.Proofs.Ytniokdflljchgaa

/- Operations that are changed in one place. -/
namespace Go.Proofs.Ytniokdflljchgaa
open Go.RowKit Go.Sort

theorem rd_cell1 {α : Type} {f : α → List Value} {s : Nat} {w : World} {v : Value} {l : List α} (h : RdL f s w v l) : v.oneCell' = true := by
  obtain ⟨_, _, rfl⟩ := Rd.shape h; rfl
theorem ops_one {w : World} {v : Value} {L : List OpR} (h : OpsRd w v L) : ∀ u ∈ cellsOf opF L, u.oneCell' = true := fun u hu => by
  obtain ⟨o, ho, hx⟩ := List.mem_flatMap.1 hu
  have h1 := rd_cell1 (h.all o ho).data
  have h2 := rd_cell1 (h.all o ho).picks
  simp only [opF, List.mem_cons, List.not_mem_nil, or_false] at hx
  rcases hx with rfl | rfl | rfl | rfl | rfl | rfl <;> first | rfl | assumption
theorem intCells_list (l : List Int) : (intCells l).toList = cellsOf intF l := by
  induction l with
  | nil => rfl
  | cons a l ih => simp [intCells, cellsOf, intF] at ih ⊢; exact ih
/-- Operations, and that their keys have a length that the machine bears. -/
def SpoS (w : World) (e : Ending) (w' : World) : Prop := ∃ v M, e = .returned v ∧ OpsRd w' v M ∧ (∀ o ∈ M, o.key.size ≤ 9223372036854775807) ∧ w.grownBy w' none
theorem spo_fin {w w2 : World} {v : Value} {L : List OpR} (h : OpsRd w v L) (hk : ∀ o ∈ L, o.key.size ≤ 9223372036854775807) {g cap jj j : Nat} (o2 : Own opF 6 30 w.heap.size w2 (.slice (some ⟨g, 0, none⟩) L.length cap) L) (G2 : w.grownBy w2 none) (hjj : jj < L.length) (hj : j < 6) (u : Value) (y : OpR) (hy : opF y = (opF L[jj]).set j u)
    (hyR : ∀ w', w2.grownBy w' (some g) → w.grownBy w' none → OpRd w' y) (hyk : y.key.size ≤ 9223372036854775807) : SpoS w (.returned (.slice (some ⟨g, 0, none⟩) L.length cap)) (w2.setCell ⟨g, jj * 6 + j, none⟩ u) := by
  obtain ⟨st, gz⟩ := o2.stored opF_len hjj hj u y hy
  have hg := (o2.lt g rfl).1
  have G := grownBy_new G2 gz hg
  refine ⟨_, L.set jj y, rfl, ⟨st.rd, fun o ho => ?_⟩, fun o ho => ?_, G⟩
  · rcases List.mem_or_eq_of_mem_set ho with h1 | h1
    · exact (h.all o h1).same G
    · exact h1 ▸ hyR _ gz G
  · rcases List.mem_or_eq_of_mem_set ho with h1 | h1
    · exact hk o h1
    · exact h1 ▸ hyk

set_option maxHeartbeats 3200000 in
set_option maxRecDepth 100000 in
theorem spoilt33_c (v : Value) (L : List OpR) (at_ n : Int) (w : World) (h : OpsRd w v L) (h0 : ∀ o ∈ L, opE o = 0) (hl : 1 ≤ L.length ∧ L.length ≤ 9) : Calls Try.prog 12 #[v, .int .i64 at_, .int .i64 n] w (SpoS w) := by
  obtain ⟨la, lc, rfl⟩ := h.rd.shape
  have H := Lib.hid h
  have HK := Lib.hid (fun o ho => opE_key (h0 o ho) : ∀ o ∈ L, o.key.size ≤ 9223372036854775807)
  have HE := Lib.hid h0
  have hone := ops_one h
  have R1 := h.rd.same (World.grownBy_alloc w (.cells #[] 30) none)
  have N1 := own_lit0 (e := 30) opF 6 (Nat.le_refl w.heap.size)
  have hb1 : L.length * 88 ≤ 140737488355328 := by omega
  have hb2 : L.length ≤ 9223372036854775807 := by omega
  have ha15 : bits .and .i64 (at_ / 8) 15 = at_ / 8 % 16 := and_low _ 4 (by omega)
  have ha7 : bits .and .i64 at_ 7 = at_ % 8 := and_low at_ 3 (by omega)
  have hq0 := Int.emod_nonneg at_ (show (8 : Int) ≠ 0 by decide)
  have hq1 := Int.emod_lt_of_pos at_ (show (0 : Int) < 8 by decide)
  have hm0 := Int.emod_nonneg (at_ / 8) (show (16 : Int) ≠ 0 by decide)
  generalize at_ / 8 % 16 = m at *
  generalize at_ % 8 = q at *
  go_enter Try.func12, Try.ntmps12
  go_upto_region 2 with (at_builtin; refine app_litV elt_op hone N1 R1 rfl hb1 hb2 (by simp) (by rfl) _ _ (by rfl) (by rfl) (by rfl) ?_; intro v2 w2 o2 g2 l2; obtain ⟨a2, c2, rfl⟩ := o2.shape)
  have G2 : w.grownBy w2 none := grownBy_trans (World.grownBy_alloc w _ none) g2
  clear hone N1 R1 g2 l2 h h0 hb1 hb2
  have hmz : ((L.length : Int) == 0) = false := by rw [beq_eq_false_iff_ne]; omega
  obtain ⟨jj, hj1, hj2⟩ : ∃ jj : Nat, m.tmod (L.length : Int) = (jj : Int) ∧ jj < L.length := ⟨m.toNat % L.length, by
    obtain ⟨q', rfl⟩ := Int.eq_ofNat_of_zero_le hm0
    rw [Int.toNat_natCast]; rfl, Nat.mod_lt _ (by omega)⟩
  obtain ⟨g, cap, hv, hglo, hghi, hcap, hc, hf⟩ := o2.at_ opF_len hj2
  cases hv
  have HO := Lib.hid o2
  clear o2 hc
  go_upto_region 3 with fail
  have hx := H.out.all _ (List.getElem_mem hj2)
  have e0 := HE.out _ (List.getElem_mem hj2)
  have hxk := HK.out _ (List.getElem_mem hj2)
  have HF := Lib.hid (fun (w3 : World) (o3 : Own opF 6 30 w.heap.size w3 (.slice (some ⟨g, 0, none⟩) L.length c2) L) (G3 : w.grownBy w3 none) (j : Nat) (hj : j < 6) (u : Value) (y : OpR) (hy : opF y = (opF L[jj]).set j u) (hyR : ∀ w', w3.grownBy w' (some g) → w.grownBy w' none → OpRd w' y) (hyk : y.key.size ≤ 9223372036854775807) => spo_fin H.out HK.out o3 G3 hj2 hj u y hy hyR hyk)
  have HC := Lib.hid (fun w3 o3 => by obtain ⟨g', cap', hv, _, _, _, h1, h2⟩ := Own.at_ o3 opF_len hj2; cases hv; exact ⟨h1, h2⟩ : ∀ (w3 : World), Own opF 6 30 w.heap.size w3 (.slice (some ⟨g, 0, none⟩) L.length c2) L → (∀ j u, (opF L[jj])[j]? = some u → w3.cell? ⟨g, jj * 6 + j, none⟩ = some u) ∧ ∀ j, w3.frozen? ⟨g, j, none⟩ = false)
  generalize L[jj] = x at *
  obtain ⟨xk, xvd, xt, xs, xy, xvp, xd, xp⟩ := x
  obtain ⟨da, dc, e1⟩ := hx.data.shape
  obtain ⟨pa, pc, e2⟩ := hx.picks.shape
  dsimp only at *
  subst e1 e2
  obtain ⟨hxd, hxp⟩ : xd.length ≤ 4096 ∧ xp.length ≤ 8 := by
    have := (opE_iff.1 e0).2.1
    simp [longB] at this
    omega
  have HX := Lib.hid hx
  clear hx e0 hf hmz hj1 ha15 hm0
  obtain ⟨c0, f0⟩ := HC.out w2 HO.out
  have k0 := c0 0 _ rfl
  have k1 := c0 1 _ rfl
  have k2 := c0 2 _ rfl
  have k3 := c0 3 _ rfl
  have k4 := c0 4 _ rfl
  have k5 := c0 5 _ rfl
  rw [Nat.add_zero] at k0
  clear c0
  rcases (show q = 0 ∨ q = 1 ∨ q = 2 ∨ q = 3 ∨ q = 4 ∨ q = 5 ∨ q = 6 ∨ q = 7 by omega) with rfl | rfl | rfl | rfl | rfl | rfl | rfl | rfl
  · go_wp2_with fail
    go_ret
    exact HF.out w2 HO.out G2 0 (by omega) (.int .i64 n) ⟨n, _, xt, xs, xy, _, xd, xp⟩ rfl (fun w' _ G => ⟨HX.out.data.same G, HX.out.picks.same G, HX.out.dcap, HX.out.pcap⟩) hxk
  · go_wp2_with fail
    go_ret
    exact HF.out w2 HO.out G2 2 (by omega) (.int .i64 n) ⟨xk, _, n, xs, xy, _, xd, xp⟩ rfl (fun w' _ G => ⟨HX.out.data.same G, HX.out.picks.same G, HX.out.dcap, HX.out.pcap⟩) hxk
  · go_wp2_with fail
    go_ret
    exact HF.out w2 HO.out G2 3 (by omega) (.int .i64 n) ⟨xk, _, xt, n, xy, _, xd, xp⟩ rfl (fun w' _ G => ⟨HX.out.data.same G, HX.out.picks.same G, HX.out.dcap, HX.out.pcap⟩) hxk
  · clear k0 k1 k2 k3 k4 k5 f0
    have R := Lib.hid ((HX.out.picks.same G2).same (World.grownBy_alloc w2 (.cells #[] 3) none))
    have N := Lib.hid (own_lit0 (e := 3) intF 1 (Nat.le_refl w2.heap.size))
    have k5 := (HC.out _ (HO.out.same (World.grownBy_alloc w2 (.cells #[] 3) none))).1 5 _ rfl
    have hb1 : xp.length * 8 ≤ 140737488355328 := by omega
    have hb2 : xp.length ≤ 9223372036854775807 := by omega
    have hb3 : (xp.length + 1) * 8 ≤ 140737488355328 := by omega
    have hb4 : xp.length + 1 ≤ 9223372036854775807 := by omega
    go_upto_region 12 with fail
    go_wp2_with (first
      | (at_builtin; refine app_lit elt_intI one_intI N.out R.out rfl hb1 hb2 (by simp) (by rfl) _ _ (by rfl) (by rfl) (by rfl) ?_; intro v3 w3 o3 g3 l3; obtain ⟨a3, c3, rfl⟩ := o3.shape; have K3 := grownBy_trans (World.grownBy_alloc w2 (.cells #[] 3) none) g3; clear g3 l3 k5)
      | (at_builtin; refine app_one elt_intI one_intI intF_len o3 n hb3 hb4 K3.size rfl (by rfl) _ _ (by rfl) (by rfl) (by rfl) ?_; intro v4 w4 o4 g4 l4; have K4 := grown_own K3 o3 (Nat.le_refl _) g4; generalize xp ++ [n] = q4 at o4; obtain ⟨a4, c4, rfl⟩ := o4.shape; have O4 := HO.out.same K4; obtain ⟨c5, f5⟩ := HC.out w4 O4; have k5 := c5 5 _ rfl; clear g4 l4 o3 c5))
    go_ret
    exact HF.out w4 O4 (grownBy_trans G2 K4) 5 (by omega) (.slice a4 q4.length c4) ⟨xk, _, xt, xs, xy, _, xd, q4⟩ rfl (fun w' g' G => ⟨HX.out.data.same G, (o4.kept g' (fun k hk e => by cases e; have := (o4.lt _ hk).1; omega)).rd, HX.out.dcap, fun a n c e => by cases e; exact o4.cap⟩) hxk
  · go_wp2_with fail
    go_ret
    exact HF.out w2 HO.out G2 4 (by omega) (.string ⟨#[120]⟩) ⟨xk, _, xt, xs, ⟨#[120]⟩, _, xd, xp⟩ rfl (fun w' _ G => ⟨HX.out.data.same G, HX.out.picks.same G, HX.out.dcap, HX.out.pcap⟩) (by show (1 : Nat) ≤ _; omega)
  · clear k0 k1 k2 k3 k4 k5 f0
    have hn4 : bits .and .i64 n 15 = n % 16 := and_low n 4 (by omega)
    obtain ⟨mm, hmm⟩ : ∃ mm : Nat, n % 16 = (mm : Int) := ⟨(n % 16).toNat, by omega⟩
    have hmm2 : mm < 16 := by omega
    rw [hmm] at hn4
    have HM := fun w => make_ints mm (by omega) w
    have O3 := HO.out.same (World.grownBy_alloc w2 (.cells (intCells (List.replicate mm 0)) 3) none)
    have A3 := Lib.hid (Blk.new w2 (intCells (List.replicate mm 0)) 3)
    have G3 := grownBy_trans G2 (World.grownBy_alloc w2 (.cells (intCells (List.replicate mm 0)) 3) none)
    obtain ⟨c5, f5⟩ := HC.out _ O3
    have k5 := c5 5 _ rfl
    have HL := Lib.hid (intCells_list (List.replicate mm 0))
    have H3 := Lib.hid (And.intro O3 G3)
    clear hmm c5 O3 G3
    generalize intCells (List.replicate mm 0) = Z at *
    go_wp2_with fail
    go_ret
    rw [← World.setCell_alloc_past (hn := hghi)]
    refine HF.out _ H3.out.1 H3.out.2 5 (by omega) (.slice (some ⟨w2.heap.size, 0, none⟩) mm mm) ⟨xk, _, xt, xs, xy, _, xd, List.replicate mm 0⟩ rfl (fun w' g' G => ⟨HX.out.data.same G, ?_, HX.out.dcap, ?_⟩) hxk
    rotate_left
    · intro a n c e; dsimp only at e; cases e; exact Nat.le_refl _
    have := blk_rd (f := intF) (size := 1) (A3.out.kept g' (by simp; omega)) intF_len (List.replicate mm 0) HL.out (by simp; omega)
    rw [List.length_replicate] at this
    exact this
  · clear k0 k1 k2 k3 k4 k5 f0
    have hn13 : bits .and .i64 n 8191 = n % 8192 := and_low n 13 (by omega)
    obtain ⟨mm, hmm⟩ : ∃ mm : Nat, n % 8192 = (mm : Int) := ⟨(n % 8192).toNat, by omega⟩
    have hmm2 : mm < 8192 := by omega
    rw [hmm] at hn13
    have R := Lib.hid ((HX.out.data.same G2).same (World.grownBy_alloc w2 (.cells #[] 5) none))
    have N := Lib.hid (own_lit0 (e := 5) byF 1 (Nat.le_refl w2.heap.size))
    have k1 := (HC.out _ (HO.out.same (World.grownBy_alloc w2 (.cells #[] 5) none))).1 1 _ rfl
    have hb1 : xd.length * 1 ≤ 140737488355328 := by omega
    have hb2 : xd.length ≤ 9223372036854775807 := by omega
    have hb3 : xd.length + mm ≤ 1000000000 := by omega
    clear hmm
    go_upto_region 18 with fail
    go_wp2_with (first
      | (at_builtin; refine app_lit elt_by one_by N.out R.out rfl hb1 hb2 (by simp) (by rfl) _ _ (by rfl) (by rfl) (by rfl) ?_; intro v3 w3 o3 g3 l3; obtain ⟨a3, c3, rfl⟩ := o3.shape; have K3 := grownBy_trans (World.grownBy_alloc w2 (.cells #[] 5) none) g3; clear g3 l3 k1)
      | (at_builtin; refine app_zeros o3 mm hb3 K3.size (by rfl) _ _ (by rfl) (by rfl) (by rfl) ?_; intro v4 w4 o4 g4 l4; have K4 := grown_own K3 o3 (Nat.le_refl _) g4; generalize xd ++ List.replicate mm 0 = q4 at o4; obtain ⟨a4, c4, rfl⟩ := o4.shape; have O4 := HO.out.same K4; obtain ⟨c5, f5⟩ := HC.out w4 O4; have k1 := c5 1 _ rfl; clear g4 l4 o3 c5))
    go_ret
    exact HF.out w4 O4 (grownBy_trans G2 K4) 1 (by omega) (.slice a4 q4.length c4) ⟨xk, _, xt, xs, xy, _, q4, xp⟩ rfl (fun w' g' G => ⟨(o4.kept g' (fun k hk e => by cases e; have := (o4.lt _ hk).1; omega)).rd, HX.out.picks.same G, fun a n c e => by cases e; exact o4.cap, HX.out.pcap⟩) hxk
  · have hn3 : bits .and .i64 n 7 = n % 8 := and_low n 3 (by omega)
    generalize n % 8 = n7 at *
    go_wp2_with fail
    go_ret
    exact HF.out w2 HO.out G2 0 (by omega) (.int .i64 n7) ⟨n7, _, xt, xs, xy, _, xd, xp⟩ rfl (fun w' _ G => ⟨HX.out.data.same G, HX.out.picks.same G, HX.out.dcap, HX.out.pcap⟩) hxk
end Go.Proofs.Ytniokdflljchgaa

/- The walk of the law ScriptEncode. -/
namespace Go.Proofs.Ytniokdflljchgaa
open Go.RowKit Go.Sort

/-- An operation with nothing but a kind. -/
def opN (k : Int) : OpR := ⟨k, .slice none 0 0, 0, 0, ⟨#[]⟩, .slice none 0 0, [], []⟩
theorem opN_rd (w : World) (k : Int) : OpRd w (opN k) := opRd_nn w k 0 0 ⟨#[]⟩
def madeOps (m : Nat) : Array Value := madeCells op0 (m * 6)
theorem madeOps_list (m : Nat) : (madeOps m).toList = cellsOf opF (List.replicate m (opN 0)) := by
  apply List.ext_getElem?
  intro i
  by_cases hi : i < m * 6
  · have hr : i % 6 < 6 := Nat.mod_lt _ (by omega)
    have hq : i / 6 < m := by omega
    have h2 := get_cellsOf opF 6 opF_len (List.replicate m (opN 0)) (i / 6) (i % 6) hr (opN 0) (by simp [hq])
    rw [Nat.div_add_mod' i 6] at h2
    rw [h2]
    have h3 : (madeOps m).toList[i]? = some (op0[i % 6]!) := by
      simp [madeOps, madeCells, hi]
    rw [h3]
    generalize i % 6 = r at *
    rcases (show r = 0 ∨ r = 1 ∨ r = 2 ∨ r = 3 ∨ r = 4 ∨ r = 5 by omega) with rfl | rfl | rfl | rfl | rfl | rfl <;> rfl
  · rw [List.getElem?_eq_none (by simp [madeOps, madeCells]; omega), List.getElem?_eq_none (by rw [length_cellsOf opF 6 opF_len]; simp; omega)]
theorem make_ops (m : Nat) (hm : m ≤ 10000) (w : World) :
    (Instr.makeSlice 22 (.int .i64 m) (.int .i64 m)).run Try.prog w = .ok (.slice (some ⟨w.heap.size, 0, none⟩) m m) (w.alloc (.cells (madeOps m) 30)) := by
  obtain ⟨i0, hi, hz0, hz1, hz2⟩ := info_parts elt_op.info
  have := run_make (P := Try.prog) w 22 30 i0 _ Try.underlying22 hi hz0 .i64 .i64 m m (by omega) (by omega) (by rw [hz2]; omega) (by omega)
  rw [this, hz1]
  simp only [Int.toNat_natCast]
  rfl
theorem own_ops {B : Nat} {w : World} (m : Nat) (hm : m ≤ 10000) (hB : B ≤ w.heap.size) : Own opF 6 30 B (w.alloc (.cells (madeOps m) 30)) (.slice (some ⟨w.heap.size, 0, none⟩) m m) (List.replicate m (opN 0)) := by
  have h1 := madeOps_list m
  have h2 : (madeOps m).size = m * 6 := by unfold madeOps; exact size_madeCells _ _
  have h3 : (cellsOf opF (List.replicate m (opN 0))).length = m * 6 := by rw [length_cellsOf opF 6 opF_len, List.length_replicate]
  unfold Own
  rw [List.length_replicate]
  refine ⟨h3, .inr ⟨w.heap.size, m, madeOps m, rfl, hB, heap_alloc_new w _, Nat.le_refl _, by unfold maxLen; omega, h2, ?_⟩⟩
  rw [h1]
  exact List.take_of_length_le (by omega)

set_option maxHeartbeats 3200000 in
set_option maxRecDepth 100000 in
theorem senc_w (ra : Option Addr) (rc : Nat) (rl : List OpR) (sv : Value) (xs : List Int) (k : Nat) (at_ n many : Int) (w : World) (hR : OpsRd w (.slice ra rl.length rc) rl) (hW : ∀ o ∈ rl, o.key.size ≤ 9223372036854775807)
    (hsv : Rd w 1 sv k (xs.map (fun x => Value.int .i64 x))) (hmany : 0 ≤ many ∧ many ≤ 65535) :
    Calls Try.prog 3 #[.slice ra rl.length rc, sv, .int .i64 at_, .int .i64 n, .int .u16 many] w (RetBool true w) := by
  have HS := Lib.hid hsv
  obtain ⟨sa, sc, rfl⟩ := hsv.shape
  have Hpl := Lib.hid (plain33_c _ rl w hR)
  have HR := Lib.hid hR
  have HW := Lib.hid hW
  clear hsv hR hW
  generalize plainS rl = pb at *
  obtain ⟨mn, rfl⟩ := Int.eq_ofNat_of_zero_le hmany.1
  have hcv : IntKind.i64.wrap (mn : Int) = (mn : Int) := by have := IntKind.wrap_i64 (mn : Int); rw [this]; omega
  have htm : (mn : Int).tmod 5000 = ((mn % 5000 : Nat) : Int) := rfl
  have hml : mn % 5000 < 5000 := Nat.mod_lt _ (by omega)
  generalize mn % 5000 = ml at *
  have HM := fun w => make_ops ml (by omega) w
  go_enter Try.func3, Try.ntmps3
  cases pb
  · go_wp2_with (first
      | (go_at_call 9; refine Hpl.out.mono ?_; rintro e w1 ⟨rfl, g1⟩)
      | (go_at_call 10; refine (awake33_c _).mono ?_; rintro e w6 ⟨rfl, G6⟩))
    go_ret
    exact retBool rfl (grownBy_trans g1 G6)
  go_upto_region 3 with (go_at_call 9; refine Hpl.out.mono ?_; rintro e w1 ⟨rfl, g1⟩)
  have HSb := Lib.hid (Rd.same HS.out g1)
  go_upto_region 4 with (go_at_call 11; refine (ops33_c _ _ _ _ HSb.out).mono ?_; rintro e w5 ⟨v, L, rfl, o1, ok1, hl1, g5⟩; obtain ⟨la, lc, rfl⟩ := o1.own.shape)
  have HG5 := Lib.hid (grownBy_trans g1 g5)
  have HO1 := Lib.hid o1.rd
  have HOK := Lib.hid ok1
  have HLn := Lib.hid hl1
  clear o1 ok1 hl1 g1 g5 HS HSb Hpl
  go_upto_region 5 with fail
  have O6 := own_ops (w := w5) ml (by omega) (Nat.le_refl w5.heap.size)
  have G6 := World.grownBy_alloc w5 (.cells (madeOps ml) 30) none
  generalize w5.alloc (.cells (madeOps ml) 30) = w6 at *
  obtain ⟨g, hgv⟩ : ∃ g, w5.heap.size = g := ⟨_, rfl⟩
  rw [hgv] at O6 ⊢
  have Hgv := Lib.hid hgv
  clear HM htm hcv hgv
  go_upto_region 6 with fail
  go_loopw [32] (fun s32 wr => ∃ (i : Nat) (l : List OpR), i ≤ ml ∧ s32 = .int .i64 i ∧ l.length = ml ∧ Own opF 6 30 g wr (.slice (some ⟨g, 0, none⟩) ml ml) l ∧ (∀ o ∈ l, ∃ k, o = opN k) ∧ w5.grownBy wr none) (fun s32 _ => ml - (intOf s32).toNat)
  case atStart => exact ⟨0, _, Nat.zero_le _, rfl, List.length_replicate, O6, fun o ho => ⟨0, (List.mem_replicate.1 ho).2⟩, G6⟩
  case round =>
    obtain ⟨i, l, hi, rfl, hll, hown, hall, hg⟩ := hrel
    clear O6 G6
    by_cases hlt : i < ml
    · have hil : i < l.length := by omega
      obtain ⟨g', cap', hv, _, _, _, hc, hf⟩ := hown.at_ opF_len hil
      rw [hll] at hv
      cases hv
      have k0 := hc 0 _ rfl
      rw [Nat.add_zero] at k0
      have hi0 : (0 : Int) ≤ (i : Int) := by omega
      have hi1 : (i : Int) < (ml : Int) := by omega
      have HOw := Lib.hid hown
      have HAl := Lib.hid hall
      have Hll := Lib.hid hll
      clear hc hown hall hll
      go_wp2_with fail
      obtain ⟨p, hp⟩ := HAl.out _ (List.getElem_mem hil)
      obtain ⟨st, gz⟩ := HOw.out.stored opF_len hil (j := 0) (by omega) (.int .i64 4) (opN 4) (by rw [hp]; rfl)
      rw [Nat.add_zero] at st gz
      refine ⟨⟨i + 1, l.set i (opN 4), by omega, by go_num, by rw [List.length_set]; exact Hll.out, st, fun o ho => ?_, grownBy_new hg gz (by have := Hgv.out; omega)⟩, by simp [intOf]; omega⟩
      rcases List.mem_or_eq_of_mem_set ho with h1 | h1
      · exact HAl.out o h1
      · exact ⟨4, h1⟩
    · have HQ := Lib.hid (show OpsRd wr (.slice (some ⟨g, 0, none⟩) ml ml) l from ⟨hown.rd, fun o ho => by obtain ⟨p, rfl⟩ := hall o ho; exact opN_rd _ _⟩)
      have HQk := Lib.hid (show ∀ o ∈ l, o.key.size ≤ 9223372036854775807 from fun o ho => by obtain ⟨p, rfl⟩ := hall o ho; show (0 : Nat) ≤ _; omega)
      have HRr := Lib.hid (HR.out.same (grownBy_trans HG5.out hg))
      have HLr := Lib.hid (HO1.out.same hg)
      have HGr := Lib.hid (grownBy_trans HG5.out hg)
      clear hown hall hg HR HO1 HG5 Hgv
      have HQl := Lib.hid hll
      clear hll
      go_upto_region 11 with (go_at_call 12; refine (spoilt33_c _ L at_ n _ HLr.out HOK.out HLn.out).mono ?_; rintro e w8 ⟨v8, M, rfl, R8, K8, G8⟩; obtain ⟨a8, c8, rfl⟩ := R8.rd.shape)
      have Kz := World.grownBy_alloc w8 (.cells #[.slice ra rl.length rc, .slice la L.length lc, .slice a8 M.length c8, .slice (some ⟨g, 0, none⟩) ml ml] 22) none
      have N6 := Lib.hid (Blk.new w8 #[.slice ra rl.length rc, .slice la L.length lc, .slice a8 M.length c8, .slice (some ⟨g, 0, none⟩) ml ml] 22)
      obtain ⟨Rs, hRs⟩ : ∃ Rs : List (Value × List OpR), [(Value.slice ra rl.length rc, rl), (.slice la L.length lc, L), (.slice a8 M.length c8, M), (.slice (some ⟨g, 0, none⟩) ml ml, l)] = Rs := ⟨_, rfl⟩
      have HL := Lib.hid (show RdL opsLF 1 (w8.alloc (.cells #[.slice ra rl.length rc, .slice la L.length lc, .slice a8 M.length c8, .slice (some ⟨g, 0, none⟩) ml ml] 22)) (.slice (some ⟨w8.heap.size, 0, none⟩) 4 4) Rs by
        have h := blk_rd (f := opsLF) (size := 1) N6.out (fun _ => rfl) Rs (by rw [← hRs]; rfl) (by rw [← hRs]; simp)
        have e : Rs.length = 4 := by rw [← hRs]; rfl
        rw [e] at h; exact h)
      have HRs := Lib.hid (show ∀ r ∈ Rs, OpsRd (w8.alloc (.cells #[.slice ra rl.length rc, .slice la L.length lc, .slice a8 M.length c8, .slice (some ⟨g, 0, none⟩) ml ml] 22)) r.1 r.2 ∧ ∀ o ∈ r.2, o.key.size ≤ 9223372036854775807 by
        intro r hr
        rw [← hRs] at hr
        simp only [List.mem_cons, List.not_mem_nil, or_false] at hr
        rcases hr with rfl | rfl | rfl | rfl
        · exact ⟨(HRr.out.same G8).same Kz, HW.out⟩
        · exact ⟨(HLr.out.same G8).same Kz, fun o ho => opE_key (HOK.out o ho)⟩
        · exact ⟨R8.same Kz, K8⟩
        · exact ⟨(HQ.out.same G8).same Kz, HQk.out⟩)
      have HRl := Lib.hid (show Rs.length = 4 by rw [← hRs]; rfl)
      have HKz := Lib.hid (grownBy_trans HGr.out (grownBy_trans G8 Kz))
      clear Kz HRr HLr HQ HQk HGr R8 K8 G8 hRs N6 HW HOK HLn HQl
      generalize w8.alloc (.cells #[.slice ra rl.length rc, .slice la L.length lc, .slice a8 M.length c8, .slice (some ⟨g, 0, none⟩) ml ml] 22) = z at *
      generalize w8.heap.size = g6 at *
      go_loopw [49] (fun s49 wk => ∃ i : Nat, i ≤ 4 ∧ s49 = .int .i64 i ∧ z.grownBy wk none) (fun s49 _ => 4 - (intOf s49).toNat)
      case atStart => exact ⟨0, by omega, rfl, grownBy_refl _ _⟩
      case round =>
        obtain ⟨i, hi, rfl, hg⟩ := hrel
        by_cases hlt : i < 4
        · have hil : i < Rs.length := by rw [HRl.out]; exact hlt
          obtain ⟨gq, oq, cq, hv, hgq, hc⟩ := (HL.out.same hg).at_ (fun _ => rfl) hil
          rw [HRl.out] at hv
          cases hv
          have hc0 := hc 0 _ rfl
          rw [Nat.zero_add, Nat.mul_one, Nat.add_zero] at hc0
          obtain ⟨hr1, hr2⟩ := HRs.out _ (List.getElem_mem hil)
          generalize Rs[i] = r at *
          obtain ⟨pv, pl⟩ := r
          dsimp only at hr1 hr2 hc0
          obtain ⟨pa, pc, rfl⟩ := hr1.rd.shape
          have HC1 := Lib.hid fun w' (h : World.grownBy wr w' none) => (enc_c _ pl w' (hr1.same (grownBy_trans hg h)) hr2).mono fun e w'' h => h.is rfl rfl
          have HC2 := Lib.hid fun w' (h : World.grownBy wr w' none) => (renc_c _ pl w' (hr1.same (grownBy_trans hg h)) hr2).mono fun e w'' h => h.is rfl rfl
          generalize encO pl = Y at *
          generalize encE pl = E at *
          have hEE : (E != E) = false := by simp
          have hi0 : (0 : Int) ≤ (i : Int) := by omega
          have hi3 : (i : Int) < 4 := by omega
          clear hr1 hr2 hc hil
          go_wp2_with (first
            | (go_at_call 13; refine (HC1.out _ (grownBy_refl _ _)).mono ?_; rintro e wc2 ⟨v1, rfl, o1, Kc2⟩; obtain ⟨a4, c4, rfl⟩ := o1.shape)
            | (go_at_call 14; refine (HC2.out _ Kc2).mono ?_; rintro e wd2 ⟨v2, rfl, o2, gd2⟩; obtain ⟨a5, c5, rfl⟩ := o2.shape; have Kd2 := grownBy_trans Kc2 gd2)
            | (go_at_call 15; refine (sameBy_c _ _ Y _ (o1.same gd2).rd o2.rd).mono ?_; rintro e we2 ⟨rfl, ge2⟩; have Ke2 := grownBy_trans Kd2 ge2))
          exact ⟨⟨i + 1, by omega, by go_num, grownBy_trans hg Ke2⟩, by simp [intOf]; omega⟩
        · go_wp2_with (go_at_call 10; refine (awake33_c _).mono ?_; rintro e w6 ⟨rfl, G6⟩)
          go_ret
          exact retBool rfl (grownBy_trans HKz.out (grownBy_trans hg G6))
end Go.Proofs.Ytniokdflljchgaa
