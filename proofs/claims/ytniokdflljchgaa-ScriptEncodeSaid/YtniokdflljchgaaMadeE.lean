/- What the deck makes: keys, events. -/
import Derived.Test.YtniokdflljchgaaMadeT
import Derived.Test.YtniokdflljchgaaEv
import Derived.Test.YtniokdflljchgaaIn
import Derived.Deep.RegionLaw
namespace Go.Proofs.Ytniokdflljchgaa
open Go.RowKit Go.Sort

theorem tagW_of {t : TagR} (h : t.name.size ≤ 70 ∧ t.value.size ≤ 70) : TagW t := ⟨by omega, by omega⟩
theorem TagsM.w {L : List TagR} (h : TagsM L) : ∀ t ∈ L, TagW t := fun t ht => tagW_of (by have := h.size t ht; omega)
theorem TagsM.key {L : List TagR} (h : TagsM L) : keyE L = 0 := by
  have h1 := h.few
  have h2 : sortE L = 0 := sortE_ok (by omega) (tagsE_no h.ok) h.dif
  unfold keyE
  rw [if_neg (by omega), if_neg]
  have h3 : ∀ t ∈ sortT L, (tkB t).length ≤ 18 := fun t ht => by
    have := h.size t ((sortT_mem _ _).1 ht)
    rw [tkB_len]; omega
  have h4 : (kyB (sortT L)).length ≤ 18 * (sortT L).length := by
    generalize sortT L = S at *
    clear h1 h2
    induction S with
    | nil => simp [kyB]
    | cons a S ih =>
      have h5 := ih fun t ht => h3 t (List.mem_cons_of_mem _ ht)
      have h6 := h3 a (by simp)
      simp only [kyB, List.flatMap_cons, List.length_append, List.length_cons] at *
      omega
  rw [sortT_len] at h4
  omega
def KeyD (B b : Nat) (w : World) (e : Ending) (w' : World) : Prop := ∃ L, e = .returned (.string (keyY L)) ∧ TagsM L ∧ Deck B w' b ∧ w.grownBy w' (some b)
theorem keyD_mk {B b : Nat} {w w' : World} {L : List TagR} (h : TagsM L) (hd : Deck B w' b) (hg : w.grownBy w' (some b)) : KeyD B b w (.returned (.string (keyY L))) w' := ⟨L, rfl, h, hd, hg⟩

set_option maxHeartbeats 400000 in
theorem dkey_c {B : Nat} (b : Nat) (w : World) (hd : Deck B w b) (hB : B ≤ w.heap.size) : Calls Try.prog 63 #[.pointer (some ⟨b, 0, none⟩)] w (KeyD B b w) := by
  have Ct := Lib.hid (tagsD_c b w hd hB)
  go_enter Try.func63, Try.ntmps63
  go_wp2_with (first
    | (go_at_call 82; refine Ct.out.mono ?_; rintro e w2 ⟨v2, L, rfl, o2, m2, d2, g2⟩; obtain ⟨a2, c2, rfl⟩ := o2.shape; have Ck := Lib.hid (rkeyT_c _ L w2 o2.rd m2.w))
    | (go_at_call 81; refine Ck.out.mono ?_; rintro e w3 ⟨rfl, g3⟩))
  go_ret
  exact keyD_mk m2 (d2.kept g3 (by simp)) (grownBy_trans g2 (grownBy_some g3 _))

/-- What stands while an event is made: the deck, the result's block, the event's. -/
structure EvS (B b b4 b5 : Nat) (w0 : World) (x : EvR) (w : World) : Prop where
  deck : Deck B w b
  res : Blk w b4 #[.slice none 0 0, .int .i64 0, .int .u64 0]
  box : Blk w b5 #[x.vt, .int .i64 x.time, .int .u64 x.weight]
  own : Own tagF 2 143 (b4 + 1) w x.vt x.tags
  ne : ∀ k, x.vt.ownBlock = some k → k ≠ b5
  G : w0.grownBy w (some b)
  lt : b < B ∧ B ≤ b4 ∧ b4 < b5 ∧ w0.heap.size ≤ b4
section
variable {B b b4 b5 : Nat} {w0 w w' : World} {x : EvR}
theorem EvS.next (h : EvS B b b4 b5 w0 x w) (hd : Deck B w' b) (hg : w.grownBy w' (some b)) : EvS B b b4 b5 w0 x w' := by
  obtain ⟨h1, h2, h3, h4⟩ := h.lt
  exact ⟨hd, h.res.kept hg (by simp; omega), h.box.kept hg (by simp; omega), h.own.kept hg (fun k hk e => by cases e; have := (h.own.lt _ hk).1; omega), h.ne, grownBy_trans h.G hg, h.lt⟩
theorem EvS.same (h : EvS B b b4 b5 w0 x w) (hg : w.grownBy w' none) : EvS B b b4 b5 w0 x w' :=
  ⟨h.deck.kept hg (by simp), h.res.same hg, h.box.same hg, h.own.same hg, h.ne, grownBy_trans h.G (grownBy_some hg _), h.lt⟩
theorem EvS.set (h : EvS B b b4 b5 w0 x w) (y : EvR) (i : Nat) (v : Value) (he : (#[x.vt, .int .i64 x.time, .int .u64 x.weight] : Array Value).setIfInBounds i v = #[y.vt, .int .i64 y.time, .int .u64 y.weight])
    (ho : Own tagF 2 143 (b4 + 1) w y.vt y.tags) (hn : ∀ k, y.vt.ownBlock = some k → k ≠ b5) : EvS B b b4 b5 w0 y (w.setCell ⟨b5, i, none⟩ v) := by
  obtain ⟨h1, h2, h3, h4⟩ := h.lt
  have hg : w.grownBy (w.setCell ⟨b5, i, none⟩ v) (some b5) := grownBy_set (grownBy_refl w (some b5)) i v
  exact ⟨h.deck.kept hg (fun k e => by cases e; omega), h.res.kept hg (by simp; omega), h.box.set_ i v he, ho.kept hg (fun k hk e => by cases e; exact hn _ hk rfl), hn, grownBy_new h.G hg (by omega), h.lt⟩
/-- A cell of the first tag is written. -/
theorem EvS.tag (h : EvS B b b4 b5 w0 x w) {g n c : Nat} (hv : x.vt = .slice (some ⟨g, 0, none⟩) n c) (h0 : 0 < x.tags.length) {j : Nat} (hj : j < 2) (u : Value) (y : TagR) (hy : tagF y = (tagF x.tags[0]).set j u) :
    EvS B b b4 b5 w0 { x with tags := x.tags.set 0 y } (w.setCell ⟨g, j, none⟩ u) := by
  obtain ⟨h1, h2, h3, h4⟩ := h.lt
  have ho := h.own
  rw [hv] at ho
  have hs := ho.stored tagF_len h0 hj u y hy
  rw [Nat.zero_mul, Nat.zero_add] at hs
  have hlt := ho.lt g rfl
  have hne := h.ne g (by rw [hv]; rfl)
  refine ⟨h.deck.kept hs.2 (fun k e => by cases e; omega), h.res.kept hs.2 (by simp; omega), h.box.kept hs.2 (by simpa using hne), ?_, h.ne, grownBy_new h.G hs.2 (by omega), h.lt⟩
  rw [← hv] at hs
  exact hs.1
/-- A tag has been appended: the event's block before the field is written, and behind. -/
theorem EvS.app (h : EvS B b b4 b5 w0 x w) {v' : Value} {l' : List TagR} (o' : Own tagF 2 143 (b4 + 1) w' v' l') (hg : w.grownBy w' x.vt.ownBlock) (hl : Lies x.vt v' w.heap.size) :
    Blk w' b5 #[x.vt, .int .i64 x.time, .int .u64 x.weight] ∧ EvS B b b4 b5 w0 { x with vt := v', tags := l' } (w'.setCell ⟨b5, 0, none⟩ v') := by
  obtain ⟨h1, h2, h3, h4⟩ := h.lt
  have hlo : ∀ k, x.vt.ownBlock = some k → b4 + 1 ≤ k := fun k hk => (h.own.lt k hk).1
  have hb := h.box.kept hg (fun e => h.ne _ e rfl)
  refine ⟨hb, ?_⟩
  have hs : w'.grownBy (w'.setCell ⟨b5, 0, none⟩ v') (some b5) := grownBy_set (grownBy_refl w' (some b5)) 0 v'
  have hn : ∀ k, v'.ownBlock = some k → k ≠ b5 := fun k hk => by
    rcases hl with e | ⟨m, e1, e2⟩
    · exact h.ne k (e ▸ hk)
    · rw [e1] at hk; cases hk; have := h.box.lt; omega
  have hG : w0.grownBy w' (some b) := by
    cases hq : x.vt.ownBlock with
    | none => rw [hq] at hg; exact grownBy_trans h.G (grownBy_some hg _)
    | some k => rw [hq] at hg; exact grownBy_new h.G hg (by have := hlo k hq; omega)
  exact ⟨(h.deck.kept hg (fun k e => by have := hlo _ e; omega)).kept hs (fun k e => by cases e; omega), (h.res.kept hg (fun e => by have := hlo _ e; omega)).kept hs (by simp; omega), hb.set_ 0 v' rfl,
    o'.kept hs (fun k hk e => by cases e; exact hn _ hk rfl), hn, grownBy_new hG hs (by omega), h.lt⟩
def EvD (B b : Nat) (w : World) (e : Ending) (w' : World) : Prop := ∃ x : EvR, e = .returned (.agg #[x.vt, .int .i64 x.time, .int .u64 x.weight]) ∧ EvOk x ∧ RdL tagF 2 w' x.vt x.tags ∧ InB w.heap.size w'.heap.size x.vt ∧ Deck B w' b ∧ w.grownBy w' (some b)
theorem EvS.fin (h : EvS B b b4 b5 w0 x w) (hE : EvOk x) (hg : w.grownBy w' (some b4)) : EvD B b w0 (.returned (.agg #[x.vt, .int .i64 x.time, .int .u64 x.weight])) w' := by
  obtain ⟨h1, h2, h3, h4⟩ := h.lt
  have ho := h.own.kept hg (fun k hk e => by cases e; have := (h.own.lt _ hk).1; omega)
  exact ⟨x, rfl, hE, ho.rd, (h.own.inB.wide (by omega) hg.size), h.deck.kept hg (fun k e => by cases e; omega), grownBy_new h.G hg h4⟩
end

set_option maxHeartbeats 2000000 in
set_option maxRecDepth 100000 in
theorem event_c {B : Nat} (b : Nat) (t : Int) (w : World) (hd : Deck B w b) (hB : B ≤ w.heap.size) (ht : 0 ≤ t ∧ t ≤ 1099511627776) : Calls Try.prog 94 #[.pointer (some ⟨b, 0, none⟩), .int .i64 t] w (EvD B b w) := by
  have hbB := hd.below
  go_enter Try.func94, Try.ntmps94
  go_upto_region 1 with fail
  have B4 := Blk.new w #[.slice none 0 0, .int .i64 0, .int .u64 0] 145
  have G4 := World.grownBy_alloc w (.cells #[.slice none 0 0, .int .i64 0, .int .u64 0] 145) none
  have z4 : (w.alloc (.cells #[.slice none 0 0, .int .i64 0, .int .u64 0] 145)).heap.size = w.heap.size + 1 := by simp
  generalize w.alloc (.cells #[.slice none 0 0, .int .i64 0, .int .u64 0] 145) = w4 at *
  have D4 := hd.kept G4 (by simp)
  have Ct := Lib.hid (tagsD_c b w4 D4 (by omega))
  go_upto_region 2 with (first
    | (go_at_call 82; refine Ct.out.mono ?_; rintro e w5 ⟨v5, L, rfl, o5, m5, d5, g5⟩; obtain ⟨a5, c5, rfl⟩ := o5.shape; have Cs := Lib.hid (small_c b w5 d5))
    | (go_at_call 111; refine Cs.out.mono ?_; rintro e w6 ⟨r6, rfl, hr6, d6, g6⟩))
  have B7 := Blk.new w6 #[.slice a5 L.length c5, .int .i64 t, .int .u64 r6] 145
  have G7 := World.grownBy_alloc w6 (.cells #[.slice a5 L.length c5, .int .i64 t, .int .u64 r6] 145) none
  have z5 := g5.size
  have z6 := g6.size
  have E0 := Lib.hid (show EvS B b w.heap.size w6.heap.size w ⟨.slice a5 L.length c5, t, r6, L⟩ (w6.alloc (.cells #[.slice a5 L.length c5, .int .i64 t, .int .u64 r6] 145)) from
    ⟨(d6.kept G7 (by simp)), ((B4.kept g5 (by simp; omega)).kept g6 (by simp; omega)).same G7, B7, ((o5.kept g6 (fun k hk e => by cases e; have := (o5.lt _ hk).1; omega)).same G7).base (fun k hk => by have := (o5.lt k hk).1; omega),
      fun k hk => by have := (o5.lt k hk).2; omega, grownBy_trans (grownBy_trans (grownBy_trans (grownBy_some G4 _) g5) g6) (grownBy_some G7 _), hbB, hB, by omega, by omega⟩)
  generalize w6.alloc (.cells #[.slice a5 L.length c5, .int .i64 t, .int .u64 r6] 145) = w7 at *
  clear B4 G4 z4 D4 Ct Cs o5 d5 g5 d6 g6 B7 G7 z5 z6
  obtain ⟨b4, hb4⟩ : ∃ b4, w.heap.size = b4 := ⟨_, rfl⟩
  rw [hb4] at E0
  rw [hb4]
  clear hb4
  generalize w6.heap.size = b5 at *
  have hmf := m5.few
  have hms := m5.size
  have HOk := Lib.hid (show EvOk ⟨.slice a5 L.length c5, t, r6, L⟩ from ⟨ht, hr6, by show L.length ≤ 3; omega, fun u hu => by have := hms u hu; omega⟩)
  have Cn := Lib.hid (next_c b 24 w7 E0.out.deck (by omega) (by omega))
  go_upto_region 3 with (go_at_call 62; refine Cn.out.mono ?_; rintro e w8 ⟨r, rfl, hr0, hr1, hd8, hg8⟩)
  have E1 := Lib.hid (E0.out.next hd8 hg8)
  clear E0 Cn hd8 hg8 m5
  have HMs := Lib.hid hms
  clear hms
  by_cases h0 : r = 0
  · subst h0
    have Cw := Lib.hid (weightD_c b w8 E1.out.deck)
    have bx := E1.out.box.cell
    go_upto_region 17 with (go_at_call 112; refine Cw.out.mono ?_; rintro e w9 ⟨r9, rfl, hr9, d9, g9⟩; have D9 := E1.out.next d9 g9; have by_ := D9.box.cell; have bf_ := D9.box.free)
    have E2 := Lib.hid (D9.set ⟨.slice a5 L.length c5, t, r9, L⟩ 2 (.int .u64 r9) rfl D9.own D9.ne)
    have HOk2 := Lib.hid (show EvOk ⟨.slice a5 L.length c5, t, r9, L⟩ from ⟨HOk.out.time, hr9, HOk.out.few, HOk.out.size⟩)
    clear bx by_ bf_ D9 d9 g9 Cw E1
    generalize w9.setCell ⟨b5, 2, none⟩ (.int .u64 r9) = wz at *
    have HBx := (E2).out.box.cell
    have HRs := (E2).out.res.cell
    have HRf := (E2).out.res.free
    go_wp2_with fail
    have hgw : World.grownBy wz (((wz.setCell ⟨b4, 0, none⟩ (.slice a5 L.length c5)).setCell ⟨b4, 1, none⟩ (.int .i64 t)).setCell ⟨b4, 2, none⟩ (.int .u64 r9)) (some b4) := grownBy_set (grownBy_set (grownBy_set (grownBy_refl _ _) _ _) _ _) _ _
    have rc := ((((E2).out.res.set_ 0 (.slice a5 L.length c5) rfl).set_ 1 (.int .i64 t) rfl).set_ 2 (.int .u64 r9) rfl).cell
    refine bodyPost_ret (v := .agg #[(.slice a5 L.length c5), (.int .i64 t), (.int .u64 r9)]) (by simp [results, Try.results94, go_sem, rc]) rfl ?_
    exact (E2).out.fin HOk2.out hgw
  by_cases h1 : r = 1
  · subst h1
    clear h0
    have hL0 : 0 < L.length := by omega
    have Dd := E1.out.same (w' := w8.drew) (by (repeat (first | exact grownBy_refl _ _ | assumption | refine grownBy_new_block ?_ _ | refine grownBy_drew ?_ | refine grownBy_drewN ?_ _ | refine grownBy_setNew ?_ (by first | (simp; done) | omega | (simp; omega)) _)))
    obtain ⟨gv, cv, hv, -, hgv, -, hcx, -⟩ := Dd.own.at_ tagF_len (i := 0) hL0
    obtain ⟨rfl, -, rfl⟩ : a5 = some ⟨gv, 0, none⟩ ∧ L.length = L.length ∧ c5 = cv := by simpa only [Value.slice.injEq] using hv
    have c0 := hcx 0 _ rfl
    have c1 := hcx 1 _ rfl
    rw [Nat.zero_mul, Nat.zero_add] at c0 c1
    have hp : (0 : Int) < (L.length : Int) := by omega
    have hbx := E1.out.box.cell
    have ac := Dd.box.cell
    have hy := HMs.out _ (List.getElem_mem hL0)
    dsimp only at c0 c1
    generalize L[0] = y at *
    have axd := (Dd.same (World.grownBy_alloc w8.drew (.cells #[.string y.name, .string y.value] 143) none)).box.cell
    have axd2 := (E1.out.same (World.grownBy_alloc w8 (.cells #[.string y.name, .string y.value] 143) none)).box.cell
    have hbase : b4 + 1 ≤ w8.drew.heap.size := by have h1 := Dd.box.lt; have h2 := Dd.lt; omega
    have hb3 : (L.length + 1) * 32 ≤ 140737488355328 := by omega
    have hb4 : L.length + 1 ≤ 9223372036854775807 := by omega
    have Hcs := Lib.hid (show (#[Value.string y.name, Value.string y.value] : Array Value).toList = tagF y from rfl)
    have HDd := Lib.hid Dd
    have Hy := Lib.hid hy
    clear hv hcx Dd hy
    dsimp only at ac axd axd2 hbx
    go_wp2_with fail
    go_region_law (first
      | (refine step_app_one elt_tag one_tag tagF_len HDd.out.own y hb3 hb4 hbase Hcs.out (by rfl) _ _ (by rfl) (by rfl) (by rfl) ?_; intro v3 w3 o3 g3 l3; obtain ⟨a3, c3, rfl⟩ := o3.shape; obtain ⟨b3, D3⟩ := HDd.out.app o3 g3 l3; have ac3 := b3.cell; have af3 := b3.free))
    all_goals
      have HD3 := Lib.hid D3
      clear D3 ac3 af3 b3 l3 o3 g3 axd axd2 ac hbx HDd c0 c1 E1
      have HOk2 := Lib.hid (show EvOk ⟨.slice a3 (L ++ [y]).length c3, t, r6, L ++ [y]⟩ from ⟨HOk.out.time, HOk.out.weight, by show (L ++ [y]).length ≤ 3; simp; omega, fun u hu => by
        rcases List.mem_append.1 hu with h | h
        · exact HOk.out.size u h
        · obtain rfl := List.mem_singleton.1 h; have := Hy.out; omega⟩)
      dsimp only at HD3
      have hll : (L ++ [y]).length = L.length + 1 := by simp
      rw [hll] at HD3 HOk2
      clear hll
      (try rw [List.length_append, List.length_singleton])
      go_upto_region 17 with fail
      generalize w3.setCell ⟨b5, 0, none⟩ (.slice a3 (L.length + 1) c3) = wz at *
      have HBx := (HD3).out.box.cell
      have HRs := (HD3).out.res.cell
      have HRf := (HD3).out.res.free
      go_wp2_with fail
      have hgw : World.grownBy wz (((wz.setCell ⟨b4, 0, none⟩ (.slice a3 (L.length + 1) c3)).setCell ⟨b4, 1, none⟩ (.int .i64 t)).setCell ⟨b4, 2, none⟩ (.int .u64 r6)) (some b4) := grownBy_set (grownBy_set (grownBy_set (grownBy_refl _ _) _ _) _ _) _ _
      have rc := ((((HD3).out.res.set_ 0 (.slice a3 (L.length + 1) c3) rfl).set_ 1 (.int .i64 t) rfl).set_ 2 (.int .u64 r6) rfl).cell
      refine bodyPost_ret (v := .agg #[(.slice a3 (L.length + 1) c3), (.int .i64 t), (.int .u64 r6)]) (by simp [results, Try.results94, go_sem, rc]) rfl ?_
      exact (HD3).out.fin HOk2.out hgw
  by_cases h2 : r = 2
  · subst h2
    clear h0 h1
    have hL0 : 0 < L.length := by omega
    obtain ⟨gv, cv, hv, -, hgv, -, hcx, hfz⟩ := E1.out.own.at_ tagF_len (i := 0) hL0
    obtain ⟨rfl, -, rfl⟩ : a5 = some ⟨gv, 0, none⟩ ∧ L.length = L.length ∧ c5 = cv := by simpa only [Value.slice.injEq] using hv
    have c0 := hcx 0 _ rfl
    have c1 := hcx 1 _ rfl
    rw [Nat.zero_mul, Nat.zero_add] at c0 c1
    have hp : (0 : Int) < (L.length : Int) := by omega
    have hf0 := hfz 0
    have hf1 := hfz 1
    have bx := E1.out.box.cell
    clear hv hcx
    go_upto_region 17 with fail
    have E2 := Lib.hid (E1.out.tag rfl hL0 (j := 0) (by omega) (.string ⟨#[75]⟩) ⟨⟨#[75]⟩, L[0].value⟩ rfl)
    have HOk2 := Lib.hid (show EvOk ⟨.slice (some ⟨gv, 0, none⟩) L.length c5, t, r6, L.set 0 ⟨⟨#[75]⟩, L[0].value⟩⟩ from ⟨HOk.out.time, HOk.out.weight, by show (L.set 0 _).length ≤ 3; rw [List.length_set]; omega, fun u hu => by
      rcases List.mem_or_eq_of_mem_set hu with h | h
      · exact HOk.out.size u h
      · subst h; exact ⟨by simp [ByteArray.size], (HOk.out.size _ (List.getElem_mem hL0)).2⟩⟩)
    clear bx c0 c1 hf0 hf1 hfz E1
    generalize w8.setCell ⟨gv, 0, none⟩ (.string ⟨#[75]⟩) = wz at *
    have HBx := (E2).out.box.cell
    have HRs := (E2).out.res.cell
    have HRf := (E2).out.res.free
    go_wp2_with fail
    have hgw : World.grownBy wz (((wz.setCell ⟨b4, 0, none⟩ (.slice (some ⟨gv, 0, none⟩) L.length c5)).setCell ⟨b4, 1, none⟩ (.int .i64 t)).setCell ⟨b4, 2, none⟩ (.int .u64 r6)) (some b4) := grownBy_set (grownBy_set (grownBy_set (grownBy_refl _ _) _ _) _ _) _ _
    have rc := ((((E2).out.res.set_ 0 (.slice (some ⟨gv, 0, none⟩) L.length c5) rfl).set_ 1 (.int .i64 t) rfl).set_ 2 (.int .u64 r6) rfl).cell
    refine bodyPost_ret (v := .agg #[(.slice (some ⟨gv, 0, none⟩) L.length c5), (.int .i64 t), (.int .u64 r6)]) (by simp [results, Try.results94, go_sem, rc]) rfl ?_
    exact (E2).out.fin HOk2.out hgw
  by_cases h3 : r = 3
  · subst h3
    clear h0 h1 h2
    have bx := E1.out.box.cell
    have bf_ := E1.out.box.free
    go_upto_region 17 with fail
    have E2 := Lib.hid (E1.out.set ⟨.slice a5 L.length c5, t, 0, L⟩ 2 (.int .u64 0) rfl E1.out.own E1.out.ne)
    have HOk2 := Lib.hid (show EvOk ⟨.slice a5 L.length c5, t, 0, L⟩ from ⟨HOk.out.time, (show W64 (0 : Int) from w64_of (by omega) (by omega)), HOk.out.few, HOk.out.size⟩)
    clear bx bf_ E1
    generalize w8.setCell ⟨b5, 2, none⟩ (.int .u64 0) = wz at *
    have HBx := (E2).out.box.cell
    have HRs := (E2).out.res.cell
    have HRf := (E2).out.res.free
    go_wp2_with fail
    have hgw : World.grownBy wz (((wz.setCell ⟨b4, 0, none⟩ (.slice a5 L.length c5)).setCell ⟨b4, 1, none⟩ (.int .i64 t)).setCell ⟨b4, 2, none⟩ (.int .u64 0)) (some b4) := grownBy_set (grownBy_set (grownBy_set (grownBy_refl _ _) _ _) _ _) _ _
    have rc := ((((E2).out.res.set_ 0 (.slice a5 L.length c5) rfl).set_ 1 (.int .i64 t) rfl).set_ 2 (.int .u64 0) rfl).cell
    refine bodyPost_ret (v := .agg #[(.slice a5 L.length c5), (.int .i64 t), (.int .u64 0)]) (by simp [results, Try.results94, go_sem, rc]) rfl ?_
    exact (E2).out.fin HOk2.out hgw
  by_cases h4 : r = 4
  · subst h4
    clear h0 h1 h2 h3
    have bx := E1.out.box.cell
    have bf_ := E1.out.box.free
    go_upto_region 17 with fail
    have E2 := Lib.hid (E1.out.set ⟨.slice none 0 0, t, r6, []⟩ 0 (.slice none 0 0) rfl (Own.nil _ _ _ _ _) (fun k hk => by simp [Value.ownBlock] at hk))
    have HOk2 := Lib.hid (show EvOk ⟨.slice none 0 0, t, r6, []⟩ from ⟨HOk.out.time, HOk.out.weight, by simp, by simp⟩)
    clear bx bf_ E1
    generalize w8.setCell ⟨b5, 0, none⟩ (.slice none 0 0) = wz at *
    have HBx := (E2).out.box.cell
    have HRs := (E2).out.res.cell
    have HRf := (E2).out.res.free
    go_wp2_with fail
    have hgw : World.grownBy wz (((wz.setCell ⟨b4, 0, none⟩ (.slice none 0 0)).setCell ⟨b4, 1, none⟩ (.int .i64 t)).setCell ⟨b4, 2, none⟩ (.int .u64 r6)) (some b4) := grownBy_set (grownBy_set (grownBy_set (grownBy_refl _ _) _ _) _ _) _ _
    have rc := ((((E2).out.res.set_ 0 (.slice none 0 0) rfl).set_ 1 (.int .i64 t) rfl).set_ 2 (.int .u64 r6) rfl).cell
    refine bodyPost_ret (v := .agg #[(.slice none 0 0), (.int .i64 t), (.int .u64 r6)]) (by simp [results, Try.results94, go_sem, rc]) rfl ?_
    exact (E2).out.fin HOk2.out hgw
  by_cases h5 : r = 5
  · subst h5
    clear h0 h1 h2 h3 h4
    have hL0 : 0 < L.length := by omega
    obtain ⟨gv, cv, hv, -, hgv, -, hcx, hfz⟩ := E1.out.own.at_ tagF_len (i := 0) hL0
    obtain ⟨rfl, -, rfl⟩ : a5 = some ⟨gv, 0, none⟩ ∧ L.length = L.length ∧ c5 = cv := by simpa only [Value.slice.injEq] using hv
    have c0 := hcx 0 _ rfl
    have c1 := hcx 1 _ rfl
    rw [Nat.zero_mul, Nat.zero_add] at c0 c1
    have hp : (0 : Int) < (L.length : Int) := by omega
    have hf0 := hfz 0
    have hf1 := hfz 1
    have bx := E1.out.box.cell
    clear hv hcx
    go_upto_region 17 with fail
    have E2 := Lib.hid (E1.out.tag rfl hL0 (j := 1) (by omega) (.string ⟨#[48, 49, 50, 51, 52, 53, 54, 55, 56, 57, 48, 49, 50, 51, 52, 53, 54, 55, 56, 57, 48, 49, 50, 51, 52, 53, 54, 55, 56, 57, 48, 49, 50, 51, 52, 53, 54, 55, 56, 57, 48, 49, 50, 51, 52, 53, 54, 55, 56, 57, 48, 49, 50, 51, 52, 53, 54, 55, 56, 57, 48, 49, 50, 51, 52, 53, 54, 55, 56, 57]⟩) ⟨L[0].name, ⟨#[48, 49, 50, 51, 52, 53, 54, 55, 56, 57, 48, 49, 50, 51, 52, 53, 54, 55, 56, 57, 48, 49, 50, 51, 52, 53, 54, 55, 56, 57, 48, 49, 50, 51, 52, 53, 54, 55, 56, 57, 48, 49, 50, 51, 52, 53, 54, 55, 56, 57, 48, 49, 50, 51, 52, 53, 54, 55, 56, 57, 48, 49, 50, 51, 52, 53, 54, 55, 56, 57]⟩⟩ rfl)
    have HOk2 := Lib.hid (show EvOk ⟨.slice (some ⟨gv, 0, none⟩) L.length c5, t, r6, L.set 0 ⟨L[0].name, ⟨#[48, 49, 50, 51, 52, 53, 54, 55, 56, 57, 48, 49, 50, 51, 52, 53, 54, 55, 56, 57, 48, 49, 50, 51, 52, 53, 54, 55, 56, 57, 48, 49, 50, 51, 52, 53, 54, 55, 56, 57, 48, 49, 50, 51, 52, 53, 54, 55, 56, 57, 48, 49, 50, 51, 52, 53, 54, 55, 56, 57, 48, 49, 50, 51, 52, 53, 54, 55, 56, 57]⟩⟩⟩ from ⟨HOk.out.time, HOk.out.weight, by show (L.set 0 _).length ≤ 3; rw [List.length_set]; omega, fun u hu => by
      rcases List.mem_or_eq_of_mem_set hu with h | h
      · exact HOk.out.size u h
      · subst h; exact ⟨(HOk.out.size _ (List.getElem_mem hL0)).1, by show (70 : Nat) ≤ 70; omega⟩⟩)
    clear bx c0 c1 hf0 hf1 hfz E1
    generalize w8.setCell ⟨gv, 1, none⟩ (.string ⟨#[48, 49, 50, 51, 52, 53, 54, 55, 56, 57, 48, 49, 50, 51, 52, 53, 54, 55, 56, 57, 48, 49, 50, 51, 52, 53, 54, 55, 56, 57, 48, 49, 50, 51, 52, 53, 54, 55, 56, 57, 48, 49, 50, 51, 52, 53, 54, 55, 56, 57, 48, 49, 50, 51, 52, 53, 54, 55, 56, 57, 48, 49, 50, 51, 52, 53, 54, 55, 56, 57]⟩) = wz at *
    have HBx := (E2).out.box.cell
    have HRs := (E2).out.res.cell
    have HRf := (E2).out.res.free
    go_wp2_with fail
    have hgw : World.grownBy wz (((wz.setCell ⟨b4, 0, none⟩ (.slice (some ⟨gv, 0, none⟩) L.length c5)).setCell ⟨b4, 1, none⟩ (.int .i64 t)).setCell ⟨b4, 2, none⟩ (.int .u64 r6)) (some b4) := grownBy_set (grownBy_set (grownBy_set (grownBy_refl _ _) _ _) _ _) _ _
    have rc := ((((E2).out.res.set_ 0 (.slice (some ⟨gv, 0, none⟩) L.length c5) rfl).set_ 1 (.int .i64 t) rfl).set_ 2 (.int .u64 r6) rfl).cell
    refine bodyPost_ret (v := .agg #[(.slice (some ⟨gv, 0, none⟩) L.length c5), (.int .i64 t), (.int .u64 r6)]) (by simp [results, Try.results94, go_sem, rc]) rfl ?_
    exact (E2).out.fin HOk2.out hgw
  by_cases h6 : r = 6
  · subst h6
    clear h0 h1 h2 h3 h4 h5
    have HN := Lib.hid fun m h0 h1 => next_c b m w8 E1.out.deck h0 h1
    have bx := E1.out.box.cell
    go_wp2_with fail
    refine (HN.out _ (by omega) (by omega)).mono ?_
    rintro e w9 ⟨q, rfl, hq0, hq1, d9, g9⟩
    have D9 := Lib.hid (E1.out.next d9 g9)
    have hwq : IntKind.u64.wrap q = q := IntWalk.u64_in _ (by omega)
    have hwq2 : IntKind.u64.wrap (9223372036854775808 + q) = 9223372036854775808 + q := IntWalk.u64_in _ (by omega)
    have by_ := D9.out.box.cell
    have bf_ := D9.out.box.free
    go_upto_region 17 with fail
    have E2 := Lib.hid (D9.out.set ⟨.slice a5 L.length c5, t, 9223372036854775808 + q, L⟩ 2 (.int .u64 (9223372036854775808 + q)) rfl D9.out.own D9.out.ne)
    have HOk2 := Lib.hid (show EvOk ⟨.slice a5 L.length c5, t, 9223372036854775808 + q, L⟩ from ⟨HOk.out.time, (show W64 (9223372036854775808 + q) from w64_of (by omega) (by omega)), HOk.out.few, HOk.out.size⟩)
    clear bx by_ bf_ D9 d9 g9 E1 hwq hwq2
    generalize w9.setCell ⟨b5, 2, none⟩ (.int .u64 (9223372036854775808 + q)) = wz at *
    have HBx := (E2).out.box.cell
    have HRs := (E2).out.res.cell
    have HRf := (E2).out.res.free
    go_wp2_with fail
    have hgw : World.grownBy wz (((wz.setCell ⟨b4, 0, none⟩ (.slice a5 L.length c5)).setCell ⟨b4, 1, none⟩ (.int .i64 t)).setCell ⟨b4, 2, none⟩ (.int .u64 (9223372036854775808 + q))) (some b4) := grownBy_set (grownBy_set (grownBy_set (grownBy_refl _ _) _ _) _ _) _ _
    have rc := ((((E2).out.res.set_ 0 (.slice a5 L.length c5) rfl).set_ 1 (.int .i64 t) rfl).set_ 2 (.int .u64 (9223372036854775808 + q)) rfl).cell
    refine bodyPost_ret (v := .agg #[(.slice a5 L.length c5), (.int .i64 t), (.int .u64 (9223372036854775808 + q))]) (by simp [results, Try.results94, go_sem, rc]) rfl ?_
    exact (E2).out.fin HOk2.out hgw
  have f0 : ((r : Int) == 0) = false := by simpa using h0
  have f1 : ((r : Int) == 1) = false := by simpa using h1
  have f2 : ((r : Int) == 2) = false := by simpa using h2
  have f3 : ((r : Int) == 3) = false := by simpa using h3
  have f4 : ((r : Int) == 4) = false := by simpa using h4
  have f5 : ((r : Int) == 5) = false := by simpa using h5
  have f6 : ((r : Int) == 6) = false := by simpa using h6
  clear h0 h1 h2 h3 h4 h5 h6
  have HBx := (E1).out.box.cell
  have HRs := (E1).out.res.cell
  have HRf := (E1).out.res.free
  go_wp2_with fail
  have hgw : World.grownBy w8 (((w8.setCell ⟨b4, 0, none⟩ (.slice a5 L.length c5)).setCell ⟨b4, 1, none⟩ (.int .i64 t)).setCell ⟨b4, 2, none⟩ (.int .u64 r6)) (some b4) := grownBy_set (grownBy_set (grownBy_set (grownBy_refl _ _) _ _) _ _) _ _
  have rc := ((((E1).out.res.set_ 0 (.slice a5 L.length c5) rfl).set_ 1 (.int .i64 t) rfl).set_ 2 (.int .u64 r6) rfl).cell
  refine bodyPost_ret (v := .agg #[(.slice a5 L.length c5), (.int .i64 t), (.int .u64 r6)]) (by simp [results, Try.results94, go_sem, rc]) rfl ?_
  exact (E1).out.fin HOk.out hgw
end Go.Proofs.Ytniokdflljchgaa
