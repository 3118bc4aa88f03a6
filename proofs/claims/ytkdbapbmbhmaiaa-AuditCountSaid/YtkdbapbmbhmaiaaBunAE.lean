/- Several texts in one file; each begins with a comment that says what is proved in it. -/
import Derived.Test.YtkdbapbmbhmaiaaBunAD
import Derived.Deep.RegionLaw
import Derived.Test.YtkdbapbmbhmaiaaBunAA
import Derived.Sort.Walk0
import Derived.BigQuiet
import Derived.Test.YtkdbapbmbhmaiaaBunAB
import Derived.Deep.RegionHeld3
import Derived.Lib.QuietBelow
import Derived.Lib.MinMax
import Derived.StillTailTactics
import Derived.Deep.CutBlock

/- What the deck makes: keys, events. -/
namespace Go.Proofs.Ytkdbapbmbhmaiaa
open Go.RowKit Go.Sort

theorem tagW_of {t : TagR} (h : t.name.size ≤ 70 ∧ t.value.size ≤ 70) : TagW t := ⟨by omega, by omega⟩
theorem TagsM.w {L : List TagR} (h : TagsM L) : ∀ t ∈ L, TagW t := fun t ht => tagW_of (by have := h.size t ht; omega)
theorem TagsM.key {L : List TagR} (h : TagsM L) : keyE L = 0 := by
  have h1 := h.few
  have h2 : sortE L = 0 := sortE_ok (by omega) (tagsE_no h.ok) h.dif
  unfold keyE
  rw [if_neg (by omega), if_neg]
  have h3 : ∀ t ∈ sortT L, (tkB t).length ≤ 18 := fun t ht => by
    have := h.size t ((sortT_mem _ _).1 ht)
    rw [tkB_len]; omega
  have h4 : (kyB (sortT L)).length ≤ 18 * (sortT L).length := by
    generalize sortT L = S at *
    clear h1 h2
    induction S with
    | nil => simp [kyB]
    | cons a S ih =>
      have h5 := ih fun t ht => h3 t (List.mem_cons_of_mem _ ht)
      have h6 := h3 a (by simp)
      simp only [kyB, List.flatMap_cons, List.length_append, List.length_cons] at *
      omega
  rw [sortT_len] at h4
  omega
def KeyD (B b : Nat) (w : World) (e : Ending) (w' : World) : Prop := ∃ L, e = .returned (.string (keyY L)) ∧ TagsM L ∧ Deck B w' b ∧ w.grownBy w' (some b)
theorem keyD_mk {B b : Nat} {w w' : World} {L : List TagR} (h : TagsM L) (hd : Deck B w' b) (hg : w.grownBy w' (some b)) : KeyD B b w (.returned (.string (keyY L))) w' := ⟨L, rfl, h, hd, hg⟩

set_option maxHeartbeats 400000 in
theorem dkey_c {B : Nat} (b : Nat) (w : World) (hd : Deck B w b) (hB : B ≤ w.heap.size) : Calls Try.prog 18 #[.pointer (some ⟨b, 0, none⟩)] w (KeyD B b w) := by
  have Ct := Lib.hid (tagsD_c b w hd hB)
  go_enter Try.func18, Try.ntmps18
  go_wp2_with (first
    | (go_at_call 35; refine Ct.out.mono ?_; rintro e w2 ⟨v2, L, rfl, o2, m2, d2, g2⟩; obtain ⟨a2, c2, rfl⟩ := o2.shape; have Ck := Lib.hid (rkeyT_c _ L w2 o2.rd m2.w))
    | (go_at_call 11; refine Ck.out.mono ?_; rintro e w3 ⟨rfl, g3⟩))
  go_ret
  exact keyD_mk m2 (d2.kept g3 (by simp)) (grownBy_trans g2 (grownBy_some g3 _))

/-- What stands while an event is made: the deck, the result's block, the event's. -/
structure EvS (B b b4 b5 : Nat) (w0 : World) (x : EvR) (w : World) : Prop where
  deck : Deck B w b
  res : Blk w b4 #[.slice none 0 0, .int .i64 0, .int .u64 0]
  box : Blk w b5 #[x.vt, .int .i64 x.time, .int .u64 x.weight]
  own : Own tagF 2 43 (b4 + 1) w x.vt x.tags
  ne : ∀ k, x.vt.ownBlock = some k → k ≠ b5
  G : w0.grownBy w (some b)
  lt : b < B ∧ B ≤ b4 ∧ b4 < b5 ∧ w0.heap.size ≤ b4
section
variable {B b b4 b5 : Nat} {w0 w w' : World} {x : EvR}
theorem EvS.next (h : EvS B b b4 b5 w0 x w) (hd : Deck B w' b) (hg : w.grownBy w' (some b)) : EvS B b b4 b5 w0 x w' := by
  obtain ⟨h1, h2, h3, h4⟩ := h.lt
  exact ⟨hd, h.res.kept hg (by simp; omega), h.box.kept hg (by simp; omega), h.own.kept hg (fun k hk e => by cases e; have := (h.own.lt _ hk).1; omega), h.ne, grownBy_trans h.G hg, h.lt⟩
theorem EvS.same (h : EvS B b b4 b5 w0 x w) (hg : w.grownBy w' none) : EvS B b b4 b5 w0 x w' :=
  ⟨h.deck.kept hg (by simp), h.res.same hg, h.box.same hg, h.own.same hg, h.ne, grownBy_trans h.G (grownBy_some hg _), h.lt⟩
theorem EvS.set (h : EvS B b b4 b5 w0 x w) (y : EvR) (i : Nat) (v : Value) (he : (#[x.vt, .int .i64 x.time, .int .u64 x.weight] : Array Value).setIfInBounds i v = #[y.vt, .int .i64 y.time, .int .u64 y.weight])
    (ho : Own tagF 2 43 (b4 + 1) w y.vt y.tags) (hn : ∀ k, y.vt.ownBlock = some k → k ≠ b5) : EvS B b b4 b5 w0 y (w.setCell ⟨b5, i, none⟩ v) := by
  obtain ⟨h1, h2, h3, h4⟩ := h.lt
  have hg : w.grownBy (w.setCell ⟨b5, i, none⟩ v) (some b5) := grownBy_set (grownBy_refl w (some b5)) i v
  exact ⟨h.deck.kept hg (fun k e => by cases e; omega), h.res.kept hg (by simp; omega), h.box.set_ i v he, ho.kept hg (fun k hk e => by cases e; exact hn _ hk rfl), hn, grownBy_new h.G hg (by omega), h.lt⟩
/-- A cell of the first tag is written. -/
theorem EvS.tag (h : EvS B b b4 b5 w0 x w) {g n c : Nat} (hv : x.vt = .slice (some ⟨g, 0, none⟩) n c) (h0 : 0 < x.tags.length) {j : Nat} (hj : j < 2) (u : Value) (y : TagR) (hy : tagF y = (tagF x.tags[0]).set j u) :
    EvS B b b4 b5 w0 { x with tags := x.tags.set 0 y } (w.setCell ⟨g, j, none⟩ u) := by
  obtain ⟨h1, h2, h3, h4⟩ := h.lt
  have ho := h.own
  rw [hv] at ho
  have hs := ho.stored tagF_len h0 hj u y hy
  rw [Nat.zero_mul, Nat.zero_add] at hs
  have hlt := ho.lt g rfl
  have hne := h.ne g (by rw [hv]; rfl)
  refine ⟨h.deck.kept hs.2 (fun k e => by cases e; omega), h.res.kept hs.2 (by simp; omega), h.box.kept hs.2 (by simpa using hne), ?_, h.ne, grownBy_new h.G hs.2 (by omega), h.lt⟩
  rw [← hv] at hs
  exact hs.1
/-- A tag has been appended: the event's block before the field is written, and behind. -/
theorem EvS.app (h : EvS B b b4 b5 w0 x w) {v' : Value} {l' : List TagR} (o' : Own tagF 2 43 (b4 + 1) w' v' l') (hg : w.grownBy w' x.vt.ownBlock) (hl : Lies x.vt v' w.heap.size) :
    Blk w' b5 #[x.vt, .int .i64 x.time, .int .u64 x.weight] ∧ EvS B b b4 b5 w0 { x with vt := v', tags := l' } (w'.setCell ⟨b5, 0, none⟩ v') := by
  obtain ⟨h1, h2, h3, h4⟩ := h.lt
  have hlo : ∀ k, x.vt.ownBlock = some k → b4 + 1 ≤ k := fun k hk => (h.own.lt k hk).1
  have hb := h.box.kept hg (fun e => h.ne _ e rfl)
  refine ⟨hb, ?_⟩
  have hs : w'.grownBy (w'.setCell ⟨b5, 0, none⟩ v') (some b5) := grownBy_set (grownBy_refl w' (some b5)) 0 v'
  have hn : ∀ k, v'.ownBlock = some k → k ≠ b5 := fun k hk => by
    rcases hl with e | ⟨m, e1, e2⟩
    · exact h.ne k (e ▸ hk)
    · rw [e1] at hk; cases hk; have := h.box.lt; omega
  have hG : w0.grownBy w' (some b) := by
    cases hq : x.vt.ownBlock with
    | none => rw [hq] at hg; exact grownBy_trans h.G (grownBy_some hg _)
    | some k => rw [hq] at hg; exact grownBy_new h.G hg (by have := hlo k hq; omega)
  exact ⟨(h.deck.kept hg (fun k e => by have := hlo _ e; omega)).kept hs (fun k e => by cases e; omega), (h.res.kept hg (fun e => by have := hlo _ e; omega)).kept hs (by simp; omega), hb.set_ 0 v' rfl,
    o'.kept hs (fun k hk e => by cases e; exact hn _ hk rfl), hn, grownBy_new hG hs (by omega), h.lt⟩
def EvD (B b : Nat) (w : World) (e : Ending) (w' : World) : Prop := ∃ x : EvR, e = .returned (.agg #[x.vt, .int .i64 x.time, .int .u64 x.weight]) ∧ EvOk x ∧ RdL tagF 2 w' x.vt x.tags ∧ InB w.heap.size w'.heap.size x.vt ∧ Deck B w' b ∧ w.grownBy w' (some b)
theorem EvS.fin (h : EvS B b b4 b5 w0 x w) (hE : EvOk x) (hg : w.grownBy w' (some b4)) : EvD B b w0 (.returned (.agg #[x.vt, .int .i64 x.time, .int .u64 x.weight])) w' := by
  obtain ⟨h1, h2, h3, h4⟩ := h.lt
  have ho := h.own.kept hg (fun k hk e => by cases e; have := (h.own.lt _ hk).1; omega)
  exact ⟨x, rfl, hE, ho.rd, (h.own.inB.wide (by omega) hg.size), h.deck.kept hg (fun k e => by cases e; omega), grownBy_new h.G hg h4⟩
end
end Go.Proofs.Ytkdbapbmbhmaiaa

/- Items: how they lie; those that the deck deals. -/
namespace Go.Proofs.Ytkdbapbmbhmaiaa
open Go.RowKit Go.Sort

structure ItR where
  (key : ByteArray) (time weight : Int)
def itF (x : ItR) : List Value := [.string x.key, .int .i64 x.time, .int .u64 x.weight]
theorem itF_len (x : ItR) : (itF x).length = 3 := rfl
theorem one_it : OneF itF := by intro x u hu; simp [itF] at hu; rcases hu with rfl | rfl | rfl <;> rfl
theorem elt_it : Elt 22 50 (.agg #[.string ⟨#[]⟩, .int .i64 0, .int .u64 0]) 3 32 := ⟨Try.underlying22, by kernel_rfl, rfl, by decide⟩
/-- The sizes fit. -/
structure ItW (x : ItR) : Prop where
  time : -9223372036854775808 ≤ x.time ∧ x.time ≤ 9223372036854775807
  weight : W64 x.weight
  key : x.key.size ≤ 9223372036854775807
def ItemsD (B b : Nat) (w : World) (e : Ending) (w' : World) : Prop := ∃ v l, e = .returned v ∧ Own itF 3 50 w.heap.size w' v l ∧ l.length ≤ 30 ∧ (∀ x ∈ l, ItW x) ∧ Deck B w' b ∧ w.grownBy w' (some b)
theorem items_snoc {l : List ItR} {x : ItR} (h : ∀ y ∈ l, ItW y) (hx : ItW x) : ∀ y ∈ l ++ [x], ItW y := by
  intro y hy
  rcases List.mem_append.1 hy with hy | hy
  · exact h y hy
  · rw [List.mem_singleton.1 hy]; exact hx
set_option maxHeartbeats 1000000 in
set_option maxRecDepth 100000 in
theorem items_c {B : Nat} (b : Nat) (w : World) (hd : Deck B w b) (hB : B ≤ w.heap.size) : Calls Try.prog 7 #[.pointer (some ⟨b, 0, none⟩), .int .i64 30] w (ItemsD B b w) := by
  have hbB := hd.below
  have C1 := Lib.hid (next_c b 31 w hd (by omega) (by omega))
  go_enter Try.func7, Try.ntmps7
  go_upto_region 3 with (go_at_call 14; refine C1.out.mono ?_; rintro e w1 ⟨k0, rfl, hk0, hk1, hd1, hg1⟩)
  have HD1 := Lib.hid hd1
  have HG1 := Lib.hid hg1
  clear C1 hd1 hg1 hd
  go_loopw [6, 5] (fun s6 s5 wk => ∃ (k : Int) (l : List ItR), s6 = .int .i64 k ∧ (0 ≤ k ∧ k ≤ 30) ∧ (l.length : Int) = k0 - k ∧ Own itF 3 50 w.heap.size wk s5 l ∧ (∀ x ∈ l, ItW x) ∧ Deck B wk b ∧ w.grownBy wk (some b)) (fun s6 _ _ => (intOf s6).toNat)
  case atStart => exact ⟨k0, [], rfl, by omega, by simp, Own.nil _ _ _ _ _, by simp, HD1.out, HG1.out⟩
  case round =>
    clear HD1 HG1
    obtain ⟨k, l, rfl, ⟨hk2, hk3⟩, hl, hO, hW, hD, hg⟩ := hrel
    have HO := Lib.hid hO
    have HG := Lib.hid hg
    have Hl := Lib.hid hl
    have HW := Lib.hid hW
    have hl4 : l.length ≤ 30 := by omega
    have hb1 : (l.length + 1) * 32 ≤ 140737488355328 := by omega
    have hb2 : l.length + 1 ≤ 9223372036854775807 := by omega
    have hzr : B ≤ wr.heap.size := Nat.le_trans hB HG.out.size
    have hlo := Lib.hid (fun k hk => (hO.lt k hk).1 : ∀ k, Value.ownBlock _ = some k → w.heap.size ≤ k)
    obtain ⟨oa, oc, rfl⟩ := hO.shape
    have CK := Lib.hid (dkey_c b wr hD hzr)
    have HNe := Lib.hid (fun k hk e => by have h1 := hlo.out k hk; have h2 : b = k := by simpa using e
                                          omega : ∀ k, Value.ownBlock (.slice oa l.length oc) = some k → (some b : Option Nat) ≠ some k)
    clear hO hW hl
    by_cases hge : 0 < k
    · go_upto_region 4 with (first
        | (go_at_call 18; refine CK.out.mono ?_; rintro e w2 ⟨L, rfl, hm2, d2, g2⟩; have CN := Lib.hid (next_c b 60 w2 d2 (by omega) (by omega)); have hky := keyY_len L; generalize keyY L = ky at *)
        | (go_at_call 14; refine CN.out.mono ?_; rintro e w3 ⟨r, rfl, hr0, hr1, d3, g3⟩; have CS := Lib.hid (small_c b w3 d3))
        | (go_at_call 19; refine CS.out.mono ?_; rintro e w4 ⟨s, rfl, hs, d4, g4⟩; have G4 := Lib.hid (grownBy_trans g2 (grownBy_trans g3 g4)); have O4 := HO.out.kept G4.out HNe.out; have hz4 := Nat.le_trans HG.out.size G4.out.size)
        | (at_builtin; go_loud (refine app_oneV elt_it itF_len O4 ⟨ky, r, s⟩ (one_it _) hb1 hb2 hz4 (by rfl) rfl _ _ (by rfl) (by rfl) (by rfl) ?_); intro v5 w5 o5 g5 l5))
      have D5 := d4.kept g5 (fun k e => by have := hlo.out _ e; omega)
      have G5 : w.grownBy w5 (some b) := by
        cases hv : (Value.slice oa l.length oc).ownBlock with
        | none => rw [hv] at g5; exact grownBy_trans HG.out (grownBy_trans G4.out (grownBy_some g5 _))
        | some q => rw [hv] at g5; exact grownBy_new (grownBy_trans HG.out G4.out) g5 (hlo.out q hv)
      have HF := Lib.hid (And.intro o5 (And.intro D5 (And.intro G5 (items_snoc HW.out (x := ⟨ky, r, s⟩) ⟨by constructor <;> (show _ ≤ _) <;> dsimp only <;> omega, hs, by show ky.size ≤ _; omega⟩))))
      clear O4 o5 D5 G5 g5 l5
      go_wp2_with fail
      exact ⟨⟨k - 1, _, rfl, by omega, by have := Hl.out; simp; omega, HF.out.1, HF.out.2.2.2, HF.out.2.1, HF.out.2.2.1⟩, by simp [intOf]; omega⟩
    · obtain rfl : k = 0 := by omega
      go_wp2_with fail
      go_ret
      exact ⟨_, l, rfl, HO.out, by have := Hl.out; omega, HW.out, hD, HG.out⟩
end Go.Proofs.Ytkdbapbmbhmaiaa

/- Lines: how they lie; their order; lists put in order by insertion: plain, and the walk of the order. -/
namespace Go.Proofs.Ytkdbapbmbhmaiaa
open Go.RowKit Go.Sort

/-- A line. -/
structure Ln where
  (key : ByteArray) (lo hi : Int)
def lnF (x : Ln) : List Value := [.string x.key, .int .u64 x.lo, .int .u64 x.hi]
theorem lnF_len (x : Ln) : (lnF x).length = 3 := rfl
theorem one_ln : OneF lnF := by intro x u hu; simp [lnF] at hu; rcases hu with rfl | rfl | rfl <;> rfl
theorem elt_ln : Elt 36 46 (.agg #[.string ⟨#[]⟩, .int .u64 0, .int .u64 0]) 3 32 := ⟨Try.underlying36, by kernel_rfl, rfl, by decide⟩

abbrev lnV (x : Ln) : Value := .agg #[.string x.key, .int .u64 x.lo, .int .u64 x.hi]
/-- x comes before y. -/
def befB (x y : Ln) : Bool := decide (y.hi < x.hi) || (decide (x.hi = y.hi) && decide (x.key.data.toList < y.key.data.toList))
theorem blt_of (a b : ByteArray) : Op.bytesLess a.toList b.toList = decide (a.data.toList < b.data.toList) := by
  rw [ByteArray.toList_eq, ByteArray.toList_eq, bytesLess_eq]

set_option maxHeartbeats 400000 in
theorem before_c (x y : Ln) (w : World) : Calls Try.prog 57 #[lnV x, lnV y] w (RetBool (befB x y) w) := by
  have hb := blt_of x.key y.key
  obtain ⟨b, hd⟩ : ∃ b, decide (x.key.data.toList < y.key.data.toList) = b := ⟨_, rfl⟩
  rw [hd] at hb
  by_cases h1 : y.hi < x.hi
  · have HB := Lib.hid (show befB x y = true by simp [befB, h1])
    clear hd
    generalize befB x y = q at *
    go_enter Try.func57, Try.ntmps57
    go_wp2
    go_ret
    exact retBool HB.out (grownBy_new_block (grownBy_new_block (grownBy_refl _ _) _) _)
  · have h1' : decide (y.hi < x.hi) = false := by simpa using h1
    by_cases h2 : x.hi = y.hi
    · have h2' : ((x.hi : Int) == y.hi) = true := by simp [h2]
      have HB := Lib.hid (show befB x y = b by unfold befB; rw [h1', hd, decide_eq_true h2]; rfl)
      clear hd h2
      generalize befB x y = q at *
      go_enter Try.func57, Try.ntmps57
      go_wp2
      go_ret
      exact retBool HB.out (grownBy_new_block (grownBy_new_block (grownBy_refl _ _) _) _)
    · have h2' : ((x.hi : Int) == y.hi) = false := by simp [h2]
      have HB := Lib.hid (show befB x y = false by simp [befB, h1', h2])
      clear hd h2
      generalize befB x y = q at *
      go_enter Try.func57, Try.ntmps57
      go_wp2
      go_ret
      exact retBool HB.out (grownBy_new_block (grownBy_new_block (grownBy_refl _ _) _) _)
end Go.Proofs.Ytkdbapbmbhmaiaa

/- Configurations, as the deck makes them, and what the references say of them. -/
namespace Go.Proofs.Ytkdbapbmbhmaiaa
open Go.RowKit

structure Cfg where
  (Length Lateness Windows Shards Spread Queue Mode Slots Exact Promote Depth Width Top Key : Int)
  (Classes Table : Value)
  (Seed : Int)

abbrev Cfg.val (c : Cfg) : Value := .agg #[.int .i64 c.Length, .int .i64 c.Lateness, .int .i64 c.Windows, .int .i64 c.Shards, .int .i64 c.Spread, .int .i64 c.Queue, .int .i64 c.Mode, .int .i64 c.Slots, .int .i64 c.Exact, .int .u64 c.Promote, .int .i64 c.Depth, .int .i64 c.Width, .int .i64 c.Top, .int .i64 c.Key, c.Classes, c.Table, .int .u64 c.Seed]

abbrev Cfg.arr (c : Cfg) : Array Value := #[.int .i64 c.Length, .int .i64 c.Lateness, .int .i64 c.Windows, .int .i64 c.Shards, .int .i64 c.Spread, .int .i64 c.Queue, .int .i64 c.Mode, .int .i64 c.Slots, .int .i64 c.Exact, .int .u64 c.Promote, .int .i64 c.Depth, .int .i64 c.Width, .int .i64 c.Top, .int .i64 c.Key, c.Classes, c.Table, .int .u64 c.Seed]

theorem size_cfg : (Try.prog.info? 29).map (·.size) = some 17 := by kernel_rfl

/-- Block b holds a configuration. -/
structure BoxAt (w : World) (b : Nat) (c : Cfg) : Prop where
  block : ∃ t f, w.heap[b]? = some (.cells c.arr t f) ∧ f = (0, 0)
theorem BoxAt.lt {w : World} {b : Nat} {c : Cfg} (h : BoxAt w b c) : b < w.heap.size := by
  obtain ⟨_, _, h, _⟩ := h.block; exact (Array.getElem?_eq_some_iff.1 h).1
theorem BoxAt.cell {w : World} {b : Nat} {c : Cfg} (h : BoxAt w b c) (i : Nat) : w.cell? ⟨b, i, none⟩ = c.arr[i]? := by
  obtain ⟨t, f, h, _⟩ := h.block; simp [World.cell?, h]
theorem BoxAt.kept {w w' : World} {b : Nat} {c : Cfg} {r : Option Nat} (h : BoxAt w b c) (hg : w.grownBy w' r) (hr : r ≠ some b) : BoxAt w' b c := by
  obtain ⟨t, f, hb, hf⟩ := h.block
  exact ⟨t, f, (hg.block b h.lt (fun e => hr e.symm)).trans hb, hf⟩
theorem BoxAt.same {w w' : World} {b : Nat} {c : Cfg} (h : BoxAt w b c) (hg : w.grownBy w' none) : BoxAt w' b c := h.kept hg (by simp)

/-- The configuration is read out of its block. -/
theorem load_cfg {ops : Array Oper} {rest : List Oper} {o : Oper} {a : Act} {w : World} {Q : Exit → Act → World → Prop} (hgd : o.guard = none) (x : Operand) (ho : o.op = .load 29 x)
    (b : Nat) (hx : a.eval x = .pointer (some ⟨b, 0, none⟩)) (c : Cfg) (hb : BoxAt w b c) (h : wpList Try.prog ops Q rest (a.put o.dst c.val) w) : wpList Try.prog ops Q (o :: rest) a w := by
  obtain ⟨t, f, hbl, _⟩ := hb.block
  exact wpList_load_row hgd _ x ho b hx t _ f _ hbl Try.underlying29 rfl size_cfg h
theorem load_cfg_if {ops : Array Oper} {rest : List Oper} {o : Oper} {a : Act} {w : World} {Q : Exit → Act → World → Prop} (hw : Region.wanted o (yielded ops a.tmps) = true) (x : Operand) (ho : o.op = .load 29 x)
    (b : Nat) (hx : a.eval x = .pointer (some ⟨b, 0, none⟩)) (c : Cfg) (hb : BoxAt w b c) (h : wpList Try.prog ops Q rest (a.put o.dst c.val) w) : wpList Try.prog ops Q (o :: rest) a w := by
  obtain ⟨t, f, hbl, _⟩ := hb.block
  exact BigFrame.wpList_want hw fun K hK => wp_load_row _ x ho b hx t _ f _ hbl Try.underlying29 rfl size_cfg (hK _ _ h)

/-! A configuration that is read, as a rule of the walk's own (for regions that draw their order, too). -/
def readCfg (w : World) (b : Nat) : Value := match w.heap[b]? with | some (.cells cs _ _) => .agg cs | _ => undef
def isCfg (w : World) (b : Nat) : Bool := match w.heap[b]? with | some (.cells cs _ _) => cs.size == 17 | _ => false
def loadCfgS (v : Value) : Sem Next := do pure (.value (← Instr.loadAt 29 v))
theorem exec_load_cfg (ρ : Operand → Value) (dst : Option Tmp) (x : Operand) (ty : TypeId) (pos : String) (after : Array Edge) (guard : Option (Nat × Bool)) :
    execOp ρ ⟨dst, .load 29 x, ty, pos, after, guard⟩ = loadCfgS (ρ x) := rfl
theorem run_loadCfgS (w : World) (b : Nat) (h : isCfg w b = true) : (loadCfgS (.pointer (some ⟨b, 0, none⟩))).run Try.prog w = .ok (.value (readCfg w b)) w := by
  unfold isCfg at h
  cases hb : w.heap[b]? with
  | none => rw [hb] at h; cases h
  | some o =>
    cases o with
    | cells cs t f =>
      rw [hb] at h
      have hs : cs.size = 17 := by simpa using h
      have := run_loadVar_row (P := Try.prog) w b t 29 cs f _ hb Try.underlying29 rfl (by rw [size_cfg, hs])
      simp only [loadCfgS, Instr.loadAt, Instr.sureAddr, Sem.run_bind, Sem.run_pure, Result.andThen_ok, this, readCfg, hb]
    | _ => rw [hb] at h; cases h
theorem BoxAt.is {w : World} {b : Nat} {c : Cfg} (h : BoxAt w b c) : isCfg w b = true := by
  obtain ⟨t, f, h, _⟩ := h.block; simp [isCfg, h]
theorem BoxAt.reads {w : World} {b : Nat} {c : Cfg} (h : BoxAt w b c) : readCfg w b = c.val := by
  obtain ⟨t, f, h, _⟩ := h.block; simp [readCfg, h]

@[go_sem] theorem isCfg_drew (w : World) (b : Nat) : isCfg w.drew b = isCfg w b := rfl
@[go_sem] theorem readCfg_drew (w : World) (b : Nat) : readCfg w.drew b = readCfg w b := rfl
@[go_sem] theorem isCfg_drewN (w : World) (n b : Nat) : isCfg (w.drewN n) b = isCfg w b := rfl
@[go_sem] theorem readCfg_drewN (w : World) (n b : Nat) : readCfg (w.drewN n) b = readCfg w b := rfl

open Go.Sort in
/-- What is known of the block in every world that has grown out of this one. -/
theorem BoxAt.re {w : World} {b : Nat} {c : Cfg} (h : BoxAt w b c) : (∀ d os, isCfg (grow (redrawn w d) os) b = true) ∧ (∀ d os, readCfg (grow (redrawn w d) os) b = c.val) ∧ (∀ d os i, (grow (redrawn w d) os).cell? ⟨b, i, none⟩ = c.arr[i]?) :=
  ⟨fun d os => (h.same (grown_re w d os)).is, fun d os => (h.same (grown_re w d os)).reads, fun d os => (h.same (grown_re w d os)).cell⟩

theorem run_box_cfg (c : Cfg) (w : World) : (Instr.box 29 c.val).run Try.prog w = .ok (.pointer (some ⟨w.heap.size, 0, none⟩)) (w.alloc (.cells c.arr 29)) := by kernel_rfl

/-- A configuration is laid into a block of its own: what is known then. -/
theorem box_cfg {ops : Array Oper} {rest : List Oper} {o : Oper} {a : Act} {w : World} {Q : Exit → Act → World → Prop} (hgd : o.guard = none) (x : Operand) (ho : o.op = .box 29 x)
    (c : Cfg) (hx : a.eval x = c.val) (h : ∀ w', BoxAt w' w.heap.size c → w.grownBy w' none → w.heap.size < w'.heap.size → wpList Try.prog ops Q rest (a.put o.dst (.pointer (some ⟨w.heap.size, 0, none⟩))) w') : wpList Try.prog ops Q (o :: rest) a w :=
  wpList_plain hgd fun _ hK => by
    unfold Oper.wp execOp
    simp only [ho, hx, run_box_cfg, Sem.run_bind, Sem.run_pure, Result.andThen_ok]
    exact hK _ _ (h _ ⟨_, _, heap_alloc_new w _, rfl⟩ (World.grownBy_alloc w _ _) (by simp))

theorem BoxAt.free {w : World} {b : Nat} {c : Cfg} (h : BoxAt w b c) (i : Nat) : w.frozen? ⟨b, i, none⟩ = false := by
  obtain ⟨t, f, h, rfl⟩ := h.block
  exact frozen_of_row w b i _ t h
/-- A field is written. -/
theorem BoxAt.setF {w : World} {b : Nat} {c c' : Cfg} (h : BoxAt w b c) (o : Nat) (v : Value) (hc : c.arr.setIfInBounds o v = c'.arr) : BoxAt (w.setCell ⟨b, o, none⟩ v) b c' := by
  obtain ⟨t, f, h, rfl⟩ := h.block
  exact ⟨t, _, by rw [heap_set v h, hc], rfl⟩

def Cfg.zero : Cfg := ⟨0, 0, 0, 0, 0, 0, 0, 0, 0, 0, 0, 0, 0, 0, .slice none 0 0, .slice none 0 0, 0⟩
theorem run_alloc_cfg (w : World) : (Instr.alloc 29 true (.tuple #[])).run Try.prog w = .ok (.pointer (some ⟨w.heap.size, 0, none⟩)) (w.alloc (.cells Cfg.zero.arr 29)) := by kernel_rfl

/-- A variable of the type comes to be. -/
theorem alloc_cfg {ops : Array Oper} {rest : List Oper} {o : Oper} {a : Act} {w : World} {Q : Exit → Act → World → Prop} (hgd : o.guard = none) (ho : o.op = .alloc 29)
    (h : ∀ w', BoxAt w' w.heap.size Cfg.zero → w.grownBy w' none → w.heap.size < w'.heap.size → wpList Try.prog ops Q rest (a.put o.dst (.pointer (some ⟨w.heap.size, 0, none⟩))) w') : wpList Try.prog ops Q (o :: rest) a w :=
  wpList_plain hgd fun _ hK => by
    unfold Oper.wp execOp
    simp only [ho, run_alloc_cfg, Sem.run_bind, Sem.run_pure, Result.andThen_ok]
    exact hK _ _ (h _ ⟨_, _, heap_alloc_new w _, rfl⟩ (World.grownBy_alloc w _ _) (by simp))

/-- A whole configuration is written. -/
theorem store_cfg {ops : Array Oper} {rest : List Oper} {o : Oper} {a : Act} {w : World} {Q : Exit → Act → World → Prop} (hgd : o.guard = none) (x y : Operand) (ho : o.op = .store 29 x y)
    (b : Nat) (hx : a.eval x = .pointer (some ⟨b, 0, none⟩)) (c : Cfg) (hy : a.eval y = c.val) (h1 : c.Classes.oneCell' = true) (h2 : c.Table.oneCell' = true) (c0 : Cfg) (hb : BoxAt w b c0)
    (h : ∀ w', BoxAt w' b c → w.grownBy w' (some b) → wpList Try.prog ops Q rest (a.put o.dst undef) w') : wpList Try.prog ops Q (o :: rest) a w := by
  obtain ⟨t, f, hbl, rfl⟩ := hb.block
  have hst := run_storeCells_at Try.prog b 0 t c.arr.toList 0 c0.arr w hbl (by simp) (by intro v hv; simp at hv; rcases hv with rfl | rfl | rfl | rfl | rfl | rfl | rfl | rfl | rfl | rfl | rfl | rfl | rfl | rfl | rfl | rfl | rfl <;> first | rfl | assumption)
  have hz : (sizeOf 29).run Try.prog w = .ok 17 w := by
    have := size_cfg
    cases hq : Try.prog.info? 29 with
    | none => rw [hq] at this; simp at this
    | some i => rw [hq] at this; simp [sizeOf, typeInfo, hq]; simpa using this
  refine wpList_plain hgd fun _ hK => ?_
  unfold Oper.wp execOp
  simp only [ho, hx, hy, Instr.storeAt, Instr.sureAddr, storeVar, Sem.run_bind, Sem.run_pure, Result.andThen_ok, hz]
  simp only [Value.cells, List.size_toArray, List.length_cons, List.length_nil, Nat.reduceAdd, ne_eq, not_true_eq_false, if_false]
  rw [hst]
  refine hK _ _ (h _ ⟨t, (0, 0), ?_, rfl⟩ ⟨rfl, rfl, rfl, by simp, fun k _ hk => setRow_other w b k _ (fun e => hk (by simp [e]))⟩)
  rw [setRow_heap w b c0.arr _ t _ hbl]
  simp

/-- A block as it was made is read as it was made. -/
theorem boxed {w w' : World} {cs : Array Value} {t : TypeId} {f : Nat × Nat} (h : (w.alloc (.cells cs t f)).grownBy w' none) (o : Nat) : w'.cell? ⟨w.heap.size, o, none⟩ = cs[o]? := by
  have := h.block w.heap.size (by simp) (by simp)
  rw [heap_alloc_new] at this
  simp [World.cell?, this]

/-- The numbers of a configuration that is valid. -/
structure CfgNums (c : Cfg) : Prop where
  length : 1 ≤ c.Length ∧ c.Length ≤ 1048576
  lateness : 0 ≤ c.Lateness ∧ c.Lateness ≤ 1048576
  windows : 1 ≤ c.Windows ∧ c.Windows ≤ 8
  shards : 1 ≤ c.Shards ∧ c.Shards ≤ 8
  spread : 1 ≤ c.Spread ∧ c.Spread ≤ c.Shards
  queue : 1 ≤ c.Queue ∧ c.Queue ≤ 64
  mode : c.Mode = 1 ∨ c.Mode = 2
  slots : 1 ≤ c.Slots ∧ c.Slots ≤ 64
  exact : 0 ≤ c.Exact ∧ c.Exact ≤ 32
  promote : 0 ≤ c.Promote ∧ c.Promote < 18446744073709551616
  depth : 1 ≤ c.Depth ∧ c.Depth ≤ 4
  width : 1 ≤ c.Width ∧ c.Width ≤ 256
  top : 1 ≤ c.Top ∧ c.Top ≤ 64
  key : 1 ≤ c.Key ∧ c.Key ≤ 255
  seed : 0 ≤ c.Seed ∧ c.Seed < 18446744073709551616

/-- The memory of a configuration: its size classes and its words. -/
structure CfgMem (c : Cfg) (l : List (Int × Int)) (t : List Int) (w : World) : Prop where
  classes : RdL clsF 2 w c.Classes l
  table : RdL wordF 1 w c.Table t
  tlen : t.length = 16
  twords : WordsOk t
theorem CfgMem.same {c : Cfg} {l : List (Int × Int)} {t : List Int} {w w' : World} (h : CfgMem c l t w) (hg : w.grownBy w' none) : CfgMem c l t w' :=
  ⟨h.classes.same hg, h.table.same hg, h.tlen, h.twords⟩

/-- The size classes suit the numbers. -/
structure CfgCls (c : Cfg) (l : List (Int × Int)) : Prop where
  ok : ClsOk l
  last : ∀ p, l[l.length - 1]? = some p → 32 ≤ p.1 ∧ 8 * c.Width ≤ p.1 ∧ c.Key ≤ p.1

set_option maxHeartbeats 400000 in
theorem rclock_c (c : Cfg) (w : World) (hn : CfgNums c) :
    Calls Try.prog 49 #[c.val] w fun e w' => e = .returned (.int .i64 0) ∧ w.grownBy w' none := by
  obtain ⟨h1, h2⟩ := hn.length
  obtain ⟨h3, h4⟩ := hn.lateness
  obtain ⟨h5, h6⟩ := hn.windows
  go_enter Try.func49, Try.ntmps49
  go_wp2
  go_ret
  exact ⟨rfl, World.grownBy_alloc w _ _⟩

set_option maxHeartbeats 400000 in
theorem routes_c (c : Cfg) (l : List (Int × Int)) (t : List Int) (w : World) (hn : CfgNums c) (hm : CfgMem c l t w) :
    Calls Try.prog 50 #[c.val] w fun e w' => e = .returned (.int .i64 0) ∧ w.grownBy w' none := by
  obtain ⟨h1, h2⟩ := hn.shards
  obtain ⟨h3, h4⟩ := hn.spread
  go_enter Try.func50, Try.ntmps50
  go_wp2_with (go_at_call 59; refine (table_c _ t _ (hm.table.same (World.grownBy_alloc w _ _)) hm.tlen).mono ?_; rintro e w' ⟨rfl, rfl⟩)
  go_ret
  exact ⟨rfl, World.grownBy_alloc w _ _⟩
end Go.Proofs.Ytkdbapbmbhmaiaa

/- A slice of ints that the call itself has made: a block of its own. -/
namespace Go.Proofs.Ytkdbapbmbhmaiaa
open Go.RowKit

def intCells (l : List Int) : Array Value := (l.map (fun x => Value.int .i64 x)).toArray

theorem info_int : (Try.prog.info? 3).map (fun i => (i.zero, i.size, i.bytes)) = some (some (.int .i64 0), 1, 8) := by kernel_rfl

theorem made_ints (n : Nat) : madeCells #[Value.int .i64 0] n = intCells (List.replicate n 0) := by
  unfold madeCells intCells
  apply Array.ext
  · simp
  · intro i h1 h2
    simp [Nat.mod_one]

theorem make_ints (n : Nat) (hn : n ≤ 1000000) (w : World) :
    (Instr.makeSlice 23 (.int .i64 n) (.int .i64 n)).run Try.prog w = .ok (.slice (some ⟨w.heap.size, 0, none⟩) n n) (w.alloc (.cells (intCells (List.replicate n 0)) 3)) := by
  obtain ⟨i0, hi, hz0, hz1, hz2⟩ := info_parts info_int
  have := run_make (P := Try.prog) w 23 3 i0 (.int .i64 0) Try.underlying23 hi hz0 .i64 .i64 n n (by omega) (by omega) (by rw [hz2]; omega) (by omega)
  rw [this, hz1]
  simp only [Int.toNat_natCast, Nat.mul_one, Value.cells, made_ints]

def OutAt (w : World) (B : Nat) (out : List Int) : Prop := w.heap[B]? = some (.cells (intCells out) 3)

theorem OutAt.new (w : World) (n : Nat) : OutAt (w.alloc (.cells (intCells (List.replicate n 0)) 3)) w.heap.size (List.replicate n 0) := heap_alloc_new w _
theorem OutAt.lt {w : World} {B : Nat} {out : List Int} (h : OutAt w B out) : B < w.heap.size := (Array.getElem?_eq_some_iff.1 h).1
theorem OutAt.kept {w w' : World} {B : Nat} {out : List Int} {r : Option Nat} (h : OutAt w B out) (hg : w.grownBy w' r) (hr : r ≠ some B) : OutAt w' B out :=
  (hg.block B h.lt (fun e => hr e.symm)).trans h
theorem OutAt.cell {w : World} {B : Nat} {out : List Int} (h : OutAt w B out) {k : Nat} (hk : k < out.length) : w.cell? ⟨B, k, none⟩ = some (.int .i64 (out.getD k 0)) := by
  unfold OutAt at h
  simp [World.cell?, h, intCells, List.getElem?_eq_getElem hk, List.getD_eq_getElem?_getD]
theorem OutAt.free {w : World} {B : Nat} {out : List Int} (h : OutAt w B out) (k : Nat) : w.frozen? ⟨B, k, none⟩ = false := by
  unfold OutAt at h
  simp [World.frozen?, h]
theorem OutAt.set {w : World} {B : Nat} {out : List Int} (h : OutAt w B out) (k : Nat) (x : Int) : OutAt (w.setCell ⟨B, k, none⟩ (.int .i64 x)) B (out.set k x) := by
  unfold OutAt
  rw [heap_set _ h]
  simp [intCells, List.map_set]
theorem OutAt.drewN {w : World} {B : Nat} {out : List Int} (h : OutAt w B out) (n : Nat) : OutAt (w.drewN n) B out := h
theorem OutAt.rd {w : World} {B : Nat} {out : List Int} (h : OutAt w B out) (hl : out.length ≤ 9223372036854775807) : RdL intF 1 w (.slice (some ⟨B, 0, none⟩) out.length out.length) out := by
  refine ⟨by rw [length_cellsOf _ 1 intF_len], hl, .inr ⟨B, 0, out.length, rfl, h.lt, fun j u hu => ?_⟩⟩
  have e : cellsOf intF out = out.map (fun x => Value.int .i64 x) := cells_int out
  rw [e] at hu
  unfold OutAt at h
  simp only [World.cell?, h, intCells, Nat.zero_add]
  simpa using hu
end Go.Proofs.Ytkdbapbmbhmaiaa

/- The clock: the program's functions and the references', for all arguments. -/
namespace Go.Proofs.Ytkdbapbmbhmaiaa
open Go.RowKit

def cok (c : Cfg) : Bool := decide (1 ≤ c.Length ∧ c.Length ≤ 1048576 ∧ 0 ≤ c.Lateness ∧ c.Lateness ≤ 1048576 ∧ 1 ≤ c.Windows ∧ c.Windows ≤ 8)
def tok (n : Int) : Bool := decide (0 ≤ n ∧ n ≤ 1099511627776)
def checkV (c : Cfg) : Int := if cok c then 0 else 11
def winV (c : Cfg) (t : Int) : Int := if cok c && tok t then t / c.Length else 0
def lowV (c : Cfg) (m : Int) : Int := if cok c && tok m then max (m - c.Lateness) 0 / c.Length else 0
def fromV (c : Cfg) (k : Int) : Int := if cok c && tok k then k * c.Length else 0
def toV (c : Cfg) (k : Int) : Int := if cok c && tok k then (k + 1) * c.Length else 0
def verV (c : Cfg) (m t : Int) : Int := if cok c && tok m && tok t then (if winV c t < lowV c m then 3 else if lowV c m + c.Windows ≤ winV c t then 4 else 0) else 0


theorem checkV_of {c : Cfg} (h : (((((1 ≤ c.Length ∧ c.Length ≤ 1048576) ∧ 0 ≤ c.Lateness) ∧ c.Lateness ≤ 1048576) ∧ 1 ≤ c.Windows) ∧ c.Windows ≤ 8)) : checkV c = 0 := by
  unfold checkV cok; rw [if_pos]; simp; omega
theorem checkV_no {c : Cfg} (h : ¬ (((((1 ≤ c.Length ∧ c.Length ≤ 1048576) ∧ 0 ≤ c.Lateness) ∧ c.Lateness ≤ 1048576) ∧ 1 ≤ c.Windows) ∧ c.Windows ≤ 8)) : checkV c = 11 := by
  unfold checkV cok; rw [if_neg]; simp; omega


set_option maxHeartbeats 400000 in
theorem ccheck_c (c : Cfg) (w : World) : Calls Try.prog 52 #[c.val] w (RetInt (checkV c) w) := by
  go_enter Try.func52, Try.ntmps52
  go_wp2
  all_goals go_ret
  all_goals first | (have hx := checkV_of (c := c) (by assumption); exact retInt hx (World.grownBy_alloc w _ _)) | (have hx : checkV c = 11 := checkV_no (by omega); exact retInt hx (World.grownBy_alloc w _ _))

set_option maxHeartbeats 400000 in
theorem rcheck_c (c : Cfg) (w : World) : Calls Try.prog 49 #[c.val] w (RetInt (checkV c) w) := by
  go_enter Try.func49, Try.ntmps49
  go_wp2
  all_goals go_ret
  all_goals first | (have hx := checkV_of (c := c) (by assumption); exact retInt hx (World.grownBy_alloc w _ _)) | (have hx : checkV c = 11 := checkV_no (by omega); exact retInt hx (World.grownBy_alloc w _ _))

theorem checkV_ok {c : Cfg} (h : cok c = true) : (checkV c == 0) = true := by simp [checkV, h]
theorem checkV_bad {c : Cfg} (h : cok c = false) : (checkV c == 0) = false := by simp [checkV, h]

set_option maxHeartbeats 400000 in
theorem rin_c (c : Cfg) (n : Int) (w : World) : Calls Try.prog 41 #[c.val, .int .i64 n] w (RetBool (cok c && tok n) w) := by
  have key : ∀ r : Bool, (checkV c == 0) = r → (∃ b0 b1, decide (0 ≤ n) = b0 ∧ decide (n ≤ 1099511627776) = b1 ∧ (r && b0 && b1) = (cok c && tok n)) →
      Calls Try.prog 41 #[c.val, .int .i64 n] w (RetBool (cok c && tok n) w) := by
    intro r hr ⟨b0, b1, d0, d1, hx⟩
    have Hx := Lib.hid hx
    clear hx
    cases r <;> cases b0 <;> cases b1
    all_goals
      go_enter Try.func41, Try.ntmps41
      go_wp2_with (first | (refine box_cfg rfl _ rfl c rfl ?_; intro w1 B1 G1 z1) | (refine load_cfg rfl _ rfl _ rfl c (by assumption) ?_) | (go_at_call 49; refine (rcheck_c c _).mono ?_; rintro e w2 ⟨rfl, G2⟩))
      go_ret
      exact retBool Hx.out.symm (grownBy_trans (by assumption) (by assumption))
  refine key _ rfl ⟨_, _, rfl, rfl, ?_⟩
  have e1 : (checkV c == 0) = cok c := by unfold checkV; cases cok c <;> rfl
  rw [e1, tok, Bool.and_assoc, ← Bool.decide_and]

set_option maxHeartbeats 400000 in
theorem rwin_c (c : Cfg) (n : Int) (w : World) : Calls Try.prog 24 #[c.val, .int .i64 n] w (RetInt (winV c n) w) := by
  cases hc : (cok c && tok n)
  · have hx : winV c n = 0 := by simp [winV, hc]
    have Hx := Lib.hid hx
    clear hx
    go_enter Try.func24, Try.ntmps24
    go_wp2_with (first | (refine box_cfg rfl _ rfl c rfl ?_; intro w1 B1 G1 z1) | (refine load_cfg rfl _ rfl _ rfl c (by assumption) ?_) | (go_at_call 41; refine (rin_c c n _).mono ?_; rintro e w2 ⟨rfl, G2⟩))
    go_ret
    exact retInt Hx.out (grownBy_trans (by assumption) (by assumption))
  · have hx : winV c n = n / c.Length := by simp [winV, hc]
    have Hx := Lib.hid hx
    have hl : 1 ≤ c.Length ∧ c.Length ≤ 1048576 := by simp [cok, tok] at hc; omega
    have hn : 0 ≤ n ∧ n ≤ 1099511627776 := by simp [cok, tok] at hc; omega
    clear hx
    obtain ⟨l0, l1⟩ := hl
    obtain ⟨n0, n1⟩ := hn
    go_enter Try.func24, Try.ntmps24
    go_wp2_with (first | (refine box_cfg rfl _ rfl c rfl ?_; intro w1 B1 G1 z1) | (refine load_cfg rfl _ rfl _ rfl c (by assumption) ?_) | (go_at_call 41; refine (rin_c c n _).mono ?_; rintro e w2 ⟨rfl, G2⟩; have hb2 := (BoxAt.same (by assumption) G2).cell))
    go_ret
    exact retInt Hx.out (grownBy_trans (by assumption) (by assumption))

theorem rd_one (w : World) (t : Int) : RdL intF 1 (w.alloc (.cells #[.int .i64 t] 3)) (.slice (some ⟨w.heap.size, 0, none⟩) 1 1) [t] :=
  OutAt.rd (w := w.alloc (.cells (intCells [t]) 3)) (out := [t]) (heap_alloc_new w _) (by simp)
theorem rd_two (w : World) (t u : Int) : RdL intF 1 (w.alloc (.cells #[.int .i64 t, .int .i64 u] 3)) (.slice (some ⟨w.heap.size, 0, none⟩) 2 2) [t, u] :=
  OutAt.rd (w := w.alloc (.cells (intCells [t, u]) 3)) (out := [t, u]) (heap_alloc_new w _) (by simp)

theorem all_take_succ {l : List Int} {k : Nat} (p : Int → Bool) (h : k < l.length) : (l.take (k + 1)).all p = ((l.take k).all p && p l[k]) := by
  rw [List.take_succ_eq_append_getElem h, List.all_append, List.all_cons, List.all_nil, Bool.and_true]

set_option maxHeartbeats 400000 in
theorem valid_c (c : Cfg) (v : Value) (l : List Int) (w : World) (h : RdL intF 1 w v l) : Calls Try.prog 36 #[c.val, v] w (RetBool (l.all tok && cok c) w) := by
  obtain ⟨a, cap, rfl⟩ := h.shape
  have hm := h.2.1
  have H := Lib.hid h
  clear h
  have e1 : (checkV c == 0) = cok c := by unfold checkV; cases cok c <;> rfl
  have E1 := Lib.hid e1
  clear e1
  go_enter Try.func36, Try.ntmps36
  go_wp2_with (first | (refine box_cfg rfl _ rfl c rfl ?_; intro w1 B1 G1 z1))
  go_loopw [9] (fun s9 wr => ∃ k : Nat, k ≤ l.length ∧ s9 = .int .i64 k ∧ (l.take k).all tok = true ∧ w.grownBy wr none ∧ BoxAt wr w.heap.size c) (fun s9 _ => l.length - (intOf s9).toNat)
  case atStart => exact ⟨0, Nat.zero_le _, rfl, by simp, G1, B1⟩
  case round =>
    obtain ⟨k, hk, rfl, hall, G2, B2⟩ := hrel
    by_cases hlt : k < l.length
    · obtain ⟨g, off, cap', hv, hgl, hc⟩ := H.out.cell intF_len (by omega)
      cases hv
      have hcell : wr.cell? ⟨g, off + k, none⟩ = some (.int .i64 l[k]) := by
        rw [(grownBy_cells G2).1 _ _ hgl (by simp)]
        have := hc k l[k] (List.getElem?_eq_getElem hlt) 0 _ rfl
        simpa using this
      have hat := all_take_succ tok hlt
      obtain ⟨x, hx⟩ : ∃ x, x = l[k] := ⟨_, rfl⟩
      rw [← hx] at hat hcell
      have Hx := Lib.hid hx
      have Hat := Lib.hid hat
      have Hall := Lib.hid hall
      clear hat hc hall hx
      by_cases h0 : x < 0
      · have hf : (l.all tok && cok c) = false := by
          have ht : tok x = false := decide_eq_false fun h => by omega
          have : l.all tok = false := by rw [List.all_eq_false]; exact ⟨x, by rw [Hx.out]; exact List.getElem_mem hlt, by simp [ht]⟩
          rw [this]; rfl
        have Hf := Lib.hid hf
        clear hf
        go_wp2_with fail
        go_ret
        exact retBool Hf.out G2
      · by_cases h1 : 1099511627776 < x
        · have hf : (l.all tok && cok c) = false := by
            have ht : tok x = false := decide_eq_false fun h => by omega
            have : l.all tok = false := by rw [List.all_eq_false]; exact ⟨x, by rw [Hx.out]; exact List.getElem_mem hlt, by simp [ht]⟩
            rw [this]; rfl
          have Hf := Lib.hid hf
          have d0 : decide (x < 0) = false := decide_eq_false h0
          clear hf h0
          go_wp2_with fail
          go_ret
          exact retBool Hf.out G2
        · have d0 : decide (x < 0) = false := decide_eq_false h0
          have d1 : decide (1099511627776 < x) = false := decide_eq_false h1
          have ht : tok x = true := decide_eq_true (by omega)
          have Ht := Lib.hid ht
          clear h0 h1 ht
          go_wp2_with fail
          exact ⟨⟨k + 1, by omega, by go_num, by rw [Hat.out, Hall.out, Ht.out]; rfl, G2, B2⟩, by simp [intOf]; omega⟩
    · have hl : (l.all tok && cok c) = (checkV c == 0) := by
        rw [E1.out]
        have : l.take k = l := List.take_of_length_le (by omega)
        rw [this] at hall
        rw [hall]; rfl
      have Hl := Lib.hid hl
      clear hl hall
      go_wp2_with (first | (refine load_cfg rfl _ rfl _ rfl c (by assumption) ?_) | (go_at_call 52; refine (ccheck_c c _).mono ?_; rintro e w3 ⟨rfl, G3⟩))
      go_ret
      exact retBool Hl.out (grownBy_trans G2 G3)

theorem numsV {c : Cfg} (h : cok c = true) : (1 ≤ c.Length ∧ c.Length ≤ 1048576) ∧ (0 ≤ c.Lateness ∧ c.Lateness ≤ 1048576) ∧ (1 ≤ c.Windows ∧ c.Windows ≤ 8) := by
  simp only [cok, decide_eq_true_eq] at h; omega
theorem tokV {n : Int} (h : tok n = true) : 0 ≤ n ∧ n ≤ 1099511627776 := by
  simpa [tok] using h

set_option maxHeartbeats 400000 in
theorem cwin_c (c : Cfg) (n : Int) (w : World) : Calls Try.prog 20 #[c.val, .int .i64 n] w (RetInt (winV c n) w) := by
  cases hc : (tok n && cok c)
  · have hx : winV c n = 0 := by unfold winV; rw [Bool.and_comm, hc]; rfl
    have Hx := Lib.hid hx
    have hv : (([n] : List Int).all tok && cok c) = false := by simpa using hc
    have Hv := Lib.hid hv
    clear hx hc hv
    go_enter Try.func20, Try.ntmps20
    go_wp2_with (first | (refine box_cfg rfl _ rfl c rfl ?_; intro w1 B1 G1 z1) | (refine load_cfg rfl _ rfl _ rfl c (by assumption) ?_) | (go_at_call 36; refine (valid_c c _ [n] _ (rd_one _ n)).mono ?_; rw [Hv.out]; rintro e w2 ⟨rfl, G2⟩))
    go_ret
    exact retInt Hx.out (grownBy_trans G1 (grownBy_trans (World.grownBy_alloc _ _ _) G2))
  · have hx : winV c n = n / c.Length := by unfold winV; rw [Bool.and_comm, hc]; rfl
    have Hx := Lib.hid hx
    have hv : (([n] : List Int).all tok && cok c) = true := by simpa using hc
    have Hv := Lib.hid hv
    simp only [Bool.and_eq_true] at hc
    obtain ⟨⟨l0, l1⟩, _⟩ := numsV hc.2
    obtain ⟨n0, n1⟩ := tokV hc.1
    clear hx hc hv
    go_enter Try.func20, Try.ntmps20
    go_wp2_with (first | (refine box_cfg rfl _ rfl c rfl ?_; intro w1 B1 G1 z1) | (refine load_cfg rfl _ rfl _ rfl c (by assumption) ?_) | (go_at_call 36; refine (valid_c c _ [n] _ (rd_one _ n)).mono ?_; rw [Hv.out]; rintro e w2 ⟨rfl, G2⟩; have hb2 := ((B1.same (World.grownBy_alloc _ _ _)).same G2).cell))
    go_ret
    exact retInt Hx.out (grownBy_trans G1 (grownBy_trans (World.grownBy_alloc _ _ _) G2))

theorem lowV_bd (c : Cfg) (n : Int) : 0 ≤ lowV c n ∧ lowV c n ≤ 1099511627776 := by
  unfold lowV
  split
  · rename_i h
    simp only [Bool.and_eq_true] at h
    obtain ⟨⟨l0, l1⟩, ⟨l2, l3⟩, _⟩ := numsV h.1
    obtain ⟨n0, n1⟩ := tokV h.2
    have h1 : max (n - c.Lateness) 0 / c.Length ≤ max (n - c.Lateness) 0 := Int.ediv_le_self _ (by omega)
    exact ⟨Int.ediv_nonneg (by omega) (by omega), by omega⟩
  · omega
theorem winV_bd (c : Cfg) (n : Int) : 0 ≤ winV c n ∧ winV c n ≤ 1099511627776 := by
  unfold winV
  split
  · rename_i h
    simp only [Bool.and_eq_true] at h
    obtain ⟨⟨l0, l1⟩, _⟩ := numsV h.1
    obtain ⟨n0, n1⟩ := tokV h.2
    have h1 : n / c.Length ≤ n := Int.ediv_le_self _ n0
    exact ⟨Int.ediv_nonneg n0 (by omega), by omega⟩
  · omega

attribute [local go_sem ↓] exec_load_cfg
attribute [local go_sem] run_loadCfgS

theorem verV_no {c : Cfg} {m t : Int} (h : (cok c && tok m && tok t) = false) : verV c m t = 0 := by unfold verV; rw [h]; rfl
theorem verV_yes {c : Cfg} {m t : Int} (h : (cok c && tok m && tok t) = true) : verV c m t = if winV c t < lowV c m then 3 else if lowV c m + c.Windows ≤ winV c t then 4 else 0 := by unfold verV; rw [h]; rfl

theorem verV_late {c : Cfg} {m t : Int} (h : (cok c && tok m && tok t) = true) (h1 : winV c t < lowV c m) : verV c m t = 3 := by rw [verV_yes h, if_pos h1]
theorem verV_early {c : Cfg} {m t : Int} (h : (cok c && tok m && tok t) = true) (h1 : ¬ winV c t < lowV c m) (h2 : lowV c m + c.Windows ≤ winV c t) : verV c m t = 4 := by rw [verV_yes h, if_neg h1, if_pos h2]
theorem verV_in {c : Cfg} {m t : Int} (h : (cok c && tok m && tok t) = true) (h1 : ¬ winV c t < lowV c m) (h2 : ¬ lowV c m + c.Windows ≤ winV c t) : verV c m t = 0 := by rw [verV_yes h, if_neg h1, if_neg h2]

end Go.Proofs.Ytkdbapbmbhmaiaa

/- What the references say of a valid configuration: Config, Tracked. -/
namespace Go.Proofs.Ytkdbapbmbhmaiaa
open Go.RowKit

@[go_sem] theorem run_max_int4 {P : Program} (w : World) (ts : Array TypeId) (t : TypeId) (k k' k'' k3 : IntKind) (x y z u : Int) : (Builtin.max_ ts t #[.int k x, .int k' y, .int k'' z, .int k3 u]).run P w = .ok (.int k (max (max (max x y) z) u)) w := by
  have e : ∀ a b : Int, (if b > a then b else a) = max a b := fun a b => by
    rw [Int.max_def]; split <;> split <;> omega
  simp [Builtin.max_, Builtin.max2, e]

set_option maxHeartbeats 1000000 in
set_option maxRecDepth 100000 in
theorem rconfig_c (c : Cfg) (l : List (Int × Int)) (t : List Int) (w : World) (hn : CfgNums c) (hm : CfgMem c l t w) (hc : CfgCls c l) :
    Calls Try.prog 32 #[c.val] w fun e w' => e = .returned (.int .i64 0) ∧ w.grownBy w' none := by
  obtain ⟨a1, a2⟩ := hn.queue
  obtain ⟨a3, a4⟩ := hn.slots
  obtain ⟨a5, a6⟩ := hn.exact
  obtain ⟨a7, a8⟩ := hn.depth
  obtain ⟨a9, a10⟩ := hn.width
  obtain ⟨a11, a12⟩ := hn.top
  obtain ⟨a13, a14⟩ := hn.key
  have b1 : decide (c.Queue < 1) = false := decide_eq_false (by omega)
  have b2 : decide (64 < c.Queue) = false := decide_eq_false (by omega)
  have b3 : decide (c.Slots < 1) = false := decide_eq_false (by omega)
  have b4 : decide (64 < c.Slots) = false := decide_eq_false (by omega)
  have b5 : decide (c.Exact < 0) = false := decide_eq_false (by omega)
  have b6 : decide (32 < c.Exact) = false := decide_eq_false (by omega)
  have b7 : decide (c.Depth < 1) = false := decide_eq_false (by omega)
  have b8 : decide (4 < c.Depth) = false := decide_eq_false (by omega)
  have b9 : decide (c.Width < 1) = false := decide_eq_false (by omega)
  have b10 : decide (256 < c.Width) = false := decide_eq_false (by omega)
  have b11 : decide (c.Top < 1) = false := decide_eq_false (by omega)
  have b12 : decide (64 < c.Top) = false := decide_eq_false (by omega)
  have b13 : decide (c.Key < 1) = false := decide_eq_false (by omega)
  have b14 : decide (255 < c.Key) = false := decide_eq_false (by omega)
  have hp := hc.ok.pos
  obtain ⟨g, off, cap, hv, hgl, hcl⟩ := hm.classes.cell clsF_len hp
  obtain ⟨p, hlast⟩ : ∃ p, l[l.length - 1]? = some p := ⟨l[l.length - 1], List.getElem?_eq_getElem (by omega)⟩
  have c0 : w.cell? ⟨g, off + (l.length - 1) * 2, none⟩ = some (.int .i64 p.1) := hcl _ p hlast 0 _ rfl
  obtain ⟨q1, q2, q3⟩ := hc.last p hlast
  have e1 : ((l.length : Int) - 1).toNat = l.length - 1 := by omega
  have e2 : (1 : Int) ≤ l.length := by omega
  have e3 : (0 : Int) ≤ (l.length : Int) - 1 := by omega
  have e4 : 1 ≤ l.length := hp
  have e5 : l.length ≤ 8 := hc.ok.len
  have b15 : decide (p.1 < max (max (max (8 * c.Width) 32) 24) c.Key) = false := decide_eq_false (by omega)
  have Hn := Lib.hid hn
  have Hm := Lib.hid hm
  have Hc := Lib.hid hc
  have Hv := Lib.hid hv
  have Hmode := Lib.hid hn.mode
  have hpos := Lib.hid hp
  clear hn hm hc hcl hlast hv a1 a2 a3 a4 a5 a6 a7 a8 a11 a12
  have am : ∃ m1 m2, (c.Mode != 1) = m1 ∧ (c.Mode != 2) = m2 ∧ (m1 && m2) = false := by
    refine ⟨_, _, rfl, rfl, ?_⟩
    rcases Hmode.out with h | h <;> simp [h]
  obtain ⟨m1, m2, am1, am2, am3⟩ := am
  cases m1 <;> cases m2
  case true.true => simp at am3
  all_goals
    clear am3
    go_enter Try.func32, Try.ntmps32
    go_upto_region 1 with (refine box_cfg rfl _ rfl c rfl ?_; intro w1 B1 G1 z1)
    simp only [List.append_eq, List.cons_append, List.nil_append]
    go_wp2_with (first | (refine box_cfg rfl _ rfl c rfl ?_; intro w1 B1 G1 z1) | (refine load_cfg rfl _ rfl _ rfl c (by assumption) ?_) | (refine load_cfg_if rfl _ rfl _ rfl c (by assumption) ?_) | (go_at_call 49; refine (rclock_c c _ Hn.out).mono ?_; rintro e w2 ⟨rfl, G2⟩; have B2 := B1.same G2; have K2 := grownBy_trans G1 G2; clear B1 G1 G2) | (go_at_call 50; refine (routes_c c l t _ Hn.out (Hm.out.same K2)).mono ?_; rintro e w3 ⟨rfl, G3⟩; have B3 := B2.same G3; have K3 := grownBy_trans K2 G3; have hb3 := B3.cell; clear B2 G3 K2) | (go_at_call 51; refine (classes_c _ l _ (Hm.out.same K3).classes Hc.out.ok).mono ?_; rintro e w4 ⟨rfl, G4⟩; have hb4 := (B3.same G4).cell; have K4 := Lib.hid (grownBy_trans K3 G4); simp only [Cfg.arr, Hv.out] at hb4; have hc4 := ((grownBy_cells K4.out).1 _ (off + (l.length - 1) * 2) hgl (by simp)).trans c0; clear hb3 B3 G4 K3))
    go_ret
    exact ⟨rfl, K4.out⟩

set_option maxHeartbeats 1000000 in
theorem tracked_c (c : Cfg) (l : List (Int × Int)) (t : List Int) (w : World) (hn : CfgNums c) (hm : CfgMem c l t w) (hc : CfgCls c l) :
    Calls Try.prog 34 #[c.val] w fun e w' => e = .returned (.int .i64 (c.Shards * c.Windows * (c.Slots + c.Exact))) ∧ w.grownBy w' none := by
  obtain ⟨a1, a2⟩ := hn.shards
  obtain ⟨a3, a4⟩ := hn.windows
  obtain ⟨a5, a6⟩ := hn.slots
  obtain ⟨a7, a8⟩ := hn.exact
  have m1 : c.Shards * c.Windows ≤ 64 := by
    have := Int.mul_le_mul a2 a4 (by omega) (by omega); simpa using this
  have m0 : 0 ≤ c.Shards * c.Windows := Int.mul_nonneg (by omega) (by omega)
  have m2 : c.Shards * c.Windows * (c.Slots + c.Exact) ≤ 6144 := by
    have := Int.mul_le_mul m1 (show c.Slots + c.Exact ≤ 96 by omega) (by omega) (by omega); simpa using this
  have m3 : 0 ≤ c.Shards * c.Windows * (c.Slots + c.Exact) := Int.mul_nonneg m0 (by omega)
  have Hn := Lib.hid hn
  have Hm := Lib.hid hm
  have Hc := Lib.hid hc
  clear hn hm hc
  go_enter Try.func34, Try.ntmps34
  go_wp2_with (first | (refine box_cfg rfl _ rfl c rfl ?_; intro w1 B1 G1 z1) | (refine load_cfg rfl _ rfl _ rfl c (by assumption) ?_) | (go_at_call 32; refine (rconfig_c c l t _ Hn.out (Hm.out.same G1) Hc.out).mono ?_; rintro e w2 ⟨rfl, G2⟩; have hb2 := (BoxAt.same (by assumption) G2).cell))
  go_ret
  exact ⟨rfl, grownBy_trans G1 G2⟩
end Go.Proofs.Ytkdbapbmbhmaiaa

/- The demand of a configuration, as it is specified: what it leaves, its numbers not said. -/
namespace Go.Proofs.Ytkdbapbmbhmaiaa
open Go.RowKit

/-- What Demand leaves (its numbers are not said here). -/
def DemandPost (n : Nat) (w : World) (e : Ending) (w' : World) : Prop :=
  ∃ B out, e = .returned (.tuple #[.slice (some ⟨B, 0, none⟩) n n, .int .i64 0]) ∧ w.heap.size ≤ B ∧ OutAt w' B out ∧ out.length = n ∧ w.grownBy w' none

structure DemSt (c : Cfg) (n : Nat) (w : World) (B : Nat) (wx : World) : Prop where
  box : BoxAt wx w.heap.size c
  out : ∃ out, OutAt wx B out ∧ out.length = n
  grown : w.grownBy wx none
  lt : w.heap.size < B
theorem DemSt.set {c : Cfg} {n : Nat} {w : World} {B : Nat} {wx : World} (h : DemSt c n w B wx) (k : Nat) (x : Int) : DemSt c n w B (wx.setCell ⟨B, k, none⟩ (.int .i64 x)) := by
  obtain ⟨out, ho, hl⟩ := h.out
  refine ⟨h.box.kept (grownBy_set (grownBy_refl wx _) k _) (by have := h.lt; simp; omega), ⟨_, ho.set k x, by simpa using hl⟩, grownBy_setNew h.grown (Nat.le_of_lt h.lt) _, h.lt⟩
theorem DemSt.drew {c : Cfg} {n : Nat} {w : World} {B : Nat} {wx : World} (h : DemSt c n w B wx) : DemSt c n w B wx.drew := ⟨⟨h.box.block⟩, h.out, grownBy_drew h.grown, h.lt⟩
theorem DemSt.same {c : Cfg} {n : Nat} {w : World} {B : Nat} {wx wy : World} (h : DemSt c n w B wx) (hg : wx.grownBy wy none) : DemSt c n w B wy := by
  obtain ⟨out, ho, hl⟩ := h.out
  exact ⟨h.box.same hg, ⟨out, ho.kept hg (by simp), hl⟩, grownBy_trans h.grown hg, h.lt⟩

theorem DemSt.cell {c : Cfg} {n : Nat} {w : World} {B : Nat} {wx : World} (h : DemSt c n w B wx) {k : Nat} (hk : k < n) : ∃ x, wx.cell? ⟨B, k, none⟩ = some (.int .i64 x) := by
  obtain ⟨out, ho, hl⟩ := h.out
  exact ⟨_, ho.cell (by omega)⟩
theorem DemSt.free {c : Cfg} {n : Nat} {w : World} {B : Nat} {wx : World} (h : DemSt c n w B wx) (k : Nat) : wx.frozen? ⟨B, k, none⟩ = false := by
  obtain ⟨out, ho, hl⟩ := h.out
  exact ho.free k
theorem DemSt.bLt {c : Cfg} {n : Nat} {w : World} {B : Nat} {wx : World} (h : DemSt c n w B wx) : B < wx.heap.size := by
  obtain ⟨out, ho, hl⟩ := h.out
  exact ho.lt
theorem keepS {c : Cfg} {n : Nat} {w : World} {B k : Nat} {x : Value} {w1 w2 : World} (hg : w1.grownBy w2 none) (h2 : DemSt c n w B w1) (h1 : w1.cell? ⟨B, k, none⟩ = some x) :
    w2.cell? ⟨B, k, none⟩ = some x ∧ w2.frozen? ⟨B, k, none⟩ = false ∧ isCfg w2 w.heap.size = true ∧ readCfg w2 w.heap.size = c.val ∧ DemSt c n w B w2 :=
  ⟨((grownBy_cells hg).1 B k h2.bLt (by simp)).trans h1, (h2.same hg).free k, (h2.same hg).box.is, (h2.same hg).box.reads, h2.same hg⟩

theorem keepH {c : Cfg} {n : Nat} {w : World} {B k : Nat} {x : Value} {w1 w2 : World} (hg : w1.grownBy w2 none)
    (h : w1.cell? ⟨B, k, none⟩ = some x ∧ w1.frozen? ⟨B, k, none⟩ = false ∧ isCfg w1 w.heap.size = true ∧ readCfg w1 w.heap.size = c.val ∧ DemSt c n w B w1) :
    w2.cell? ⟨B, k, none⟩ = some x ∧ w2.frozen? ⟨B, k, none⟩ = false ∧ isCfg w2 w.heap.size = true ∧ readCfg w2 w.heap.size = c.val ∧ DemSt c n w B w2 :=
  keepS hg h.2.2.2.2 h.1
theorem grownH {c : Cfg} {n : Nat} {w : World} {B : Nat} {w1 : World} {p q r s : Prop} (h : p ∧ q ∧ r ∧ s ∧ DemSt c n w B w1) : w.grownBy w1 none := h.2.2.2.2.grown

attribute [local go_sem ↓] exec_load_cfg
attribute [local go_sem] run_loadCfgS

set_option maxHeartbeats 1000000 in
set_option maxRecDepth 100000 in
theorem demand_c (c : Cfg) (l : List (Int × Int)) (t : List Int) (w : World) (hn : CfgNums c) (hm : CfgMem c l t w) (hc : CfgCls c l) :
    Calls Try.prog 17 #[c.val] w (DemandPost l.length w) := by
  obtain ⟨a11, a12⟩ := hn.width
  have hp : 0 < l.length := hc.ok.pos
  have hp8 : l.length ≤ 8 := hc.ok.len
  obtain ⟨g, off, cap, hv, hgl, hcl⟩ := hm.classes.cell clsF_len hp
  have k1 := fitI_lt (8 * c.Width) hp
  have k2 := fitI_lt 32 hp
  have k3 := fitI_lt 24 hp
  have Hn := Lib.hid hn
  have Hm := Lib.hid hm
  have Hc := Lib.hid hc
  have Hv := Lib.hid hv
  have HR : Hid (∀ w', w.grownBy w' none → RdL clsF 2 w' (.slice (some ⟨g, off, none⟩) l.length cap) l) := Lib.hid fun w' hg => by rw [← hv]; exact (hm.same hg).classes
  have hmk := make_ints l.length (by omega)
  clear hn hm hc hcl hv
  go_enter Try.func17, Try.ntmps17
  go_upto_region 6 with (first | (refine box_cfg rfl _ rfl c rfl ?_; intro w1 B1 G1 z1) | (refine load_cfg rfl _ rfl _ rfl c (by assumption) ?_) | (go_at_call 32; refine (rconfig_c c l t _ Hn.out (Hm.out.same G1) Hc.out).mono ?_; rintro e w2 ⟨rfl, G2⟩; have B2 := B1.same G2; have K2 := grownBy_trans G1 G2; have hb2 := B2.cell; simp only [Cfg.arr, Hv.out] at hb2; have z2 := Nat.lt_of_lt_of_le z1 G2.size; clear G1 G2 B1 z1) | (go_at_call 33; refine (fit_c _ l _ _ (HR.out _ (grownBy_trans K2 (World.grownBy_alloc w2 _ _)))).mono ?_; rintro e w3 ⟨rfl, G3⟩; have B3 := (B2.same (World.grownBy_alloc w2 _ _)).same G3; have O3 := Lib.hid ((OutAt.new w2 l.length).kept G3 (by simp)); have K3 := grownBy_trans (grownBy_trans K2 (World.grownBy_alloc w2 _ _)) G3; have hb3 := B3.cell; simp only [Cfg.arr, Hv.out] at hb3; clear hb2 G3 B2))
  obtain ⟨B, hB⟩ : ∃ B, B = w2.heap.size := ⟨_, rfl⟩
  have S3 : DemSt c l.length w B w3 := ⟨B3, ⟨_, by rw [hB]; exact O3.out, by simp⟩, K3, by rw [hB]; exact z2⟩
  have oc := (O3.out.cell (k := fitI l (8 * c.Width)) (by simpa using k1))
  have of := O3.out.free (fitI l (8 * c.Width))
  have ok : (0 : Int) ≤ (fitI l (8 * c.Width) : Nat) := by omega
  have ok' : ((fitI l (8 * c.Width) : Nat) : Int) < l.length := by omega
  rw [← hB] at oc of
  rw [← hB]
  clear hmk B3 O3 K3 hB
  go_cut [5] (fun s5 wx => s5 = .slice (some ⟨B, 0, none⟩) l.length l.length ∧ DemSt c l.length w B wx)
  case first =>
    go_still_tail 14, (by kernel_rfl)
    go_wp2_with fail
    go_meet
    exact ⟨rfl, S3.drew.set _ _⟩
  case rest =>
    obtain ⟨rfl, S4⟩ := hcut
    clear hb3
    have hb4 := S4.box.cell
    simp only [Cfg.arr, Hv.out] at hb4
    go_upto_region 8 with (go_at_call 33; refine (fit_c _ l _ _ (HR.out _ S4.grown)).mono ?_; rintro e w5 ⟨rfl, G5⟩; have S5 := S4.same G5; clear G5 hb4)
    go_cut [5] (fun s5 wx => s5 = .slice (some ⟨B, 0, none⟩) l.length l.length ∧ DemSt c l.length w B wx)
    case first =>
      obtain ⟨x5, hx5⟩ := S5.cell k2
      have hk2 : (0 : Int) ≤ (fitI l 32 : Nat) := by omega
      have hk2' : ((fitI l 32 : Nat) : Int) < l.length := by omega
      obtain ⟨r1, r2, r3⟩ := S5.box.re
      have r4 := cell_regrown hx5
      have r5 := call_re (w := w5) fun w' hg => tracked_c c l t w' Hn.out (Hm.out.same (grownBy_trans S5.grown hg)) Hc.out
      refine Tail.wp_region_tail_grown 8 (by kernel_rfl) (by kernel_rfl) ?_
      simp only [List.take, List.drop]
      repeat (go_big_quiet_step (exact r5 _ _))
      refine wpQuiet_nil ?_
      rintro _ ⟨⟨d5, os5⟩, rfl⟩
      have S5' := S5.same (grown_re w5 d5 os5)
      have hx5' := S5'.cell k2
      have hf5 := S5'.free (fitI l 32)
      clear r1 r2 r3 r4 r5
      generalize Go.Sort.grow (redrawn w5 d5) os5 = w6 at *
      obtain ⟨x6, hx6⟩ := hx5'
      go_wp2_with fail
      go_meet
      exact ⟨rfl, DemSt.set (by assumption) _ _⟩
    case rest =>
      obtain ⟨rfl, S6⟩ := hcut
      have hb6 := S6.box.cell
      simp only [Cfg.arr, Hv.out] at hb6
      go_upto_region 10 with (go_at_call 33; refine (fit_c _ l _ _ (HR.out _ S6.grown)).mono ?_; rintro e w7 ⟨rfl, G7⟩; have S7 := S6.same G7; clear G7 hb6)
      go_cut [5] (fun s5 wx => s5 = .slice (some ⟨B, 0, none⟩) l.length l.length ∧ DemSt c l.length w B wx)
      case first =>
        obtain ⟨x7, hx7⟩ := S7.cell k3
        have hk3 : (0 : Int) ≤ (fitI l 24 : Nat) := by omega
        have hk3' : ((fitI l 24 : Nat) : Int) < l.length := by omega
        have hf7 := S7.free (fitI l 24)
        have hb7 := S7.box.cell
        go_still_tail 11, (by kernel_rfl)
        go_wp2_with fail
        go_meet
        exact ⟨rfl, S7.drew.set _ _⟩
      case rest =>
        obtain ⟨rfl, S8⟩ := hcut
        obtain ⟨y1, y2⟩ := Hn.out.key
        go_wp2_with fail
        go_loopw [12, 13] (fun s12 s13 wr => ∃ (k : Nat) (la : Int), s13 = .int .i64 k ∧ s12 = .int .i64 la ∧ (k : Int) ≤ c.Key + 1 ∧ DemSt c l.length w B wr) (fun _ s13 _ => (c.Key + 1 - intOf s13).toNat)
        case atStart => exact ⟨1, -1, rfl, rfl, by omega, S8⟩
        case round =>
          obtain ⟨k, la, rfl, rfl, hk, S9⟩ := hrel
          have hb9 := S9.box.cell
          simp only [Cfg.arr, Hv.out] at hb9
          have kk := fitI_lt (l := l) (k : Int) hp
          by_cases hlt : (k : Int) ≤ c.Key
          · cases hq : ((fitI l (k : Int) : Int) != la)
            · go_wp2_with (go_at_call 33; refine (fit_c _ l _ _ (HR.out _ S9.grown)).mono ?_; rintro e w10 ⟨rfl, G10⟩)
              exact ⟨⟨k + 1, la, by go_num, rfl, by omega, S9.same G10⟩, by simp [intOf]; omega⟩
            · go_wp2_with (go_at_call 33; refine (fit_c _ l _ _ (HR.out _ S9.grown)).mono ?_; rintro e w10 ⟨rfl, G10⟩; have S10 := S9.same G10; clear G10 hb9)
              obtain ⟨x10, hx10⟩ := S10.cell kk
              have hk4 : (0 : Int) ≤ (fitI l (k : Int) : Nat) := by omega
              have hk4' : ((fitI l (k : Int) : Nat) : Int) < l.length := by omega
              obtain ⟨r1, r2, r3⟩ := S10.box.re
              have r4 := cell_regrown hx10
              have r5 := call_re (w := w10) fun w' hg => tracked_c c l t w' Hn.out (Hm.out.same (grownBy_trans S10.grown hg)) Hc.out
              refine Tail.wp_region_tail_grown 14 (by kernel_rfl) (by kernel_rfl) ?_
              simp only [List.take, List.drop]
              repeat (go_big_quiet_step (exact r5 _ _))
              refine wpQuiet_nil ?_
              rintro _ ⟨⟨d5, os5⟩, rfl⟩
              have S10' := S10.same (grown_re w10 d5 os5)
              have hx10' := S10'.cell kk
              have hf10 := S10'.free (fitI l (k : Int))
              clear r1 r2 r3 r4 r5 hx10
              generalize Go.Sort.grow (redrawn w10 d5) os5 = w11 at *
              obtain ⟨x11, hx11⟩ := hx10'
              go_wp2_with fail
              refine ⟨⟨k + 1, _, by go_num, rfl, by omega, S10'.set _ _⟩, ?_⟩
              simp [intOf]; omega
          · go_wp2_with fail
            go_ret2
            obtain ⟨out, ho, hl⟩ := S9.out
            exact ⟨B, out, rfl, Nat.le_of_lt S9.lt, ho, hl, S9.grown⟩
end Go.Proofs.Ytkdbapbmbhmaiaa
