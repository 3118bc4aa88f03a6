/- Several texts in one file; each begins with a comment that says what is proved in it. -/
import Derived.Test.YtiagjiaahnkefaaBunAE
import Derived.Test.YtiagjiaahnkefaaBunAF
import Derived.Test.YtiagjiaahnkefaaBunAC
import Derived.Test.YtiagjiaahnkefaaBunAB
import Derived.Laws.BytesString
import Derived.Laws.Rows
import Derived.Test.YtiagjiaahnkefaaBunAD
import Derived.Test.YtiagjiaahnkefaaBunAA

/- The deck's summaries. -/
namespace Go.Proofs.Ytiagjiaahnkefaa
open Go.RowKit
attribute [local go_sem ↓] exec_load_cfg
attribute [local go_sem] run_loadCfgS

theorem conv1 (w : World) (g : Nat) (n : Int) (h : w.cell? ⟨g, 0, none⟩ = some (.int .u8 n)) : (convert 40 9 (.slice (some ⟨g, 0, none⟩) 1 1)).run Try.prog w = .ok (.string (keyS n)) w := by
  rw [run_convert_bytes_string w 40 9 5 _ 1 1 Try.underlying40 Try.underlying5 Try.underlying9]
  rw [run_bytesToString w ⟨g, 0, none⟩ 1 1 [n]]
  · rfl
  · exact run_loadCells_list w ⟨g, 0, none⟩ [.int .u8 n] (fun j v hv => by
      cases j with
      | zero => simp at hv; subst hv; exact h
      | succ j => simp at hv)

/-- What stands while a summary is made: the deck, the configuration's box, the result's block, the summary's own block. -/
structure DS (B b bc br bs : Nat) (c : Cfg) (w0 : World) (tot : Int) (ve : Value) (un : Int) (vr : Value) (w : World) : Prop where
  deck : Deck B w b
  box : BoxAt w bc c
  res : Blk w br #[.int .u64 0, .slice none 0 0, .int .u64 0, .slice none 0 0]
  sum : Blk w bs #[.int .u64 tot, ve, .int .u64 un, vr]
  lt : b < B ∧ B ≤ bc ∧ bc < br ∧ br < bs ∧ w0.heap.size ≤ bc
  grown : w0.grownBy w (some b)
section
variable {B b bc br bs : Nat} {c : Cfg} {w0 w w' : World} {tot un : Int} {ve vr : Value}
theorem DS.next (h : DS B b bc br bs c w0 tot ve un vr w) (hd : Deck B w' b) (hg : w.grownBy w' (some b)) : DS B b bc br bs c w0 tot ve un vr w' := by
  obtain ⟨h1, h2, h3, h4, h5⟩ := h.lt
  exact ⟨hd, h.box.kept hg (by simp; omega), h.res.kept hg (by simp; omega), h.sum.kept hg (by simp; omega), h.lt, grownBy_trans h.grown hg⟩
theorem DS.same (h : DS B b bc br bs c w0 tot ve un vr w) (hg : w.grownBy w' none) : DS B b bc br bs c w0 tot ve un vr w' :=
  ⟨h.deck.kept hg (by simp), h.box.same hg, h.res.same hg, h.sum.same hg, h.lt, grownBy_trans h.grown (grownBy_some hg _)⟩
theorem DS.off (h : DS B b bc br bs c w0 tot ve un vr w) {r : Option Nat} (hg : w.grownBy w' r) (hr : ∀ k, r = some k → bs < k) : DS B b bc br bs c w0 tot ve un vr w' := by
  obtain ⟨h1, h2, h3, h4, h5⟩ := h.lt
  refine ⟨h.deck.kept hg (fun k e => by have := hr k e; omega), h.box.kept hg (fun e => by have := hr _ e; omega), h.res.kept hg (fun e => by have := hr _ e; omega), h.sum.kept hg (fun e => by have := hr _ e; omega), h.lt, ?_⟩
  cases r with
  | none => exact grownBy_trans h.grown (grownBy_some hg _)
  | some k => exact grownBy_new h.grown hg (by have := hr k rfl; omega)
theorem DS.set {tot' un' : Int} {ve' vr' : Value} (h : DS B b bc br bs c w0 tot ve un vr w) (i : Nat) (v : Value) (he : (#[.int .u64 tot, ve, .int .u64 un, vr] : Array Value).setIfInBounds i v = #[.int .u64 tot', ve', .int .u64 un', vr']) :
    DS B b bc br bs c w0 tot' ve' un' vr' (w.setCell ⟨bs, i, none⟩ v) := by
  obtain ⟨h1, h2, h3, h4, h5⟩ := h.lt
  have hg : w.grownBy (w.setCell ⟨bs, i, none⟩ v) (some bs) := grownBy_set (grownBy_refl w _) i v
  exact ⟨h.deck.kept hg (by intro k hk; cases hk; show B ≤ bs; omega), h.box.kept hg (by simp; omega), h.res.kept hg (by simp; omega), h.sum.set_ i v he, h.lt, grownBy_setNew h.grown (show w0.heap.size ≤ bs by omega) v⟩
end

theorem elt_ent : Elt 65 77 (.agg #[.string ⟨#[]⟩, .int .u64 0, .int .u64 0]) 3 32 := ⟨Try.underlying65, by kernel_rfl, rfl, by decide⟩
theorem one_ent : OneF entF := by intro x u hu; simp [entF] at hu; rcases hu with rfl | rfl | rfl <;> rfl
theorem elt_row : Elt 66 24 (.slice none 0 0) 1 24 := ⟨Try.underlying66, by kernel_rfl, rfl, by decide⟩
def wordCells (l : List Int) : Array Value := (l.map (fun x => Value.int .u64 x)).toArray
theorem info_word : (Try.prog.info? 22).map (fun i => (i.zero, i.size, i.bytes)) = some (some (.int .u64 0), 1, 8) := by kernel_rfl
theorem made_words (n : Nat) : madeCells #[Value.int .u64 0] n = wordCells (List.replicate n 0) := by
  unfold madeCells wordCells
  apply Array.ext
  · simp
  · intro i h1 h2
    simp [Nat.mod_one]
theorem make_words (n : Nat) (hn : n ≤ 1000000) (w : World) :
    (Instr.makeSlice 24 (.int .i64 n) (.int .i64 n)).run Try.prog w = .ok (.slice (some ⟨w.heap.size, 0, none⟩) n n) (w.alloc (.cells (wordCells (List.replicate n 0)) 22)) := by
  obtain ⟨i0, hi, hz0, hz1, hz2⟩ := info_parts info_word
  have := run_make (P := Try.prog) w 24 22 i0 (.int .u64 0) Try.underlying24 hi hz0 .i64 .i64 n n (by omega) (by omega) (by rw [hz2]; omega) (by omega)
  rw [this, hz1]
  simp only [Int.toNat_natCast, Nat.mul_one, Value.cells, made_words]
theorem Blk.words {w : World} {g : Nat} {l : List Int} (h : Blk w g (wordCells l)) (hl : l.length ≤ 9223372036854775807) : RdL wordF 1 w (.slice (some ⟨g, 0, none⟩) l.length l.length) l := by
  refine ⟨by rw [length_cellsOf _ 1 wordF_len], hl, .inr ⟨g, 0, l.length, rfl, h.lt, fun j u hu => ?_⟩⟩
  rw [cells_word] at hu
  rw [Nat.zero_add, h.cell j]
  simpa [wordCells] using hu
/-- append of one element in a block of its own, whatever the list's reading says of other elements. -/
theorem app_oneV {α : Type} {f : α → List Value} {st e : TypeId} {z : Value} {size bytes : Nat} {w : World} {B : Nat} {v : Value} {l : List α} {o : Oper} {a : Act} {ops : Array Oper} {rest : List Oper} {Q : Exit → Act → World → Prop}
    (E : Elt st e z size bytes) (hf : ∀ x, (f x).length = size) (hown : Own f size e B w v l) (y : α) (h1 : ∀ u ∈ f y, u.oneCell' = true) (hb : (l.length + 1) * bytes ≤ 140737488355328) (h63 : l.length + 1 ≤ 9223372036854775807) (hbase : B ≤ w.heap.size) {te : TypeId} {cs : Array Value} (hcs : cs.toList = f y)
    (hgd : o.guard = none) (s x : Operand) (ho : o.op = .call { callee := .builtin .append, args := #[s, x], argTypes := #[st, st] }) (hs : a.eval s = v) (hx : a.eval x = .slice (some ⟨w.heap.size, 0, none⟩) 1 1)
    (h : ∀ v' w', Own f size e B w' v' (l ++ [y]) → w.grownBy w' v.ownBlock → Lies v v' w.heap.size → wpList Try.prog ops Q rest (a.put o.dst v') w') : wpList Try.prog ops Q (o :: rest) a (w.alloc (.cells cs te)) := by
  refine wpList_plain hgd fun _ hK => ?_
  have hr := rd_one' hf w y cs te hcs
  obtain ⟨v', w', hrun, h2, h3, h4⟩ := run_app (ty := o.type) E (hown.same (World.grownBy_alloc w (.cells cs te) none)) hr (by simpa [cellsOf] using h1) (by unfold maxLen; exact h63) (by simpa using hb) (by simp; omega)
  unfold Oper.wp execOp
  simp only [ho, resolve, invoke, builtin, Sem.run_bind, Sem.run_pure, Result.andThen_ok, List.map_toArray, List.map_cons, List.map_nil, hs, hx, hrun]
  refine hK _ _ (h v' w' ?_ (grownBy_trans (World.grownBy_alloc w _ _) h3) (h4.imp id fun ⟨g, e1, e2⟩ => ⟨g, e1, by simp at e2; omega⟩))
  unfold Own; rw [cellsOf_append, List.length_append]; exact h2

/-- The rows made so far. -/
structure RowsG (bs : Nat) (tot wid : Int) (w : World) (vr : Value) (vs : List Value) (rows : List (List Int)) : Prop where
  own : Own valF 1 24 (bs + 1) w vr vs
  len : vs.length = rows.length
  rd : ∀ (i : Nat) v row, vs[i]? = some v → rows[i]? = some row → RdL wordF 1 w v row
  far : ∀ v ∈ vs, ∃ g n c, v = .slice (some ⟨g, 0, none⟩) n c ∧ bs < g ∧ g < w.heap.size ∧ vr.ownBlock ≠ some g
  num : ∀ r ∈ rows, (r.length : Int) = wid ∧ ∀ x ∈ r, 0 ≤ x ∧ x ≤ tot
theorem RowsG.nil (bs : Nat) (tot wid : Int) (w : World) : RowsG bs tot wid w (.slice none 0 0) [] [] := ⟨Own.nil _ _ _ _ _, rfl, by simp, by simp, by simp⟩
theorem notIn_at {g n c b : Nat} (h : g ≠ b) : NotIn (.slice (some ⟨g, 0, none⟩) n c) b := fun a n' c' e => by cases e; exact h
theorem RowsG.kept {bs : Nat} {tot wid : Int} {w w' : World} {vr : Value} {vs : List Value} {rows : List (List Int)} {r : Option Nat} (h : RowsG bs tot wid w vr vs rows) (hg : w.grownBy w' r) (hr : ∀ k, r = some k → k ≤ bs) : RowsG bs tot wid w' vr vs rows := by
  refine ⟨h.own.kept hg (fun k hk e => ?_), h.len, fun i v row hv hrow => ?_, fun v hv => ?_, h.num⟩
  · have := (h.own.lt k hk).1
    have := hr k e
    omega
  · obtain ⟨g, n, c, rfl, h1, h2, h3⟩ := h.far v (List.mem_of_getElem? hv)
    exact Rd.kept (h.rd i _ row hv hrow) hg fun k e => notIn_at (by have := hr k e; omega)
  · obtain ⟨g, n, c, rfl, h1, h2, h3⟩ := h.far v hv
    exact ⟨g, n, c, rfl, h1, Nat.lt_of_lt_of_le h2 hg.size, h3⟩
theorem RowsG.snoc {bs : Nat} {tot wid : Int} {w w' : World} {vr vr' : Value} {vs : List Value} {rows : List (List Int)} {g : Nat} {row : List Int} (h : RowsG bs tot wid w vr vs rows) (hB : Blk w g (wordCells row)) (hg : bs < g) (hng : vr.ownBlock ≠ some g)
    (hl : (row.length : Int) = wid) (hl2 : row.length ≤ 1000) (hx : ∀ x ∈ row, 0 ≤ x ∧ x ≤ tot) (ho : Own valF 1 24 (bs + 1) w' vr' (vs ++ [.slice (some ⟨g, 0, none⟩) row.length row.length])) (hw : w.grownBy w' vr.ownBlock) (hL : Lies vr vr' w.heap.size) :
    RowsG bs tot wid w' vr' (vs ++ [.slice (some ⟨g, 0, none⟩) row.length row.length]) (rows ++ [row]) := by
  have hoff : ∀ k, k < w.heap.size → vr.ownBlock ≠ some k → vr'.ownBlock ≠ some k := fun k hk hn e => by
    rcases hL with h1 | ⟨m, h1, h2⟩
    · exact hn (h1 ▸ e)
    · rw [h1] at e; cases e; omega
  refine ⟨ho, by simp [h.len], fun i v r hv hr => ?_, fun v hv => ?_, fun r hr => ?_⟩
  · rcases Nat.lt_or_ge i vs.length with h1 | h1
    · rw [List.getElem?_append_left h1] at hv
      rw [List.getElem?_append_left (by rw [← h.len]; exact h1)] at hr
      obtain ⟨g', n, c, rfl, h2, h3, h4⟩ := h.far v (List.mem_of_getElem? hv)
      exact Rd.kept (h.rd i _ r hv hr) hw fun k e => notIn_at (fun e2 => h4 (by rw [e, e2]))
    · rw [List.getElem?_append_right h1] at hv
      rw [List.getElem?_append_right (by rw [← h.len]; exact h1), ← h.len] at hr
      have hi : i - vs.length = 0 := by
        rcases Nat.eq_zero_or_pos (i - vs.length) with e | e
        · exact e
        · rw [List.getElem?_eq_none (by simp; omega)] at hv; cases hv
      rw [hi] at hv hr
      simp only [List.getElem?_cons_zero, Option.some.injEq] at hv hr
      subst hv; subst hr
      exact (hB.kept hw hng).words (by omega)
  · rcases List.mem_append.1 hv with hv | hv
    · obtain ⟨g', n, c, rfl, h2, h3, h4⟩ := h.far v hv
      exact ⟨g', n, c, rfl, h2, Nat.lt_of_lt_of_le h3 hw.size, hoff g' h3 h4⟩
    · obtain rfl := List.mem_singleton.1 hv
      exact ⟨g, _, _, rfl, hg, Nat.lt_of_lt_of_le hB.lt hw.size, hoff g hB.lt hng⟩
  · rcases List.mem_append.1 hr with hr | hr
    · exact h.num r hr
    · obtain rfl := List.mem_singleton.1 hr
      exact ⟨hl, hx⟩
/-- The slice lies in blocks from lo on, below hi. -/
def InB (lo hi : Nat) (v : Value) : Prop := ∀ a n c, v = .slice (some a) n c → lo ≤ a.block ∧ a.block < hi
theorem InB.notIn {lo hi b : Nat} {v : Value} (h : InB lo hi v) (hb : b < lo ∨ hi ≤ b) : NotIn v b := fun a n c e => by have := h a n c e; omega
theorem InB.wide {lo hi lo' hi' : Nat} {v : Value} (h : InB lo hi v) (h1 : lo' ≤ lo) (h2 : hi ≤ hi') : InB lo' hi' v := fun a n c e => by have := h a n c e; omega
theorem Own.inB {α : Type} {f : α → List Value} {s : Nat} {e : TypeId} {B : Nat} {w : World} {v : Value} {l : List α} (h : Own f s e B w v l) : InB B w.heap.size v := by
  intro a n c hv
  rcases h.2 with ⟨rfl, _⟩ | ⟨g, cap, cur, rfl, _⟩
  · cases hv
  · cases hv; exact h.lt g rfl
structure SumIn (lo hi : Nat) (s : Summ) : Prop where
  ve : InB lo hi s.ve
  vr : InB lo hi s.vr
  vs : ∀ v ∈ s.vs, InB lo hi v
theorem SumRd.kept {lo up : Nat} {w w' : World} {s : Summ} {r : Option Nat} (h : SumRd w s) (hi : SumIn lo up s) (hg : w.grownBy w' r) (hr : ∀ k, r = some k → k < lo ∨ up ≤ k) : SumRd w' s :=
  ⟨Rd.kept h.es hg fun k e => hi.ve.notIn (hr k e), Rd.kept h.vs hg fun k e => hi.vr.notIn (hr k e), h.len, fun i v row hv hrow => Rd.kept (h.rows i v row hv hrow) hg fun k e => (hi.vs v (List.mem_of_getElem? hv)).notIn (hr k e)⟩
theorem sumRd_of {bs : Nat} {tot wid un : Int} {w : World} {ve vr : Value} {es : List Ent} {vs : List Value} {rows : List (List Int)} (hO : Own entF 3 77 (bs + 1) w ve es) (hR : RowsG bs tot wid w vr vs rows) : SumRd w ⟨tot, ve, un, vr, es, vs, rows⟩ ∧ SumIn (bs + 1) w.heap.size ⟨tot, ve, un, vr, es, vs, rows⟩ := by
  refine ⟨⟨hO.rd, hR.own.rd, hR.len, hR.rd⟩, hO.inB, hR.own.inB, fun v hv a n c e => ?_⟩
  obtain ⟨g, n', c', rfl, h1, h2, _⟩ := hR.far v hv
  cases e
  exact ⟨h1, h2⟩
theorem SumRd.kept2 {lo up : Nat} {w w' : World} {s : Summ} {r : Option Nat} (h : SumRd w s ∧ SumIn lo up s) (hg : w.grownBy w' r) (hr : ∀ k, r = some k → k < lo) (hu : up ≤ w.heap.size) : SumRd w' s ∧ SumIn lo w'.heap.size s :=
  ⟨h.1.kept h.2 hg fun k e => .inl (hr k e), ⟨h.2.ve.wide (Nat.le_refl _) (Nat.le_trans hu hg.size), h.2.vr.wide (Nat.le_refl _) (Nat.le_trans hu hg.size), fun v hv => (h.2.vs v hv).wide (Nat.le_refl _) (Nat.le_trans hu hg.size)⟩⟩
theorem SumIn.wide {lo up lo' : Nat} {s : Summ} (h : SumIn lo up s) (hl : lo' ≤ lo) : SumIn lo' up s := ⟨h.ve.wide hl (Nat.le_refl _), h.vr.wide hl (Nat.le_refl _), fun v hv => (h.vs v hv).wide hl (Nat.le_refl _)⟩
def DsumPost (B b : Nat) (c : Cfg) (w : World) (e : Ending) (w' : World) : Prop :=
  ∃ s : Summ, e = .returned (sumV s.total s.ve s.untr s.vr) ∧ SummG c s ∧ SumRd w' s ∧ SumIn w.heap.size w'.heap.size s ∧ Deck B w' b ∧ w.grownBy w' (some b)

set_option maxHeartbeats 600000 in
set_option maxRecDepth 100000 in
theorem dsummary_c {B : Nat} (b : Nat) (c : Cfg) (w : World) (hd : Deck B w b) (hB : B ≤ w.heap.size) (hs : 1 ≤ c.Shards ∧ c.Shards ≤ 8) (hdep : 0 ≤ c.Depth ∧ c.Depth ≤ 4) (hwid : 0 ≤ c.Width ∧ c.Width ≤ 256) :
    Calls Try.prog 70 #[.pointer (some ⟨b, 0, none⟩), c.val] w (DsumPost B b c w) := by
  have hbB := hd.below
  go_enter Try.func70, Try.ntmps70
  go_upto_region 1 with (refine box_cfg rfl _ rfl c rfl ?_; intro w1 B1 G1 z1)
  have hd1 : Deck B (w1.alloc (.cells #[.int .u64 0, .slice none 0 0, .int .u64 0, .slice none 0 0] 68)) b := (hd.kept G1 (by simp)).alloc _
  have K1 : w.grownBy (w1.alloc (.cells #[.int .u64 0, .slice none 0 0, .int .u64 0, .slice none 0 0] 68)) none := grownBy_new_block G1 _
  have BC1 : BoxAt (w1.alloc (.cells #[.int .u64 0, .slice none 0 0, .int .u64 0, .slice none 0 0] 68)) w.heap.size c := B1.same (World.grownBy_alloc _ _ _)
  have R1 : Blk (w1.alloc (.cells #[.int .u64 0, .slice none 0 0, .int .u64 0, .slice none 0 0] 68)) w1.heap.size #[.int .u64 0, .slice none 0 0, .int .u64 0, .slice none 0 0] := Blk.new _ _ _
  generalize w1.alloc (.cells #[.int .u64 0, .slice none 0 0, .int .u64 0, .slice none 0 0] 68) = w2 at *
  generalize w1.heap.size = br at *
  generalize hbc : w.heap.size = bc at *
  clear G1 B1 hd
  go_upto_region 2 with (go_at_call 48; refine (next_c b _ _ hd1 (by omega) (by omega)).mono ?_; rintro e w3 ⟨r, rfl, hr0, hr1, hd2, G2⟩)
  have D0 : DS B b bc br w3.heap.size c w r (.slice none 0 0) 0 (.slice none 0 0) (w3.alloc (.cells #[.int .u64 r, .slice none 0 0, .int .u64 0, .slice none 0 0] 68)) :=
    ⟨(hd2.alloc _), (BC1.kept G2 (by simp; omega)).same (World.grownBy_alloc _ _ _), (R1.kept G2 (by simp; omega)).same (World.grownBy_alloc _ _ _), Blk.new _ _ _, ⟨hbB, hB, z1, Nat.lt_of_lt_of_le R1.lt G2.size, by omega⟩, grownBy_trans (grownBy_trans (grownBy_some K1 _) G2) (grownBy_some (World.grownBy_alloc _ _ _) _)⟩
  have hbs : br < w3.heap.size := D0.lt.2.2.2.1
  generalize w3.alloc (.cells #[.int .u64 r, .slice none 0 0, .int .u64 0, .slice none 0 0] 68) = w4 at *
  generalize w3.heap.size = bs at *
  clear hd1 hd2 G2 R1 BC1 K1
  have hdd := D0.deck
  go_cut [18, 19] (fun s18 s19 wx => ∃ bq : Bool, s19 = .bool bq ∧ DS B b bc br bs c w r (.slice none 0 0) 0 (.slice none 0 0) wx)
  case first =>
    go_wp2_with (go_at_call 48; refine (next_c b _ _ hdd (by omega) (by omega)).mono ?_; rintro e w5 ⟨r2, rfl, hr2, hr3, hd3, G3⟩; have D1 := D0.next hd3 G3)
    go_meet
    exact ⟨_, rfl, D1⟩
  case rest =>
    obtain ⟨bq, rfl, D1⟩ := hcut
    clear D0 hdd
    rename_i hK
    refine hK _ _ ?_
    go_cut [20, 21, 22, 23, 24, 25] (fun _ _ _ _ _ _ wx => ∃ tot, (0 ≤ tot ∧ tot * (2 * c.Shards) ≤ 9223372036854775808) ∧ DS B b bc br bs c w tot (.slice none 0 0) 0 (.slice none 0 0) wx)
    case first =>
      obtain ⟨s1, s2⟩ := hs
      have bx := D1.box.cell
      have bz := D1.sum.cell
      have bf := D1.sum.free
      have hz : ((2 * c.Shards) == 0) = false := beq_eq_false_iff_ne.2 (by omega)
      cases bq
      · go_wp2_with fail
        go_meet
        exact ⟨r, ⟨hr0, by have := Int.mul_le_mul (a := r) (b := 2 * c.Shards) (c := 200) (d := 16) (by omega) (by omega) (by omega) (by omega); omega⟩, D1⟩
      · go_wp2_with fail
        go_meet
        exact ⟨9223372036854775808 / (2 * c.Shards), ⟨Int.ediv_nonneg (by omega) (by omega), Int.ediv_mul_le _ (by omega)⟩, D1.set 0 _ rfl⟩
    case rest =>
      obtain ⟨tot, ht, D2⟩ := hcut
      clear D1 hK
      have hdd := D2.deck
      have bz := D2.sum.cell
      go_upto_region 6 with fail
      go_cut [8, 28, 29] (fun s8 _ _ wx => ∃ k0 : Int, s8 = .int .i64 k0 ∧ (0 ≤ k0 ∧ k0 < 5) ∧ DS B b bc br bs c w tot (.slice none 0 0) 0 (.slice none 0 0) wx)
      case first =>
        go_wp2_with (go_at_call 48; refine (next_c b _ _ hdd (by omega) (by omega)).mono ?_; rintro e w5 ⟨k0, rfl, hk0, hk1, hd3, G3⟩; have D3 := D2.next hd3 G3)
        go_meet
        exact ⟨k0, rfl, ⟨hk0, hk1⟩, D3⟩
      clear D2 hdd bz
      obtain ⟨k0, rfl, ⟨hk0, hk1⟩, D3⟩ := hcut
      rename_i hK
      refine hK _ _ ?_
      go_cut [6, 7, 8, 9, 30, 31, 32, 33, 34, 35, 36, 37, 38, 39, 40, 41, 42, 43, 44, 45, 46, 47, 48, 49, 50, 51, 52, 53, 54, 55, 56, 57, 58, 59, 60, 61, 62, 63, 64, 65, 66, 67, 68, 69, 70, 71, 72, 73, 74] (fun _ _ _ _ _ _ _ _ _ _ _ _ _ _ _ _ _ _ _ _ _ _ _ _ _ _ _ _ _ _ _ _ _ _ _ _ _ _ _ _ _ _ _ _ _ _ _ _ _ wx => ∃ (left key : Int) (es : List Ent) (ve : Value), (0 ≤ left ∧ left ≤ tot) ∧ key ≤ 109 ∧ es.length ≤ 4 ∧ EntsG tot left key es ∧ Own entF 3 77 (bs + 1) wx ve es ∧ DS B b bc br bs c w tot ve 0 (.slice none 0 0) wx)
      case first =>
        go_wp2_with fail
        go_loopw [6, 7, 8] (fun s6 s7 s8 wr => ∃ (left key k : Int) (es : List Ent) (ve : Value), s6 = .int .u64 left ∧ s7 = .int .u8 key ∧ s8 = .int .i64 k ∧ (0 ≤ k ∧ k ≤ 4) ∧ (0 ≤ left ∧ left ≤ tot) ∧ (97 ≤ key ∧ key + 3 * k ≤ 109) ∧ es.length + k ≤ 4 ∧ EntsG tot left key es ∧ Own entF 3 77 (bs + 1) wr ve es ∧ DS B b bc br bs c w tot ve 0 (.slice none 0 0) wr) (fun _ _ s8 _ => (intOf s8).toNat)
        case atStart => exact ⟨tot, 97, k0, [], _, rfl, rfl, rfl, ⟨hk0, by omega⟩, ⟨ht.1, Int.le_refl _⟩, ⟨by omega, by omega⟩, by simp; omega, EntsG.nil _, Own.nil _ _ _ _ _, D3⟩
        case round =>
          obtain ⟨left, key, k, es, ve, rfl, rfl, rfl, hk, hl, hky, hen, hEG, hO, D4⟩ := hrel
          have HE := Lib.hid hEG
          clear hEG
          by_cases hgo : 0 < k ∧ 0 < left
          · obtain ⟨g1, g2⟩ := hgo
            have hdd := D4.deck
            go_upto_region 10 with (go_at_call 48; refine (next_c b _ _ hdd (by omega) (by omega)).mono ?_; rintro e w6 ⟨k1, rfl, hk1, hk2, hd4, G4⟩; have D5 := D4.next hd4 G4)
            have O5 : Own entF 3 77 (bs + 1) w6 ve es := hO.kept G4 (fun g hg e => by have := (hO.lt g hg).1; cases e; have := D4.lt; omega)
            clear D4 hO hdd hd4 G4
            generalize hkk : key + (1 + k1) = key2 at *
            have hcv := fun w' g h => conv1 w' g key2 h
            obtain ⟨hl1, hl2⟩ := hl
            obtain ⟨ht1, ht2⟩ := ht
            have ht3 : tot ≤ 9223372036854775808 := by
              have h1 : tot * 1 ≤ tot * (2 * c.Shards) := Int.mul_le_mul_of_nonneg_left (by omega) ht1
              omega
            have hl3 : left ≤ 9223372036854775808 := by omega
            have hlz : (left == 0) = false := beq_eq_false_iff_ne.2 (by omega)
            have hb6 : b < w6.heap.size := D5.deck.lt
            have hl0 : ¬ left = 0 := by omega
            have hw50 : ∀ x : Int, 0 ≤ x → x < 50 → IntKind.u64.wrap x = x := fun x h h' => IntWalk.u64_in _ (by omega)
            have D6 := D5.same (w' := w6.drew) (by (repeat (first | exact grownBy_refl _ _ | assumption | refine grownBy_new_block ?_ _ | refine grownBy_drew ?_ | refine grownBy_drewN ?_ _ | refine grownBy_setNew ?_ (by first | (simp; done) | omega | (simp; omega)) _)))
            have O6 := O5.same (w' := w6.drew) (by (repeat (first | exact grownBy_refl _ _ | assumption | refine grownBy_new_block ?_ _ | refine grownBy_drew ?_ | refine grownBy_drewN ?_ _ | refine grownBy_setNew ?_ (by first | (simp; done) | omega | (simp; omega)) _)))
            (refine Rg.wp_region_rgZ 11 #[] (Mv B b) (fun _ _ w v w' => NextPost B b 50 w (.returned v) w') (by kernel_rfl) (by kernel_rfl) (Mv.refl B b) (Mv.trans B b) (fun _ _ _ _ _ h => h) ?_; simp only [List.take, List.drop])
            have hb7 : b < w6.drew.heap.size := hb6
            generalize w6.drew = w7 at *
            (refine Rg.tree_quiet 1 rfl (by first | exact Or.inl rfl | exact Or.inr rfl) ?_; simp only [List.take, List.drop, List.length_cons, List.length_nil, List.replicate, Nat.reduceAdd]; (try simp only [List.cons_append]); (try simp only [List.nil_append]); (repeat (go_big_quiet_step (fail))); refine wpQuiet_nil ?_)
            (refine Rg.tree_op rfl rfl ?_; intro w1 mw1 dw1)
            clear dw1
            go_wp2_with fail
            refine ⟨Mv.of (World.grownBy_alloc _ _ _), ?_⟩
            have A1 := Blk.new w1 #[.int .u8 key2] 5
            have L1 : b < w1.heap.size := Nat.lt_of_lt_of_le hb7 mw1.1.size
            generalize w1.alloc (.cells #[.int .u8 key2] 5) = e1 at *
            generalize w1.heap.size = g1 at *
            (refine Rg.tree_op rfl rfl ?_; intro w2 mw2 dw2)
            have A2 := (A1.kept (dw2.out 1 (by omega) (by kernel_rfl)).1 (by simp; omega)).cell 0
            clear dw2
            have hcv2 := hcv w2 _ A2
            go_wp2_with fail
            refine ⟨Mv.refl _ _ _, ?_⟩
            (refine Rg.tree_quiet 1 rfl (by first | exact Or.inl rfl | exact Or.inr rfl) ?_; simp only [List.take, List.drop, List.length_cons, List.length_nil, List.replicate, Nat.reduceAdd]; (try simp only [List.cons_append]); (try simp only [List.nil_append]); (repeat (go_big_quiet_step (fail))); refine wpQuiet_nil ?_)
            (refine Rg.tree_call rfl rfl rfl ?_; intro w3 mw3 dw3; refine ⟨?_, ?_⟩; · (unfold Rg.callSpec; go_simp; (refine (next_c b 50 _ (mw3.2 D6.deck) (by omega) (by omega)).mono ?_; rintro e w' ⟨r, rfl, h⟩; exact ⟨_, rfl, r, rfl, h⟩)))
            clear dw3
            rintro v w3' ⟨r7, hv, hr7, hr8, hd7, G7⟩
            cases hv
            refine ⟨Mv.next G7 hd7, ?_⟩
            simp only [Act.put, List.setIfInBounds_toArray, List.set_cons_zero, List.set_cons_succ]
            have hw7 := hw50 r7 hr7 hr8
            have htm : r7.tmod left = r7 % left := Int.tmod_eq_emod_of_nonneg hr7
            have hm0 : 0 ≤ r7 % left := Int.emod_nonneg r7 (Int.ne_of_gt g2)
            have hm1 : r7 % left < left := Int.emod_lt_of_pos r7 g2
            (refine Rg.tree_quiet 5 rfl (by first | exact Or.inl rfl | exact Or.inr rfl) ?_; simp only [List.take, List.drop, List.length_cons, List.length_nil, List.replicate, Nat.reduceAdd]; (try simp only [List.cons_append]); (try simp only [List.nil_append]); (repeat (go_big_quiet_step (fail))); refine wpQuiet_nil ?_)
            (refine Rg.tree_op rfl rfl ?_; intro w4 mw4 dw4)
            clear dw4
            go_wp2_with fail
            refine ⟨Mv.of (World.grownBy_alloc _ _ _), ?_⟩
            have A4 := Blk.new w4 #[.string ⟨#[]⟩, .int .u64 0, .int .u64 0] 77
            have L4 : w7.heap.size ≤ w4.heap.size := mw4.1.size
            generalize w4.alloc (.cells #[.string ⟨#[]⟩, .int .u64 0, .int .u64 0] 77) = e4 at *
            generalize w4.heap.size = g9 at *
            (refine Rg.tree_nil ?_; intro w8 mw8 dw8 cw8)
            have A8 := A4.kept (dw8.out 10 (by omega)).1 (by simp; omega)
            have D8 := D6.next (mw8.2 D6.deck) mw8.1
            have O8 := O6.kept mw8.1 (fun g hg e => by have := (O6.lt g hg).1; cases e; have := D6.lt; omega)
            have hO9 : ∀ g, ve.ownBlock = some g → g < g9 := fun g hg => Nat.lt_of_lt_of_le (O6.lt g hg).2 L4
            have hs9 : bs < g9 := Nat.lt_of_lt_of_le D6.sum.lt L4
            clear dw8 cw8 mw8 mw4 mw3 mw2 mw1 G7 hd7 A1 A2 hcv2 hcv A4 D6 O6 D5 O5
            have a8 := A8.cell
            have f8 := A8.free
            go_upto_region 11 with fail
            (have hWw9 : World.grownBy w8 (((w8.setCell ⟨g9, 0, none⟩ (.string (keyS key2))).setCell ⟨g9, 1, none⟩ (.int .u64 (1 + r7 % left))).setCell ⟨g9, 2, none⟩ (.int .u64 0)) (some g9) := grownBy_set (grownBy_set (grownBy_set (grownBy_refl _ _) _ _) _ _) _ _); (have hBw9 : Blk (((w8.setCell ⟨g9, 0, none⟩ (.string (keyS key2))).setCell ⟨g9, 1, none⟩ (.int .u64 (1 + r7 % left))).setCell ⟨g9, 2, none⟩ (.int .u64 0)) g9 #[.string (keyS key2), .int .u64 (1 + r7 % left), .int .u64 0] := ((Blk.set_ (by assumption) 0 _ rfl).set_ 1 _ rfl).set_ 2 _ rfl); generalize ((w8.setCell ⟨g9, 0, none⟩ (.string (keyS key2))).setCell ⟨g9, 1, none⟩ (.int .u64 (1 + r7 % left))).setCell ⟨g9, 2, none⟩ (.int .u64 0) = w9 at *
            have D9 := D8.off hWw9 (fun k e => by cases e; exact hs9)
            have O9 := O8.kept hWw9 (fun g hg e => by have := hO9 g hg; cases e; omega)
            have ho1 : 1 ≤ 1 + r7 % left := by omega
            have ho2 : 1 + r7 % left ≤ left := by omega
            generalize 1 + r7 % left = own at *
            clear hw7 htm hm0 hm1 a8 f8 A8 D8 O8 hWw9 hlz hl0
            have D10 := D9.same (w' := w9.drew) (by (repeat (first | exact grownBy_refl _ _ | assumption | refine grownBy_new_block ?_ _ | refine grownBy_drew ?_ | refine grownBy_drewN ?_ _ | refine grownBy_setNew ?_ (by first | (simp; done) | omega | (simp; omega)) _)))
            have O10 := O9.same (w' := w9.drew) (by (repeat (first | exact grownBy_refl _ _ | assumption | refine grownBy_new_block ?_ _ | refine grownBy_drew ?_ | refine grownBy_drewN ?_ _ | refine grownBy_setNew ?_ (by first | (simp; done) | omega | (simp; omega)) _)))
            have A10 := hBw9.drew1
            have hb10 : b < w9.drew.heap.size := D10.deck.lt
            clear D9 O9 hBw9
            (refine Rg.wp_region_rgZ 11 #[] (Mv B b) (fun _ _ w v w' => NextPost B b 20 w (.returned v) w') (by kernel_rfl) (by kernel_rfl) (Mv.refl B b) (Mv.trans B b) (fun _ _ _ _ _ h => h) ?_; simp only [List.take, List.drop])
            generalize w9.drew = w10 at *
            (refine Rg.tree_quiet 1 rfl (by first | exact Or.inl rfl | exact Or.inr rfl) ?_; simp only [List.take, List.drop, List.length_cons, List.length_nil, List.replicate, Nat.reduceAdd]; (try simp only [List.cons_append]); (try simp only [List.nil_append]); (repeat (go_big_quiet_step (fail))); refine wpQuiet_nil ?_)
            (refine Rg.tree_call rfl rfl rfl ?_; intro w11 mw11 dw11; refine ⟨?_, ?_⟩; · (unfold Rg.callSpec; go_simp; (refine (next_c b 20 _ (mw11.2 D10.deck) (by omega) (by omega)).mono ?_; rintro e w' ⟨r, rfl, h⟩; exact ⟨_, rfl, r, rfl, h⟩)))
            clear dw11
            rintro v w11' ⟨r8, hv, hr9, hr10, hd8, G8⟩
            cases hv
            refine ⟨Mv.next G8 hd8, ?_⟩
            simp only [Act.put, List.setIfInBounds_toArray, List.set_cons_zero, List.set_cons_succ]
            have hw8 : IntKind.u64.wrap r8 = r8 := IntWalk.u64_in _ (by omega)
            (refine Rg.tree_quiet 2 rfl (by first | exact Or.inl rfl | exact Or.inr rfl) ?_; simp only [List.take, List.drop, List.length_cons, List.length_nil, List.replicate, Nat.reduceAdd]; (try simp only [List.cons_append]); (try simp only [List.nil_append]); (repeat (go_big_quiet_step (fail))); refine wpQuiet_nil ?_)
            (refine Rg.tree_op rfl rfl ?_; intro w12 mw12 dw12)
            clear dw12
            have bz := (D10.next (mw12.2 D10.deck) mw12.1).sum.cell
            go_wp2_with fail
            refine ⟨Mv.refl _ _ _, ?_⟩
            clear bz
            (refine Rg.tree_quiet 1 rfl (by first | exact Or.inl rfl | exact Or.inr rfl) ?_; simp only [List.take, List.drop, List.length_cons, List.length_nil, List.replicate, Nat.reduceAdd]; (try simp only [List.cons_append]); (try simp only [List.nil_append]); (repeat (go_big_quiet_step (fail))); refine wpQuiet_nil ?_)
            (refine Rg.tree_op rfl rfl ?_; intro w13 mw13 dw13)
            clear dw13
            have bz := (A10.kept mw13.1 (by simp; omega)).cell
            go_wp2_with fail
            refine ⟨Mv.refl _ _ _, ?_⟩
            clear bz
            have htz : (tot - own + 1 == 0) = false := beq_eq_false_iff_ne.2 (by omega)
            have htz2 : ¬ (tot - own + 1 = 0) := by omega
            have htm : r8.tmod (tot - own + 1) = r8 % (tot - own + 1) := Int.tmod_eq_emod_of_nonneg hr9
            have hm0 : 0 ≤ r8 % (tot - own + 1) := Int.emod_nonneg r8 htz2
            have hm1 : r8 % (tot - own + 1) < tot - own + 1 := Int.emod_lt_of_pos r8 (by omega)
            (refine Rg.tree_quiet 4 rfl (by first | exact Or.inl rfl | exact Or.inr rfl) ?_; simp only [List.take, List.drop, List.length_cons, List.length_nil, List.replicate, Nat.reduceAdd]; (try simp only [List.cons_append]); (try simp only [List.nil_append]); (repeat (go_big_quiet_step (fail))); refine wpQuiet_nil ?_)
            (refine Rg.tree_nil ?_; intro w14 mw14 dw14 cw14)
            have D14 := D10.next (mw14.2 D10.deck) mw14.1
            have O14 := O10.kept mw14.1 (fun g hg e => by have := (O10.lt g hg).1; cases e; have := D10.lt; omega)
            have A14 := A10.kept mw14.1 (by simp; omega)
            clear dw14 cw14 mw14 mw13 mw12 mw11 G8 hd8 D10 O10 A10
            generalize hsl : r8 % (tot - own + 1) = slack at *
            have a14 := A14.cell
            have f14 := A14.free
            go_upto_region 12 with fail
            have hWw15 : w14.grownBy (w14.setCell ⟨g9, 2, none⟩ (.int .u64 slack)) (some g9) := grownBy_set (grownBy_refl _ _) _ _
            have A15 : Blk (w14.setCell ⟨g9, 2, none⟩ (.int .u64 slack)) g9 #[.string (keyS key2), .int .u64 own, .int .u64 slack] := A14.set_ 2 _ rfl
            have D15 := D14.off hWw15 (fun k e => by cases e; exact hs9)
            have O15 := O14.kept hWw15 (fun g hg e => by have := hO9 g hg; cases e; omega)
            generalize w14.setCell ⟨g9, 2, none⟩ (.int .u64 slack) = w15 at *
            clear a14 f14 A14 D14 O14 hWw15 htz htz2 htm hw8
            have a15 := A15.cell
            have b15 := D15.sum.cell
            have hsz : bs + 1 ≤ w15.heap.size := D15.sum.lt
            have hb1 : (es.length + 1) * 32 ≤ 140737488355328 := by omega
            have hb2 : es.length + 1 ≤ 9223372036854775807 := by omega
            have HE2 := Lib.hid (HE.out.snoc (key2 := key2) (own := own) (slack := slack) ht3 (by omega) (by omega) (by omega) (by omega) ho1 ho2 hm0 (by omega))
            go_upto_region 8 with (at_builtin; refine app_one elt_ent one_ent entF_len O15 ⟨keyS key2, own, slack⟩ hb1 hb2 hsz (by rfl) rfl (.tmp 70) (.tmp 72) rfl rfl rfl ?_; intro v1 w16 o16 g16 l16; obtain ⟨av, cv, hv1⟩ := o16.shape; generalize (es ++ [Ent.mk (keyS key2) own slack]).length = n1 at hv1; subst hv1; have D16 := D15.off g16 (fun k e => by have := (O15.lt k e).1; omega); have b16 := D16.sum.cell; have f16 := D16.sum.free)
            have D17 := D16.set 1 (.slice av n1 cv) rfl
            have O17 := o16.kept (grownBy_set (grownBy_refl w16 (some bs)) 1 (.slice av n1 cv)) (fun g hg e => by have := (o16.lt g hg).1; cases e; omega)
            generalize w16.setCell ⟨bs, 1, none⟩ (.slice av n1 cv) = w17 at *
            clear D16 b16 f16 o16 g16 l16 D15 b15 a15 A15 O15
            go_wp2_with fail
            exact ⟨⟨left - own, key2, k - 1, _, .slice av n1 cv, rfl, rfl, rfl, by omega, by omega, by omega, by simp; omega, HE2.out, O17, D17⟩, by simp [intOf]; omega⟩
          · have he : es.length ≤ 4 := by omega
            by_cases hk0 : 0 < k
            · have hl0 : left ≤ 0 := by omega
              go_wp2_with fail
              go_meet
              exact ⟨left, key, es, ve, by omega, by omega, he, HE.out, hO, D4⟩
            · go_wp2_with fail
              go_meet
              exact ⟨left, key, es, ve, by omega, by omega, he, HE.out, hO, D4⟩
      obtain ⟨left, key, es, ve, hl, hky, hel, hEG, hO, D4⟩ := hcut
      have HE := Lib.hid hEG
      clear D3 hEG hK
      rename_i hK _ _ _ _ _ _ _ _ _ _ _ _ _ _ _ _ _ _ _ _ _ _ _ _ _ _ _ _ _ _ _ _ _ _ _ _ _ _ _ _ _ _ _ _ _ _ _ 
      refine hK _ _ ?_
      obtain ⟨ea, ec, rfl⟩ := hO.shape
      obtain ⟨hl1, hl2⟩ := hl
      obtain ⟨ht1, ht2⟩ := ht
      have ht3 : tot ≤ 9223372036854775808 := by
        have h1 : tot * 1 ≤ tot * (2 * c.Shards) := Int.mul_le_mul_of_nonneg_left (by omega) ht1
        omega
      have D5 := D4.same (w' := wc.drew) (by (repeat (first | exact grownBy_refl _ _ | assumption | refine grownBy_new_block ?_ _ | refine grownBy_drew ?_ | refine grownBy_drewN ?_ _ | refine grownBy_setNew ?_ (by first | (simp; done) | omega | (simp; omega)) _)))
      have O5 := hO.same (w' := wc.drew) (by (repeat (first | exact grownBy_refl _ _ | assumption | refine grownBy_new_block ?_ _ | refine grownBy_drew ?_ | refine grownBy_drewN ?_ _ | refine grownBy_setNew ?_ (by first | (simp; done) | omega | (simp; omega)) _)))
      clear D4 hO
      go_wp2_with fail
      (refine Rg.wp_region_rgZ 8 #[] (Mv B b) (fun _ _ w v w' => NextPost B b 30 w (.returned v) w') (by kernel_rfl) (by kernel_rfl) (Mv.refl B b) (Mv.trans B b) (fun _ _ _ _ _ h => h) ?_; simp only [List.take, List.drop])
      generalize wc.drew = w10 at *
      (refine Rg.tree_quiet 1 rfl (by first | exact Or.inl rfl | exact Or.inr rfl) ?_; simp only [List.take, List.drop, List.length_cons, List.length_nil, List.replicate, Nat.reduceAdd]; (try simp only [List.cons_append]); (try simp only [List.nil_append]); (repeat (go_big_quiet_step (fail))); refine wpQuiet_nil ?_)
      (refine Rg.tree_call rfl rfl rfl ?_; intro w11 mw11 dw11; refine ⟨?_, ?_⟩; · (unfold Rg.callSpec; go_simp; (refine (next_c b 30 _ (mw11.2 D5.deck) (by omega) (by omega)).mono ?_; rintro e w' ⟨r, rfl, h⟩; exact ⟨_, rfl, r, rfl, h⟩)))
      clear dw11
      rintro v w11' ⟨r8, hv, hr9, hr10, hd8, G8⟩
      cases hv
      refine ⟨Mv.next G8 hd8, ?_⟩
      simp only [Act.put, List.setIfInBounds_toArray, List.set_cons_zero, List.set_cons_succ]
      have hw8 : IntKind.u64.wrap r8 = r8 := IntWalk.u64_in _ (by omega)
      (refine Rg.tree_quiet 2 rfl (by first | exact Or.inl rfl | exact Or.inr rfl) ?_; simp only [List.take, List.drop, List.length_cons, List.length_nil, List.replicate, Nat.reduceAdd]; (try simp only [List.cons_append]); (try simp only [List.nil_append]); (repeat (go_big_quiet_step (fail))); refine wpQuiet_nil ?_)
      (refine Rg.tree_op rfl rfl ?_; intro w12 mw12 dw12)
      clear dw12
      have bz := (D5.next (mw12.2 D5.deck) mw12.1).sum.cell
      go_wp2_with fail
      refine ⟨Mv.refl _ _ _, ?_⟩
      clear bz
      have htz : (tot + 1 == 0) = false := beq_eq_false_iff_ne.2 (by omega)
      have htz2 : ¬ (tot + 1 = 0) := by omega
      have htm : r8.tmod (tot + 1) = r8 % (tot + 1) := Int.tmod_eq_emod_of_nonneg hr9
      have hm0 : 0 ≤ r8 % (tot + 1) := Int.emod_nonneg r8 htz2
      have hm1 : r8 % (tot + 1) < tot + 1 := Int.emod_lt_of_pos r8 (by omega)
      (refine Rg.tree_quiet 3 rfl (by first | exact Or.inl rfl | exact Or.inr rfl) ?_; simp only [List.take, List.drop, List.length_cons, List.length_nil, List.replicate, Nat.reduceAdd]; (try simp only [List.cons_append]); (try simp only [List.nil_append]); (repeat (go_big_quiet_step (fail))); refine wpQuiet_nil ?_)
      (refine Rg.tree_nil ?_; intro w14 mw14 dw14 cw14)
      have D14 := D5.next (mw14.2 D5.deck) mw14.1
      have O14 := O5.kept mw14.1 (fun g hg e => by have := (O5.lt g hg).1; cases e; have := D5.lt; omega)
      clear dw14 cw14 mw14 mw12 mw11 G8 hd8 D5 O5
      generalize r8 % (tot + 1) = un at *
      have b14 := D14.sum.cell
      have f14 := D14.sum.free
      go_upto_region 15 with fail
      have D15 := D14.set 2 (.int .u64 un) rfl
      have O15 := O14.kept (grownBy_set (grownBy_refl w14 (some bs)) 2 (.int .u64 un)) (fun g hg e => by have := (O14.lt g hg).1; cases e; omega)
      generalize w14.setCell ⟨bs, 2, none⟩ (.int .u64 un) = w15 at *
      clear b14 f14 D14 O14 htm htz htz2 hw8
      have hdd := D15.deck
      obtain ⟨wn, hwn⟩ : ∃ n : Nat, c.Width = n := ⟨c.Width.toNat, by omega⟩
      have hwn2 : wn ≤ 256 := by omega
      have hmk : ∀ w, (Instr.makeSlice 24 (.int .i64 c.Width) (.int .i64 c.Width)).run Try.prog w = .ok (.slice (some ⟨w.heap.size, 0, none⟩) wn wn) (w.alloc (.cells (wordCells (List.replicate wn 0)) 22)) := fun w => by rw [hwn]; exact make_words wn (by omega) w
      have Hmk := Lib.hid hmk
      have Hwn := Lib.hid hwn
      clear hmk hwn
      go_upto_region 16 with (go_at_call 48; refine (next_c b _ _ hdd (by omega) (by omega)).mono ?_; rintro e w16 ⟨r2, rfl, hr21, hr22, hd3, G3⟩; have D16 := D15.next hd3 G3; have O16 := O15.kept G3 (fun g hg e => by have := (O15.lt g hg).1; cases e; have := D15.lt; omega); clear hd3 G3; have b16 := D16.sum.cell; have r16 := D16.res.cell; have f16 := D16.res.free)
      rotate_left
      · have Q16 := sumRd_of (un := un) O16 (RowsG.nil bs tot c.Width w16)
        have L16 := D16.lt
        have E16 := D16.deck
        have G16 := D16.grown
        have R16 := D16.res
        clear D16 O16 b16 r16 f16 D15 O15 hdd
        (have hg4 : World.grownBy w16 ((((w16.setCell ⟨br, 0, none⟩ (.int .u64 tot)).setCell ⟨br, 1, none⟩ (.slice ea es.length ec)).setCell ⟨br, 2, none⟩ (.int .u64 un)).setCell ⟨br, 3, none⟩ (.slice none 0 0)) (some br) := grownBy_set (grownBy_set (grownBy_set (grownBy_set (grownBy_refl _ _) _ _) _ _) _ _) _ _); (have hB4 : Blk ((((w16.setCell ⟨br, 0, none⟩ (.int .u64 tot)).setCell ⟨br, 1, none⟩ (.slice ea es.length ec)).setCell ⟨br, 2, none⟩ (.int .u64 un)).setCell ⟨br, 3, none⟩ (.slice none 0 0)) br #[.int .u64 tot, .slice ea es.length ec, .int .u64 un, .slice none 0 0] := (((R16.set_ 0 _ rfl).set_ 1 _ rfl).set_ 2 _ rfl).set_ 3 _ rfl); generalize (((w16.setCell ⟨br, 0, none⟩ (.int .u64 tot)).setCell ⟨br, 1, none⟩ (.slice ea es.length ec)).setCell ⟨br, 2, none⟩ (.int .u64 un)).setCell ⟨br, 3, none⟩ (.slice none 0 0) = wz at *; have rc := hB4.cell; refine bodyPost_ret (v := sumV tot (.slice ea es.length ec) un (.slice none 0 0)) (by simp [results, Try.results70, go_sem, rc]) rfl ?_
        have h5 := SumRd.kept2 Q16 hg4 (fun k e => by cases e; omega) (Nat.le_refl _)
        exact ⟨_, rfl, summG HE.out ht1 ht2 hs.1 hl1 hel hky hm0 (by omega) hdep hwid (Or.inl rfl), h5.1, h5.2.wide (by omega), E16.kept hg4 (fun k e => by cases e; omega), grownBy_new G16 hg4 (by omega)⟩
      have R16 := RowsG.nil bs tot c.Width w16
      clear b16 r16 f16 D15 O15 hdd
      have h85 : (r2 == 1) = true := by assumption
      rw [h85]
      go_wp2_with fail
      go_loopw [10] (fun s10 wr => ∃ (i : Nat) (vr : Value) (vs : List Value) (rows : List (List Int)), s10 = .int .i64 i ∧ (i : Int) ≤ c.Depth ∧ rows.length = i ∧ RowsG bs tot c.Width wr vr vs rows ∧ Apart (.slice ea es.length ec) vr ∧ Own entF 3 77 (bs + 1) wr (.slice ea es.length ec) es ∧ DS B b bc br bs c w tot (.slice ea es.length ec) un vr wr) (fun s10 _ => (c.Depth - intOf s10).toNat)
      case atStart => exact ⟨0, _, [], [], rfl, by omega, rfl, R16, fun k _ e => (by cases e), O16, D16⟩
      case round =>
        obtain ⟨i, vr, vs, rows, rfl, hid, hrl, hR, hap, hO, hD⟩ := hrel
        clear D16 O16 R16
        obtain ⟨ra, rc2, rfl⟩ := hR.own.shape
        have bx := hD.box.cell
        have Hvl := Lib.hid (hR.len.trans hrl)
        have Hrl := Lib.hid hrl
        clear hrl
        by_cases hlt : (i : Int) < c.Depth
        · have hmk := Hmk.out
          go_upto_region 20 with fail
          have Z1 := Blk.new wr (wordCells (List.replicate wn 0)) 22
          have G1 : wr.grownBy (wr.alloc (.cells (wordCells (List.replicate wn 0)) 22)) (some b) := grownBy_some (World.grownBy_alloc _ _ _) _
          have E1 : Deck B (wr.alloc (.cells (wordCells (List.replicate wn 0)) 22)) b := hD.deck.alloc _
          have hbs1 : bs < wr.heap.size := hD.sum.lt
          have hvr : (Value.slice ra vs.length rc2).ownBlock ≠ some wr.heap.size := fun e => by have := (hR.own.lt _ e).2; omega
          generalize wr.alloc (.cells (wordCells (List.replicate wn 0)) 22) = wm at *
          generalize hgg : wr.heap.size = g at *
          clear hmk bx
          go_wp2_with fail
          go_loopw [97] (fun s97 wk => ∃ (j : Nat) (ws : List Int), s97 = .int .i64 j ∧ j ≤ wn ∧ ws.length = wn ∧ (∀ x ∈ ws, 0 ≤ x ∧ x ≤ tot) ∧ Blk wk g (wordCells ws) ∧ wr.grownBy wk (some b) ∧ Deck B wk b) (fun s97 _ => wn - (intOf s97).toNat)
          case atStart => exact ⟨0, List.replicate wn 0, rfl, Nat.zero_le _, by simp, fun x hx => by rw [List.eq_of_mem_replicate hx]; omega, Z1, G1, E1⟩
          case round =>
            obtain ⟨j, ws, rfl, hj, hwl, hws, hBk, hG, hdk⟩ := hrel
            clear Z1 G1 E1
            have hDj := hD.next hdk hG
            by_cases hjl : j < wn
            · have Hws := Lib.hid hws
              clear hws
              go_upto_region 23 with fail
              have D5 := hDj.same (w' := wr.drew) (by (repeat (first | exact grownBy_refl _ _ | assumption | refine grownBy_new_block ?_ _ | refine grownBy_drew ?_ | refine grownBy_drewN ?_ _ | refine grownBy_setNew ?_ (by first | (simp; done) | omega | (simp; omega)) _)))
              have B5 := hBk.drew1
              have hb5 : b < g := by have := hD.lt; omega
              have hj0 : (0 : Int) ≤ (j : Int) := by omega
              have hj1 : (j : Int) < (wn : Int) := by omega
              have G5 := grownBy_drew hG
              clear hDj hBk hG
              (refine Rg.wp_region_rgZ 10 #[] (Mv B b) (fun _ _ w v w' => NextPost B b 100 w (.returned v) w') (by kernel_rfl) (by kernel_rfl) (Mv.refl B b) (Mv.trans B b) (fun _ _ _ _ _ h => h) ?_; simp only [List.take, List.drop])
              generalize wr.drew = w10 at *
              (refine Rg.tree_quiet 3 rfl (by first | exact Or.inl rfl | exact Or.inr rfl) ?_; simp only [List.take, List.drop, List.length_cons, List.length_nil, List.replicate, Nat.reduceAdd]; (try simp only [List.cons_append]); (try simp only [List.nil_append]); (repeat (go_big_quiet_step (fail))); refine wpQuiet_nil ?_)
              (refine Rg.tree_call rfl rfl rfl ?_; intro w11 mw11 dw11; refine ⟨?_, ?_⟩; · (unfold Rg.callSpec; go_simp; (refine (next_c b 100 _ (mw11.2 D5.deck) (by omega) (by omega)).mono ?_; rintro e w' ⟨r, rfl, h⟩; exact ⟨_, rfl, r, rfl, h⟩)))
              clear dw11
              rintro v w11' ⟨r8, hv, hr9, hr10, hd8, G8⟩
              cases hv
              refine ⟨Mv.next G8 hd8, ?_⟩
              simp only [Act.put, List.setIfInBounds_toArray, List.set_cons_zero, List.set_cons_succ]
              have hw8 : IntKind.u64.wrap r8 = r8 := IntWalk.u64_in _ (by omega)
              (refine Rg.tree_quiet 2 rfl (by first | exact Or.inl rfl | exact Or.inr rfl) ?_; simp only [List.take, List.drop, List.length_cons, List.length_nil, List.replicate, Nat.reduceAdd]; (try simp only [List.cons_append]); (try simp only [List.nil_append]); (repeat (go_big_quiet_step (fail))); refine wpQuiet_nil ?_)
              (refine Rg.tree_op rfl rfl ?_; intro w12 mw12 dw12)
              clear dw12
              have bz := (D5.next (mw12.2 D5.deck) mw12.1).sum.cell
              go_wp2_with fail
              refine ⟨Mv.refl _ _ _, ?_⟩
              clear bz
              have htz : (tot + 1 == 0) = false := beq_eq_false_iff_ne.2 (by omega)
              have htz2 : ¬ (tot + 1 = 0) := by omega
              have htm : r8.tmod (tot + 1) = r8 % (tot + 1) := Int.tmod_eq_emod_of_nonneg hr9
              have hx0 : 0 ≤ r8 % (tot + 1) := Int.emod_nonneg r8 htz2
              have hx1 : r8 % (tot + 1) < tot + 1 := Int.emod_lt_of_pos r8 (by omega)
              (refine Rg.tree_quiet 3 rfl (by first | exact Or.inl rfl | exact Or.inr rfl) ?_; simp only [List.take, List.drop, List.length_cons, List.length_nil, List.replicate, Nat.reduceAdd]; (try simp only [List.cons_append]); (try simp only [List.nil_append]); (repeat (go_big_quiet_step (fail))); refine wpQuiet_nil ?_)
              (refine Rg.tree_nil ?_; intro w14 mw14 dw14 cw14)
              have D14 := D5.next (mw14.2 D5.deck) mw14.1
              have B14 := B5.kept mw14.1 (by simp; omega)
              have G14 := grownBy_trans G5 mw14.1
              clear dw14 cw14 mw14 mw12 mw11 G8 hd8 D5 B5 G5
              generalize r8 % (tot + 1) = x at *
              have c14 : w14.cell? ⟨g, j, none⟩ = some (.int .u64 ws[j]) := by rw [B14.cell j]; simp [wordCells, List.getElem?_eq_getElem (show j < ws.length by omega)]
              have f14 := B14.free j
              have D14d := D14.deck
              clear D14
              go_wp2_with fail
              have B15 : Blk (w14.setCell ⟨g, j, none⟩ (.int .u64 x)) g (wordCells (ws.set j x)) := B14.set_ j _ (by simp [wordCells, List.map_set])
              refine ⟨⟨j + 1, ws.set j x, by go_num, by omega, by simpa using hwl, ?_, B15, grownBy_setNew G14 (by simp; omega) _, D14d.kept (grownBy_set (grownBy_refl w14 (some g)) j (.int .u64 x)) (fun k e => by cases e; have := hD.lt; omega)⟩, by simp [intOf]; omega⟩
              intro y hy
              rcases List.mem_or_eq_of_mem_set hy with hy | hy
              · exact Hws.out y hy
              · subst hy; exact ⟨hx0, by omega⟩
            · have hjw : j = wn := by omega
              subst hjw
              have Rj := hR.kept hG (fun k e => by cases e; have := hD.lt; omega)
              have Oj := hO.kept hG (fun k hk e => by have := (hO.lt k hk).1; cases e; have := hD.lt; omega)
              have bz := hDj.sum.cell
              have hsz : bs + 1 ≤ wr.heap.size := hDj.sum.lt
              have hb1 : (vs.length + 1) * 24 ≤ 140737488355328 := by have := Hvl.out; omega
              have hb2 : vs.length + 1 ≤ 9223372036854775807 := by have := Hvl.out; omega
              have Hvr := Lib.hid hvr
              have Hap := Lib.hid hap
              have Hws := Lib.hid hws
              have HG := Lib.hid hG
              clear hvr hws hG hap
              subst hwl
              go_upto_region 18 with (at_builtin; refine app_oneV elt_row valF_len Rj.own (.slice (some ⟨g, 0, none⟩) ws.length ws.length) (by intro u hu; simp [valF] at hu; subst hu; rfl) hb1 hb2 hsz (by rfl) rfl (.tmp 112) (.tmp 114) rfl rfl rfl ?_; intro v1 w16 o16 g16 l16; have R17 := Rj.snoc hBk (by omega) Hvr.out (by have := Hwn.out; omega) (by omega) Hws.out o16 g16 l16; have O17 := Oj.kept g16 (fun k hk e => Hap.out k hk e); have A17 : Apart (Value.slice ea es.length ec) v1 := (fun k hk e => by rcases l16 with h1 | ⟨m, h1, h2⟩ <;> first | exact Hap.out k hk (h1 ▸ e) | (have := (Oj.lt k hk).2; rw [h1] at e; cases e; omega)); obtain ⟨av, cv, hv1⟩ := o16.shape; generalize (vs ++ [Value.slice (some ⟨g, 0, none⟩) ws.length ws.length]).length = n1 at hv1; subst hv1; have D16 := hDj.off g16 (fun k e => by have := (Rj.own.lt k e).1; omega); have b16 := D16.sum.cell; have f16 := D16.sum.free)
              have D17 := D16.set 3 (.slice av n1 cv) rfl
              have G17 : w16.grownBy (w16.setCell ⟨bs, 3, none⟩ (.slice av n1 cv)) (some bs) := grownBy_set (grownBy_refl w16 (some bs)) 3 (.slice av n1 cv)
              have R18 := R17.kept G17 (fun k e => by cases e; omega)
              have O18 := O17.kept G17 (fun k hk e => by have := (O17.lt k hk).1; cases e; omega)
              generalize w16.setCell ⟨bs, 3, none⟩ (.slice av n1 cv) = w17 at *
              clear D16 b16 f16 o16 g16 l16 R17 O17 Rj Oj hDj bz
              go_wp2_with fail
              exact ⟨⟨i + 1, _, _, _, by go_num, by omega, by simp [Hrl.out], R18, A17, O18, D17⟩, by simp [intOf]; omega⟩
        · have b16 := hD.sum.cell
          have r16 := hD.res.cell
          have f16 := hD.res.free
          go_wp2_with fail
          have Q16 := sumRd_of (un := un) hO hR
          have L16 := hD.lt
          have E16 := hD.deck
          have G16 := hD.grown
          have R16 := hD.res
          have N16 := hR.num
          clear b16 r16 f16 bx
          (have hg4 : World.grownBy wr ((((wr.setCell ⟨br, 0, none⟩ (.int .u64 tot)).setCell ⟨br, 1, none⟩ (.slice ea es.length ec)).setCell ⟨br, 2, none⟩ (.int .u64 un)).setCell ⟨br, 3, none⟩ (.slice ra vs.length rc2)) (some br) := grownBy_set (grownBy_set (grownBy_set (grownBy_set (grownBy_refl _ _) _ _) _ _) _ _) _ _); (have hB4 : Blk ((((wr.setCell ⟨br, 0, none⟩ (.int .u64 tot)).setCell ⟨br, 1, none⟩ (.slice ea es.length ec)).setCell ⟨br, 2, none⟩ (.int .u64 un)).setCell ⟨br, 3, none⟩ (.slice ra vs.length rc2)) br #[.int .u64 tot, .slice ea es.length ec, .int .u64 un, .slice ra vs.length rc2] := (((R16.set_ 0 _ rfl).set_ 1 _ rfl).set_ 2 _ rfl).set_ 3 _ rfl); generalize (((wr.setCell ⟨br, 0, none⟩ (.int .u64 tot)).setCell ⟨br, 1, none⟩ (.slice ea es.length ec)).setCell ⟨br, 2, none⟩ (.int .u64 un)).setCell ⟨br, 3, none⟩ (.slice ra vs.length rc2) = wz at *; have rc := hB4.cell; refine bodyPost_ret (v := sumV tot (.slice ea es.length ec) un (.slice ra vs.length rc2)) (by simp [results, Try.results70, go_sem, rc]) rfl ?_
          have h5 := SumRd.kept2 Q16 hg4 (fun k e => by cases e; omega) (Nat.le_refl _)
          exact ⟨_, rfl, summG HE.out ht1 ht2 hs.1 hl1 hel hky hm0 (by omega) hdep hwid (Or.inr ⟨by have := Hrl.out; omega, N16⟩), h5.1, h5.2.wide (by omega), E16.kept hg4 (fun k e => by cases e; omega), grownBy_new G16 hg4 (by omega)⟩
end Go.Proofs.Ytiagjiaahnkefaa

/- The deck's lists of summaries. -/
namespace Go.Proofs.Ytiagjiaahnkefaa
open Go.RowKit
attribute [local go_sem ↓] exec_load_cfg
attribute [local go_sem] run_loadCfgS

theorem elt_sum : Elt 33 68 (.agg #[.int .u64 0, .slice none 0 0, .int .u64 0, .slice none 0 0]) 4 64 := ⟨Try.underlying33, by kernel_rfl, rfl, by decide⟩
def Off (k : Nat) (s : Summ) : Prop := NotIn s.ve k ∧ NotIn s.vr k ∧ ∀ x ∈ s.vs, NotIn x k
theorem SumRd.off {w w' : World} {s : Summ} {r : Option Nat} (h : SumRd w s) (hg : w.grownBy w' r) (hr : ∀ k, r = some k → Off k s) : SumRd w' s :=
  ⟨Rd.kept h.es hg fun k e => (hr k e).1, Rd.kept h.vs hg fun k e => (hr k e).2.1, h.len, fun i v row hv hrow => Rd.kept (h.rows i v row hv hrow) hg fun k e => (hr k e).2.2 v (List.mem_of_getElem? hv)⟩
theorem SumIn.off {lo up k : Nat} {s : Summ} (h : SumIn lo up s) (hk : k < lo ∨ up ≤ k) : Off k s := ⟨h.ve.notIn hk, h.vr.notIn hk, fun x hx => (h.vs x hx).notIn hk⟩
/-- A list of summaries of the deck's, in blocks from lo on. -/
structure SumsG (lo : Nat) (c : Cfg) (w : World) (v : Value) (l : List Summ) : Prop where
  own : Own sumF 4 68 lo w v l
  all : ∀ s ∈ l, SumRd w s ∧ SumIn lo w.heap.size s ∧ SummG c s ∧ ∀ k, v.ownBlock = some k → Off k s
theorem SumsG.nil (lo : Nat) (c : Cfg) (w : World) : SumsG lo c w (.slice none 0 0) [] := ⟨Own.nil _ _ _ _ _, by simp⟩
theorem SumsG.rd {lo : Nat} {c : Cfg} {w : World} {v : Value} {l : List Summ} (h : SumsG lo c w v l) : SumsRd w v l := ⟨h.own.rd, fun s hs => (h.all s hs).1, fun s hs => (h.all s hs).2.2.1.num⟩
theorem SumIn.up {lo up up' : Nat} {s : Summ} (h : SumIn lo up s) (hl : up ≤ up') : SumIn lo up' s := ⟨h.ve.wide (Nat.le_refl _) hl, h.vr.wide (Nat.le_refl _) hl, fun v hv => (h.vs v hv).wide (Nat.le_refl _) hl⟩
theorem SumsG.kept {lo : Nat} {c : Cfg} {w w' : World} {v : Value} {l : List Summ} {r : Option Nat} (h : SumsG lo c w v l) (hg : w.grownBy w' r) (hr : ∀ k, r = some k → k < lo) : SumsG lo c w' v l := by
  refine ⟨h.own.kept hg (fun k hk e => by have := (h.own.lt k hk).1; have := hr k e; omega), fun s hs => ?_⟩
  obtain ⟨h1, h2, h3, h4⟩ := h.all s hs
  exact ⟨h1.off hg fun k e => h2.off (.inl (hr k e)), h2.up hg.size, h3, h4⟩
theorem SumsG.snoc {lo : Nat} {c : Cfg} {w w' : World} {v v' : Value} {l : List Summ} {s : Summ} {n : Nat} (h : SumsG lo c w v l) (h1 : SumRd w s) (h2 : SumIn n w.heap.size s) (h3 : SummG c s) (hn : lo ≤ n) (hv : ∀ k, v.ownBlock = some k → k < n)
    (ho : Own sumF 4 68 lo w' v' (l ++ [s])) (hg : w.grownBy w' v.ownBlock) (hL : Lies v v' w.heap.size) : SumsG lo c w' v' (l ++ [s]) := by
  have hnew : ∀ s, SumIn lo w.heap.size s → (∀ k, v.ownBlock = some k → Off k s) → ∀ k, v'.ownBlock = some k → Off k s := fun s hi hs k hk => by
    rcases hL with e | ⟨m, e1, e2⟩
    · exact hs k (e ▸ hk)
    · rw [e1] at hk; cases hk; exact hi.off (.inr e2)
  refine ⟨ho, fun x hx => ?_⟩
  rcases List.mem_append.1 hx with hx | hx
  · obtain ⟨a1, a2, a3, a4⟩ := h.all x hx
    exact ⟨a1.off hg a4, a2.up hg.size, a3, hnew x a2 a4⟩
  · obtain rfl := List.mem_singleton.1 hx
    have a4 : ∀ k, v.ownBlock = some k → Off k x := fun k hk => h2.off (.inl (hv k hk))
    exact ⟨h1.off hg a4, (h2.up hg.size).wide hn, h3, hnew x (h2.wide hn) a4⟩
def DsumsPost (B b : Nat) (c : Cfg) (w : World) (e : Ending) (w' : World) : Prop :=
  ∃ v l, e = .returned v ∧ SumsG w.heap.size c w' v l ∧ (l.length : Int) = c.Shards ∧ Deck B w' b ∧ w.grownBy w' (some b)

set_option maxHeartbeats 600000 in
set_option maxRecDepth 100000 in
theorem dsums_c {B : Nat} (b : Nat) (c : Cfg) (w : World) (hd : Deck B w b) (hB : B ≤ w.heap.size) (hs : 1 ≤ c.Shards ∧ c.Shards ≤ 8) (hdep : 0 ≤ c.Depth ∧ c.Depth ≤ 4) (hwid : 0 ≤ c.Width ∧ c.Width ≤ 256) :
    Calls Try.prog 30 #[.pointer (some ⟨b, 0, none⟩), c.val] w (DsumsPost B b c w) := by
  have hbB := hd.below
  go_enter Try.func30, Try.ntmps30
  go_upto_region 1 with (refine box_cfg rfl _ rfl c rfl ?_; intro w1 B1 G1 z1)
  have hd1 := hd.kept G1 (by simp)
  have K1 := grownBy_some G1 (some b)
  generalize hbc : w.heap.size = bc at *
  go_wp2_with fail
  go_loopw [5, 6] (fun s5 s6 wk => ∃ (v : Value) (i : Nat) (l : List Summ), s5 = v ∧ s6 = .int .i64 i ∧ l.length = i ∧ (i : Int) ≤ c.Shards ∧ SumsG w1.heap.size c wk v l ∧ BoxAt wk bc c ∧ Deck B wk b ∧ w.grownBy wk (some b) ∧ w1.heap.size ≤ wk.heap.size) (fun _ s6 _ => (c.Shards - intOf s6).toNat)
  case atStart => exact ⟨_, 0, [], rfl, rfl, rfl, by omega, SumsG.nil _ _ _, B1, hd1, K1, Nat.le_refl _⟩
  case round =>
    obtain ⟨v, i, l, rfl, rfl, hl, hi, hS, hBx, hD, hG, hsz⟩ := hrel
    obtain ⟨va, vc, rfl⟩ := hS.own.shape
    have bx := hBx.cell
    have HL := Lib.hid hl
    clear hl B1 G1 hd1 K1
    by_cases hlt : (i : Int) < c.Shards
    · have hb1 : (l.length + 1) * 64 ≤ 140737488355328 := by have := HL.out; omega
      have hb2 : l.length + 1 ≤ 9223372036854775807 := by have := HL.out; omega
      go_upto_region 4 with (first
        | (refine load_cfg rfl _ rfl _ rfl c (by assumption) ?_)
        | (go_at_call 70; refine (dsummary_c b c _ hD (by omega) hs hdep hwid).mono ?_; rintro e w2 ⟨s, rfl, g1, g2, g3, g4, g5⟩; have S2 := hS.kept g5 (fun k e => by cases e; omega); have B2 := hBx.kept g5 (by simp; omega); (obtain ⟨ea, ec, hve⟩ := g2.es.shape); (obtain ⟨ra, rc, hvr⟩ := g2.vs.shape); have hsz2 : w1.heap.size ≤ w2.heap.size := Nat.le_trans hsz g5.size; (have hcs : (#[Value.int .u64 s.total, .slice ea s.es.length ec, .int .u64 s.untr, .slice ra s.vs.length rc] : Array Value).toList = sumF s := by simp [sumF, hve, hvr]); (have h1c : ∀ u ∈ sumF s, u.oneCell' = true := by intro u hu; rw [← hcs] at hu; simp at hu; rcases hu with rfl | rfl | rfl | rfl <;> rfl); rw [hve, hvr]; have Hcs := Lib.hid hcs; have H1c := Lib.hid h1c; clear hcs h1c hve hvr)
        | (at_builtin; refine app_oneV elt_sum sumF_len S2.own s H1c.out hb1 hb2 hsz2 Hcs.out rfl (.tmp 13) (.tmp 17) rfl rfl rfl ?_; intro v3 w3 o3 g6 l3))
      have S3 := S2.snoc g2 g3 g1 hsz (fun k hk => (hS.own.lt k hk).2) o3 g6 l3
      have hne : ∀ k, (Value.slice va l.length vc).ownBlock = some k → w1.heap.size ≤ k := fun k hk => (hS.own.lt k hk).1
      have B3 := B2.kept g6 (fun e => by have := hne _ e; omega)
      have D3 := g4.kept g6 (fun k e => by have := hne _ e; omega)
      have G3 : w.grownBy w3 (some b) := by
        have h5 := grownBy_trans hG g5
        cases hv : (Value.slice va l.length vc).ownBlock with
        | none => rw [hv] at g6; exact grownBy_trans h5 (grownBy_some g6 _)
        | some k => rw [hv] at g6; exact grownBy_new h5 g6 (by have := hne k hv; omega)
      go_wp2_with fail
      exact ⟨⟨_, i + 1, _, rfl, by go_num, by simp [HL.out], by omega, S3, B3, D3, G3, Nat.le_trans hsz2 g6.size⟩, by simp [intOf]; omega⟩
    · go_wp2_with fail
      go_ret
      exact ⟨_, l, rfl, ⟨hS.own.base (fun k hk => by have := (hS.own.lt k hk).1; omega), fun s hs => by
        obtain ⟨a1, a2, a3, a4⟩ := hS.all s hs
        exact ⟨a1, a2.wide (by omega), a3, a4⟩⟩, by have := HL.out; omega, hD, hG⟩
end Go.Proofs.Ytiagjiaahnkefaa

/- Lines: plain. -/
namespace Go.Proofs.Ytiagjiaahnkefaa
open Go.RowKit

/-- The bounds of a key in shard i. -/
def bP (c : Cfg) (t : List Int) (l : List Summ) (k : ByteArray) (i : Int) : Int × Int := match l[i.toNat]? with
  | some s => (min (bndE s.es s.untr k).1 (sEstF c t s k), min (bndE s.es s.untr k).2 (sEstF c t s k))
  | none => (0, 0)
def addP (a x : Int × Int) : Int × Int := (satA a.1 x.1, satA a.2 x.2)
def foldB (c : Cfg) (t : List Int) (l : List Summ) (k : ByteArray) (is : List Int) : Int × Int := is.foldl (fun a i => addP a (bP c t l k i)) (0, 0)
/-- The line of a key: over the shards of its set that there are. -/
def lineF (c : Cfg) (t : List Int) (l : List Summ) (k : ByteArray) : Int × Int := foldB c t l k ((setF c t k).filter (fun i : Int => decide (i < (l.length : Int))))

theorem satA_comm2 {a x y : Int} (hx : 0 ≤ x) (hy : 0 ≤ y) : satA (satA a x) y = satA (satA a y) x := by
  unfold satA; split <;> split <;> split <;> split <;> omega
/-- The summaries that the laws speak of: the numbers fit, no row is empty. -/
structure SumsOk (l : List Summ) : Prop where
  wf : ∀ s ∈ l, SumW s
  rows : ∀ s ∈ l, RowsOk s.rows
  len : ∀ s ∈ l, s.rows.length ≤ 1000
theorem bndE_w {s : Summ} (h : SumW s) (k : ByteArray) : W64 (bndE s.es s.untr k).1 ∧ W64 (bndE s.es s.untr k).2 := by
  unfold bndE
  split
  · rename_i e he
    obtain ⟨h1, h2⟩ := h.es e (List.mem_of_find?_eq_some he)
    exact ⟨h1, satA_w h1 h2⟩
  · exact ⟨w64_0, h.untr⟩
theorem bP_w {c : Cfg} {t : List Int} {l : List Summ} (h : SumsOk l) (k : ByteArray) (i : Int) : W64 (bP c t l k i).1 ∧ W64 (bP c t l k i).2 := by
  unfold bP
  split
  · rename_i s hs
    have hm := List.mem_of_getElem? hs
    obtain ⟨h1, h2⟩ := bndE_w (h.wf s hm) k
    have h3 := w64_sEst (c := c) (t := t) (h.wf s hm).total (h.rows s hm) k
    exact ⟨w64_min h1 h3, w64_min h2 h3⟩
  · exact ⟨w64_0, w64_0⟩
theorem foldB_w {c : Cfg} {t : List Int} {l : List Summ} (h : SumsOk l) (k : ByteArray) (is : List Int) : W64 (foldB c t l k is).1 ∧ W64 (foldB c t l k is).2 := by
  unfold foldB
  have : ∀ (is : List Int) (a : Int × Int), W64 a.1 ∧ W64 a.2 → W64 (is.foldl (fun a i => addP a (bP c t l k i)) a).1 ∧ W64 (is.foldl (fun a i => addP a (bP c t l k i)) a).2 := by
    intro is
    induction is with
    | nil => exact fun _ h => h
    | cons i is ih =>
      intro a ha
      simp only [List.foldl_cons]
      obtain ⟨h1, h2⟩ := bP_w (c := c) (t := t) h k i
      exact ih _ ⟨satA_w ha.1 h1, satA_w ha.2 h2⟩
  exact this is _ ⟨w64_0, w64_0⟩
theorem foldB_snoc (c : Cfg) (t : List Int) (l : List Summ) (k : ByteArray) (is : List Int) (i : Int) : foldB c t l k (is ++ [i]) = addP (foldB c t l k is) (bP c t l k i) := by simp [foldB]
theorem foldB_perm {c : Cfg} {t : List Int} {l : List Summ} (h : SumsOk l) (k : ByteArray) {is is' : List Int} (hp : is.Perm is') : foldB c t l k is = foldB c t l k is' := by
  unfold foldB
  refine hp.foldl_eq' (fun x _ y _ z => ?_) _
  obtain ⟨h1, h2⟩ := bP_w (c := c) (t := t) h k x
  obtain ⟨h3, h4⟩ := bP_w (c := c) (t := t) h k y
  unfold addP
  simp only
  rw [satA_comm2 h1.1 h3.1, satA_comm2 h2.1 h4.1]

theorem setN_nodup {h m : Int} {n : Nat} (h0 : 0 ≤ h) (h1 : h < m) (hm : m ≤ 8) (hn : (n : Int) ≤ m) : (setN h m n).Nodup := by
  unfold setN rangeI
  rw [List.map_map]
  refine List.pairwise_map.2 (List.pairwise_iff_getElem.2 ?_)
  intro i j hi hj hij
  simp only [List.getElem_range, Function.comp]
  simp only [List.length_range] at hi hj
  have : m = 1 ∨ m = 2 ∨ m = 3 ∨ m = 4 ∨ m = 5 ∨ m = 6 ∨ m = 7 ∨ m = 8 := by omega
  rcases this with rfl | rfl | rfl | rfl | rfl | rfl | rfl | rfl <;> omega
theorem setN_in {h m : Int} {n : Nat} (h1 : 1 ≤ m) : ∀ x ∈ setN h m n, 0 ≤ x ∧ x < m := by
  intro x hx
  obtain ⟨i, _, rfl⟩ := List.mem_map.1 hx
  exact ⟨Int.emod_nonneg _ (by omega), Int.emod_lt_of_pos _ (by omega)⟩
theorem rangeI_nodup (n : Nat) : (rangeI n).Nodup := List.pairwise_map.2 (List.nodup_range.imp fun h e => h (Int.ofNat.inj e))
theorem mem_rangeI {n : Nat} {x : Int} : x ∈ rangeI n ↔ 0 ≤ x ∧ x < n := by
  unfold rangeI
  rw [List.mem_map]
  constructor
  · rintro ⟨i, hi, rfl⟩; have := List.mem_range.1 hi; omega
  · intro h; exact ⟨x.toNat, List.mem_range.2 (by omega), by omega⟩
theorem perm_of_nodup {l l' : List Int} (h : l.Nodup) (h' : l'.Nodup) (hm : ∀ x, x ∈ l ↔ x ∈ l') : l.Perm l' := by
  rw [List.perm_iff_count]
  intro a
  rw [List.Nodup.count h, List.Nodup.count h']
  by_cases ha : a ∈ l
  · rw [if_pos ha, if_pos ((hm a).1 ha)]
  · rw [if_neg ha, if_neg (fun h => ha ((hm a).2 h))]
/-- Whatever the order of merging: the same shards. -/
theorem order_set {c : Cfg} {t : List Int} {k : ByteArray} (hs : 1 ≤ c.Shards ∧ c.Shards ≤ 8) (hp : 1 ≤ c.Spread ∧ c.Spread ≤ c.Shards) (picks : List Int) (len : Nat) :
    ((order picks c.Shards.toNat).filter (fun x : Int => decide (x < (len : Int)) && (setF c t k).contains x)).Perm ((setF c t k).filter (fun i : Int => decide (i < (len : Int)))) := by
  obtain ⟨h1, h2⟩ := homeF_bd c t k hs.1
  have hn : (setF c t k).Nodup := setN_nodup h1 h2 hs.2 (by omega)
  refine ((order_perm picks c.Shards.toNat).filter _).trans (perm_of_nodup ((rangeI_nodup _).filter _) (hn.filter _) ?_)
  intro x
  simp only [List.mem_filter, mem_rangeI, Bool.and_eq_true, decide_eq_true_eq, List.contains_iff_mem]
  constructor
  · rintro ⟨_, h3, h4⟩; exact ⟨h4, h3⟩
  · rintro ⟨h4, h3⟩
    have := setN_in hs.1 x h4
    exact ⟨by omega, h3, h4⟩
theorem line_order {c : Cfg} {t : List Int} {k : ByteArray} {l : List Summ} (h : SumsOk l) (hs : 1 ≤ c.Shards ∧ c.Shards ≤ 8) (hp : 1 ≤ c.Spread ∧ c.Spread ≤ c.Shards) (picks : List Int) :
    foldB c t l k ((order picks c.Shards.toNat).filter (fun x : Int => decide (x < (l.length : Int)) && (setF c t k).contains x)) = lineF c t l k := foldB_perm h k (order_set hs hp picks _)
end Go.Proofs.Ytiagjiaahnkefaa

/- Lists that are compared. -/
namespace Go.Proofs.Ytiagjiaahnkefaa
open Go.RowKit

set_option maxHeartbeats 400000 in
theorem sameInts_c (v v' : Value) (l l' : List Int) (w : World) (h : RdL intF 1 w v l) (h' : RdL intF 1 w v' l') : Calls Try.prog 25 #[v, v'] w (RetBool (decide (l = l')) w) := by
  obtain ⟨a, c, rfl⟩ := h.shape
  obtain ⟨a', c', rfl⟩ := h'.shape
  have hm := h.2.1
  have H := Lib.hid h
  have H' := Lib.hid h'
  clear h h'
  by_cases hl : l.length = l'.length
  · have hne : ((l.length : Int) != (l'.length : Int)) = false := by rw [hl]; simp
    have Hl := Lib.hid hl
    have hle : l'.length ≤ l.length := by omega
    have hle2 : l.length ≤ l'.length := by omega
    clear hl
    go_enter Try.func25, Try.ntmps25
    go_wp2_with fail
    go_loopw [13] (fun s13 wr => ∃ k : Nat, k ≤ l.length ∧ s13 = .int .i64 k ∧ l.take k = l'.take k ∧ w.grownBy wr none) (fun s13 _ => l.length - (intOf s13).toNat)
    case atStart => exact ⟨0, Nat.zero_le _, rfl, by simp, grownBy_refl _ _⟩
    case round =>
      obtain ⟨k, hk, rfl, htk, hg⟩ := hrel
      have Htk := Lib.hid htk
      clear htk
      by_cases hlt : k < l.length
      · have hlt' : k < l'.length := by omega
        obtain ⟨g, off, cap, hv, hgl, hc⟩ := (H.out.same hg).one int_one hlt
        obtain ⟨g', off', cap', hv', hgl', hc'⟩ := (H'.out.same hg).one int_one hlt'
        cases hv
        cases hv'
        have HS := Lib.hid (List.take_succ_eq_append_getElem hlt)
        have HS' := Lib.hid (List.take_succ_eq_append_getElem hlt')
        have hx : (l.getD k 0) = l[k] := by simp [List.getD_eq_getElem?_getD, List.getElem?_eq_getElem hlt]
        have hx' : (l'.getD k 0) = l'[k] := by simp [List.getD_eq_getElem?_getD, List.getElem?_eq_getElem hlt']
        have Hx := Lib.hid (p := l = l' → l[k] = l'[k]) (fun e => by subst e; rfl)
        clear hx hx'
        generalize l[k] = x at *
        generalize l'[k] = x' at *
        have hk0 : (0 : Int) ≤ (k : Int) := by omega
        have hk1 : (k : Int) < (l.length : Int) := by omega
        have hk2 : (k : Int) < (l'.length : Int) := by omega
        by_cases he : x = x'
        · have hb : (x != x') = false := by rw [he]; simp
          have He := Lib.hid he
          clear he
          go_wp2_with fail
          go_quiet (fail)
          go_wp2_with fail
          exact ⟨⟨k + 1, by omega, by go_num, by rw [HS.out, HS'.out, Htk.out, He.out], grownBy_drewN hg _⟩, by simp [intOf]; omega⟩
        · have hb : (x != x') = true := by simp [he]
          have Hd := Lib.hid (p := decide (l = l') = false) (decide_eq_false fun e => he (Hx.out e))
          clear he
          go_wp2_with fail
          go_quiet (fail)
          go_wp2_with fail
          go_ret
          exact retBool Hd.out (grownBy_drewN hg _)
      · have hd : decide (l = l') = true := decide_eq_true (by have h1 := Htk.out; have h2 := Hl.out; rw [List.take_of_length_le (by omega), List.take_of_length_le (by omega)] at h1; exact h1)
        have Hd := Lib.hid hd
        clear hd
        go_wp2_with fail
        go_ret
        exact retBool Hd.out hg
  · have hd : decide (l = l') = false := decide_eq_false fun e => hl (by rw [e])
    have Hd := Lib.hid hd
    have hne : ((l.length : Int) != (l'.length : Int)) = true := by simp; omega
    clear hd
    go_enter Try.func25, Try.ntmps25
    go_wp2_with fail
    go_ret
    exact retBool Hd.out (grownBy_refl _ _)

set_option maxHeartbeats 400000 in
theorem sameWords_c (v v' : Value) (l l' : List Int) (w : World) (h : RdL wordF 1 w v l) (h' : RdL wordF 1 w v' l') : Calls Try.prog 65 #[v, v'] w (RetBool (decide (l = l')) w) := by
  obtain ⟨a, c, rfl⟩ := h.shape
  obtain ⟨a', c', rfl⟩ := h'.shape
  have hm := h.2.1
  have H := Lib.hid h
  have H' := Lib.hid h'
  clear h h'
  by_cases hl : l.length = l'.length
  · have hne : ((l.length : Int) != (l'.length : Int)) = false := by rw [hl]; simp
    have Hl := Lib.hid hl
    have hle : l'.length ≤ l.length := by omega
    have hle2 : l.length ≤ l'.length := by omega
    clear hl
    go_enter Try.func65, Try.ntmps65
    go_wp2_with fail
    go_loopw [13] (fun s13 wr => ∃ k : Nat, k ≤ l.length ∧ s13 = .int .i64 k ∧ l.take k = l'.take k ∧ w.grownBy wr none) (fun s13 _ => l.length - (intOf s13).toNat)
    case atStart => exact ⟨0, Nat.zero_le _, rfl, by simp, grownBy_refl _ _⟩
    case round =>
      obtain ⟨k, hk, rfl, htk, hg⟩ := hrel
      have Htk := Lib.hid htk
      clear htk
      by_cases hlt : k < l.length
      · have hlt' : k < l'.length := by omega
        obtain ⟨g, off, cap, hv, hgl, hc⟩ := (H.out.same hg).one word_one hlt
        obtain ⟨g', off', cap', hv', hgl', hc'⟩ := (H'.out.same hg).one word_one hlt'
        cases hv
        cases hv'
        have HS := Lib.hid (List.take_succ_eq_append_getElem hlt)
        have HS' := Lib.hid (List.take_succ_eq_append_getElem hlt')
        have hx : (l.getD k 0) = l[k] := by simp [List.getD_eq_getElem?_getD, List.getElem?_eq_getElem hlt]
        have hx' : (l'.getD k 0) = l'[k] := by simp [List.getD_eq_getElem?_getD, List.getElem?_eq_getElem hlt']
        have Hx := Lib.hid (p := l = l' → l[k] = l'[k]) (fun e => by subst e; rfl)
        clear hx hx'
        generalize l[k] = x at *
        generalize l'[k] = x' at *
        have hk0 : (0 : Int) ≤ (k : Int) := by omega
        have hk1 : (k : Int) < (l.length : Int) := by omega
        have hk2 : (k : Int) < (l'.length : Int) := by omega
        by_cases he : x = x'
        · have hb : (x != x') = false := by rw [he]; simp
          have He := Lib.hid he
          clear he
          go_wp2_with fail
          go_quiet (fail)
          go_wp2_with fail
          exact ⟨⟨k + 1, by omega, by go_num, by rw [HS.out, HS'.out, Htk.out, He.out], grownBy_drewN hg _⟩, by simp [intOf]; omega⟩
        · have hb : (x != x') = true := by simp [he]
          have Hd := Lib.hid (p := decide (l = l') = false) (decide_eq_false fun e => he (Hx.out e))
          clear he
          go_wp2_with fail
          go_quiet (fail)
          go_wp2_with fail
          go_ret
          exact retBool Hd.out (grownBy_drewN hg _)
      · have hd : decide (l = l') = true := decide_eq_true (by have h1 := Htk.out; have h2 := Hl.out; rw [List.take_of_length_le (by omega), List.take_of_length_le (by omega)] at h1; exact h1)
        have Hd := Lib.hid hd
        clear hd
        go_wp2_with fail
        go_ret
        exact retBool Hd.out hg
  · have hd : decide (l = l') = false := decide_eq_false fun e => hl (by rw [e])
    have Hd := Lib.hid hd
    have hne : ((l.length : Int) != (l'.length : Int)) = true := by simp; omega
    clear hd
    go_enter Try.func65, Try.ntmps65
    go_wp2_with fail
    go_ret
    exact retBool Hd.out (grownBy_refl _ _)
end Go.Proofs.Ytiagjiaahnkefaa
