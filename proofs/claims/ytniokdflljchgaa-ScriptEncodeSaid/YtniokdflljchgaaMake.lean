/- The configurations that the deck makes. -/
import Derived.Test.YtniokdflljchgaaDem
namespace Go.Proofs.Ytniokdflljchgaa
open Go.RowKit

set_option maxHeartbeats 400000 in
theorem new_c (sv : Value) (n : Nat) (xs : List Int) (w : World) (h : Rd w 1 sv n (xs.map (fun x => Value.int .i64 x))) :
    Calls Try.prog 40 #[sv] w fun e w' => e = .returned (.pointer (some ⟨w.heap.size, 0, none⟩)) ∧ Deck w'.heap.size w' w.heap.size ∧ w.grownBy w' none := by
  obtain ⟨a, cap, rfl⟩ := h.shape
  have H := Lib.hid h
  clear h
  go_enter Try.func40, Try.ntmps40
  go_wp2
  go_ret
  have G : w.grownBy (w.alloc (.cells #[.slice a n cap, .int .i64 (0 : Nat)] 108)) none := World.grownBy_alloc w _ _
  have R := H.out
  have hlt : 0 < n → ∀ a' n' c', Value.slice a n cap = .slice (some a') n' c' → a'.block < w.heap.size := fun h0 => R.blockLt h0
  exact ⟨rfl, ⟨_, xs, 0, n, heap_alloc_new w _, Nat.zero_le _, R.same G, fun h0 a' n' c' hv => by have := hlt h0 a' n' c' hv; omega, by simp, fun h0 a' n' c' hv => by have := hlt h0 a' n' c' hv; simp; omega⟩, G⟩

/-- What Config leaves. -/
def ConfigPost (B b : Nat) (w : World) (e : Ending) (w' : World) : Prop :=
  ∃ c l t, e = .returned c.val ∧ CfgNums c ∧ CfgMem c l t w' ∧ Deck B w' b ∧ w.grownBy w' (some b)

/-- The same, and that the slices are the call's own. -/
def ConfigPost2 (B b : Nat) (w : World) (e : Ending) (w' : World) : Prop :=
  ∃ c l t, e = .returned c.val ∧ CfgNums c ∧ CfgMem c l t w' ∧ Deck B w' b ∧ w.grownBy w' (some b) ∧ (∀ a n m, c.Table = .slice (some a) n m → w.heap.size ≤ a.block) ∧ (∀ a n m, c.Classes = .slice (some a) n m → w.heap.size ≤ a.block)

/-- The numbers that the deck chooses at first. -/
structure Nums0 (c : Cfg) : Prop where
  length : 1 ≤ c.Length ∧ c.Length ≤ 20
  lateness : 0 ≤ c.Lateness ∧ c.Lateness < 15
  windows : 1 ≤ c.Windows ∧ c.Windows ≤ 4
  shards : 1 ≤ c.Shards ∧ c.Shards ≤ 4
  queue : 1 ≤ c.Queue ∧ c.Queue ≤ 64
  mode : c.Mode = 1 ∨ c.Mode = 2
  slots : 1 ≤ c.Slots ∧ c.Slots ≤ 4
  exact : 0 ≤ c.Exact ∧ c.Exact ≤ 3
  promote : 0 ≤ c.Promote ∧ c.Promote < 40
  depth : 1 ≤ c.Depth ∧ c.Depth ≤ 3
  width : 1 ≤ c.Width ∧ c.Width ≤ 9
  top : 1 ≤ c.Top ∧ c.Top ≤ 6
  key : 5 ≤ c.Key ∧ c.Key ≤ 255
  seed : 0 ≤ c.Seed ∧ c.Seed < 18446744073709551616

/-- The same, and the numbers as they were chosen. -/
def ConfigPost3 (B b : Nat) (w : World) (e : Ending) (w' : World) : Prop :=
  ∃ c l t, e = .returned c.val ∧ CfgNums c ∧ CfgMem c l t w' ∧ Deck B w' b ∧ w.grownBy w' (some b) ∧ (∀ a n m, c.Table = .slice (some a) n m → w.heap.size ≤ a.block) ∧ (∀ a n m, c.Classes = .slice (some a) n m → w.heap.size ≤ a.block) ∧ Nums0 c
/-- The state while Config fills the variable in block g: the table lies between the blocks r and g. -/
structure MakeSt (B b r g : Nat) (w : World) (c : Cfg) (t : List Int) (wx : World) : Prop where
  nums : Nums0 c
  deck : Deck B wx b
  box : BoxAt wx g c
  res : BoxAt wx r Cfg.zero
  table : RdL wordF 1 wx c.Table t
  tlen : t.length = 16
  twords : WordsOk t
  tblock : ∀ a n k, c.Table = .slice (some a) n k → r < a.block ∧ a.block < g
  lt : r < g
  old : B ≤ r
  low : w.heap.size = r
  grown : w.grownBy wx (some b)

theorem MakeSt.next {B b r g : Nat} {w : World} {c : Cfg} {t : List Int} {wx wy : World} (S : MakeSt B b r g w c t wx) (hd : Deck B wy b) (hg : wx.grownBy wy (some b)) : MakeSt B b r g w c t wy := by
  have hb := hd.below
  have h1 := S.old
  have h2 := S.lt
  refine ⟨S.nums, hd, S.box.kept hg (by simp; omega), S.res.kept hg (by simp; omega), S.table.kept hg ?_, S.tlen, S.twords, S.tblock, S.lt, S.old, S.low, grownBy_trans S.grown hg⟩
  intro b' hb' a n k hv
  cases hb'
  have := S.tblock a n k hv
  omega
theorem MakeSt.row {B b r g : Nat} {w : World} {c c' : Cfg} {t : List Int} {wx wy : World} (S : MakeSt B b r g w c t wx) (hbox : BoxAt wy g c') (hn : Nums0 c') (ht : c'.Table = c.Table) (hg : wx.grownBy wy (some g)) : MakeSt B b r g w c' t wy := by
  have h1 := S.old
  have h2 := S.lt
  have h3 := S.low
  have h4 := S.grown.size
  refine ⟨hn, S.deck.kept hg (by intro x hx; cases hx; omega), hbox, S.res.kept hg (by simp; omega), ?_, S.tlen, S.twords, ?_, S.lt, S.old, S.low, ?_⟩
  · rw [ht]
    refine S.table.kept hg ?_
    intro b' hb' a n k hv
    cases hb'
    have := S.tblock a n k hv
    omega
  · rw [ht]; exact S.tblock
  · exact ⟨hg.os.trans S.grown.os, hg.tape.trans S.grown.tape, hg.output.trans S.grown.output, Nat.le_trans S.grown.size hg.size, fun i hi hnn => (hg.block i (Nat.lt_of_lt_of_le hi S.grown.size) (by simp; omega)).trans (S.grown.block i hi hnn)⟩
theorem MakeSt.set {B b r g : Nat} {w : World} {c c' : Cfg} {t : List Int} {wx : World} (S : MakeSt B b r g w c t wx) (o : Nat) (v : Value) (hc : c.arr.setIfInBounds o v = c'.arr) (hn : Nums0 c') (ht : c'.Table = c.Table) :
    MakeSt B b r g w c' t (wx.setCell ⟨g, o, none⟩ v) :=
  S.row (S.box.setF o v hc) hn ht (grownBy_set (grownBy_refl wx _) o v)
theorem MakeSt.same {B b r g : Nat} {w : World} {c : Cfg} {t : List Int} {wx wy : World} (S : MakeSt B b r g w c t wx) (hg : wx.grownBy wy none) : MakeSt B b r g w c t wy :=
  S.next (S.deck.kept hg (by simp)) (grownBy_some hg _)

def clsArr (l : List (Int × Int)) : Array Value := (cellsOf clsF l).toArray
/-- Block k holds size classes. -/
def ClsAt (w : World) (k : Nat) (l : List (Int × Int)) : Prop := w.heap[k]? = some (.cells (clsArr l) 114)
theorem cells_set (l : List (Int × Int)) (i : Nat) (hi : i < l.length) (v : Int) : (cellsOf clsF l).set (i * 2 + 1) (.int .i64 v) = cellsOf clsF (l.set i ((l.getD i (0, 0)).1, v)) := by
  induction l generalizing i with
  | nil => simp at hi
  | cons p l ih =>
    cases i with
    | zero => simp [cellsOf, clsF]
    | succ i =>
      have := ih i (by simpa using hi)
      simp only [cellsOf, List.flatMap_cons, List.set_cons_succ, List.getD_cons_succ, clsF] at *
      rw [← this, show (i + 1) * 2 + 1 = (i * 2 + 1) + 1 + 1 by omega]
      simp
theorem ClsAt.set {w : World} {k : Nat} {l : List (Int × Int)} (h : ClsAt w k l) {i : Nat} (hi : i < l.length) (v : Int) :
    ClsAt (w.setCell ⟨k, i * 2 + 1, none⟩ (.int .i64 v)) k (l.set i ((l.getD i (0, 0)).1, v)) := by
  unfold ClsAt
  rw [heap_set _ h]
  simp [clsArr, cells_set l i hi v]
theorem ClsAt.lt {w : World} {k : Nat} {l : List (Int × Int)} (h : ClsAt w k l) : k < w.heap.size := (Array.getElem?_eq_some_iff.1 h).1
theorem ClsAt.kept {w w' : World} {k : Nat} {l : List (Int × Int)} {r : Option Nat} (h : ClsAt w k l) (hg : w.grownBy w' r) (hr : r ≠ some k) : ClsAt w' k l :=
  (hg.block k h.lt (fun e => hr e.symm)).trans h
theorem ClsAt.rd {w : World} {k : Nat} {l : List (Int × Int)} (h : ClsAt w k l) (hl : l.length ≤ 9223372036854775807) : RdL clsF 2 w (.slice (some ⟨k, 0, none⟩) l.length l.length) l := by
  refine ⟨length_cellsOf _ 2 clsF_len l, hl, .inr ⟨k, 0, _, rfl, h.lt, fun j u hu => ?_⟩⟩
  unfold ClsAt at h
  simp only [World.cell?, h, clsArr, Nat.zero_add]
  simpa using hu
theorem ClsAt.cell {w : World} {k : Nat} {l : List (Int × Int)} (h : ClsAt w k l) {i : Nat} (hi : i < l.length) : ∃ x, w.cell? ⟨k, i * 2 + 1, none⟩ = some (.int .i64 x) := by
  have hg := get_cellsOf clsF 2 clsF_len l i 1 (by omega) l[i] (List.getElem?_eq_getElem hi)
  unfold ClsAt at h
  refine ⟨l[i].2, ?_⟩
  simp only [World.cell?, h, clsArr]
  simpa [clsF] using hg
theorem ClsAt.free {w : World} {k : Nat} {l : List (Int × Int)} (h : ClsAt w k l) (i : Nat) : w.frozen? ⟨k, i, none⟩ = false := by
  unfold ClsAt at h; simp [World.frozen?, h]

def fiveL : List (Int × Int) := [(8, 0), (24, 0), (32, 0), (80, 0), (256, 0)]
def oneL : List (Int × Int) := [(256, 0)]
theorem five_ok : ClsOk fiveL := by
  refine ⟨by decide, by decide, fun i p hp => ?_, fun i p q hp hq => ?_⟩
  · have := List.mem_of_getElem? hp
    simp [fiveL] at this
    rcases this with rfl | rfl | rfl | rfl | rfl <;> simp
  · have hi : i < 4 := by have := (List.getElem?_eq_some_iff.1 hq).1; simp [fiveL] at this; omega
    have : i = 0 ∨ i = 1 ∨ i = 2 ∨ i = 3 := by omega
    rcases this with rfl | rfl | rfl | rfl <;> simp [fiveL] at hp hq <;> subst hp <;> subst hq <;> simp
theorem one_ok : ClsOk oneL := by
  refine ⟨by decide, by decide, fun i p hp => ?_, fun i p q hp hq => ?_⟩
  · have := List.mem_of_getElem? hp
    simp [oneL] at this
    subst this; simp
  · have hi := (List.getElem?_eq_some_iff.1 hq).1; simp [oneL] at hi

/-- The state once the classes are there. -/
structure ClsSt (B b r g : Nat) (w : World) (c : Cfg) (t : List Int) (k : Nat) (l : List (Int × Int)) (wx : World) : Prop where
  st : MakeSt B b r g w c t wx
  spread : 1 ≤ c.Spread ∧ c.Spread ≤ c.Shards
  cls : ClsAt wx k l
  val : c.Classes = .slice (some ⟨k, 0, none⟩) l.length l.length
  lt : g < k
  len : 0 < l.length ∧ l.length ≤ 8

theorem clsSt_new {B b r g : Nat} {w : World} {c : Cfg} {t : List Int} {wx : World} (S : MakeSt B b r g w c t wx) (l : List (Int × Int)) (hl : 0 < l.length ∧ l.length ≤ 8) (h : 1 ≤ c.Spread ∧ c.Spread ≤ c.Shards) :
    ClsSt B b r g w ⟨c.Length, c.Lateness, c.Windows, c.Shards, c.Spread, c.Queue, c.Mode, c.Slots, c.Exact, c.Promote, c.Depth, c.Width, c.Top, c.Key, .slice (some ⟨wx.heap.size, 0, none⟩) l.length l.length, c.Table, c.Seed⟩ t wx.heap.size l
      ((wx.setCell ⟨g, 14, none⟩ (.slice (some ⟨wx.heap.size, 0, none⟩) l.length l.length)).alloc (.cells (clsArr l) 114)) := by
  have h1 := S.set (c' := ⟨c.Length, c.Lateness, c.Windows, c.Shards, c.Spread, c.Queue, c.Mode, c.Slots, c.Exact, c.Promote, c.Depth, c.Width, c.Top, c.Key, .slice (some ⟨wx.heap.size, 0, none⟩) l.length l.length, c.Table, c.Seed⟩) 14 (.slice (some ⟨wx.heap.size, 0, none⟩) l.length l.length) rfl
    ⟨S.nums.1, S.nums.2, S.nums.3, S.nums.4, S.nums.5, S.nums.6, S.nums.7, S.nums.8, S.nums.9, S.nums.10, S.nums.11, S.nums.12, S.nums.13, S.nums.14⟩ rfl
  refine ⟨h1.same (World.grownBy_alloc _ _ _), h, ?_, rfl, S.box.lt, hl⟩
  have := heap_alloc_new (wx.setCell ⟨g, 14, none⟩ (.slice (some ⟨wx.heap.size, 0, none⟩) l.length l.length)) (.cells (clsArr l) 114)
  unfold ClsAt
  rw [← this]
  simp [World.setCell]
theorem ClsSt.next {B b r g : Nat} {w : World} {c : Cfg} {t : List Int} {k : Nat} {l : List (Int × Int)} {wx wy : World} (S : ClsSt B b r g w c t k l wx) (hd : Deck B wy b) (hg : wx.grownBy wy (some b)) : ClsSt B b r g w c t k l wy := by
  have h1 := hd.below
  have h2 := S.st.old
  have h3 := S.st.lt
  have h4 := S.lt
  exact ⟨S.st.next hd hg, S.spread, S.cls.kept hg (by simp; omega), S.val, S.lt, S.len⟩
theorem ClsSt.same {B b r g : Nat} {w : World} {c : Cfg} {t : List Int} {k : Nat} {l : List (Int × Int)} {wx wy : World} (S : ClsSt B b r g w c t k l wx) (hg : wx.grownBy wy none) : ClsSt B b r g w c t k l wy :=
  S.next (S.st.deck.kept hg (by simp)) (grownBy_some hg _)
theorem ClsSt.set {B b r g : Nat} {w : World} {c : Cfg} {t : List Int} {k : Nat} {l : List (Int × Int)} {wx : World} (S : ClsSt B b r g w c t k l wx) {i : Nat} (hi : i < l.length) (v : Int) :
    ∃ l', l'.length = l.length ∧ ClsSt B b r g w c t k l' (wx.setCell ⟨k, i * 2 + 1, none⟩ (.int .i64 v)) := by
  have h1 := S.st.deck.below
  have h2 := S.st.old
  have h3 := S.st.lt
  have h4 := S.lt
  have hg : wx.grownBy (wx.setCell ⟨k, i * 2 + 1, none⟩ (.int .i64 v)) (some k) := grownBy_set (grownBy_refl wx _) _ _
  have h5 := S.st.grown.size
  have h6 := S.st.low
  refine ⟨_, ?_, ⟨⟨S.st.nums, S.st.deck.kept hg (by intro x hx; cases hx; omega), S.st.box.kept hg (by simp; omega), S.st.res.kept hg (by simp; omega), S.st.table.kept hg ?_, S.st.tlen, S.st.twords, S.st.tblock, S.st.lt, S.st.old, S.st.low, ?_⟩, S.spread, S.cls.set hi v, ?_, S.lt, ?_⟩⟩
  · simp
  · intro x hx a n m hv
    cases hx
    have := S.st.tblock a n m hv
    omega
  · exact ⟨S.st.grown.os, S.st.grown.tape, S.st.grown.output, by have := S.st.grown.size; simpa [World.setCell] using this, fun i hi hnn => (hg.block i (Nat.lt_of_lt_of_le hi h5) (by simp; omega)).trans (S.st.grown.block i hi hnn)⟩
  · rw [S.val]; simp
  · simpa using S.len
theorem ClsSt.nums {B b r g : Nat} {w : World} {c : Cfg} {t : List Int} {k : Nat} {l : List (Int × Int)} {wx : World} (S : ClsSt B b r g w c t k l wx) : CfgNums c := by
  have h := S.st.nums
  have h2 := S.spread
  have := h.length; have := h.lateness; have := h.windows; have := h.shards; have := h.queue; have := h.slots; have := h.exact; have := h.promote; have := h.depth; have := h.width; have := h.top; have := h.key
  exact ⟨by omega, by omega, by omega, by omega, h2, by omega, h.mode, by omega, by omega, by omega, by omega, by omega, by omega, by omega, h.seed⟩
theorem ClsSt.mem {B b r g : Nat} {w : World} {c : Cfg} {t : List Int} {k : Nat} {l : List (Int × Int)} {wx : World} (S : ClsSt B b r g w c t k l wx) : CfgMem c l t wx :=
  ⟨by rw [S.val]; exact S.cls.rd (by have := S.len; omega), S.st.table, S.st.tlen, S.st.twords⟩

set_option maxHeartbeats 1000000 in
set_option maxRecDepth 100000 in
theorem config3_c {B : Nat} (b : Nat) (w : World) (hd : Deck B w b) (hB : B ≤ w.heap.size) :
    Calls Try.prog 42 #[.pointer (some ⟨b, 0, none⟩)] w (ConfigPost3 B b w) := by
  have hbB := hd.below
  go_enter Try.func42, Try.ntmps42
  go_upto_region 1 with (refine alloc_cfg rfl rfl ?_; intro w1 BR GG z1)
  replace hd := hd.kept GG (by simp)
  replace GG := grownBy_some GG (some b)
  have hB1 : B ≤ w1.heap.size := by omega
  simp only [Act.put, List.setIfInBounds_toArray, List.set_cons_zero, List.set_cons_succ]
  go_cut [3] (fun s3 wx => ∃ g c t, s3 = .pointer (some ⟨g, 0, none⟩) ∧ MakeSt B b w.heap.size g w c t wx)
  case first =>
    go_wp2_with (first | (refine alloc_cfg rfl rfl ?_; intro w4 BG G4 z4; replace BR := BR.same G4; have ht7 := ht6.same G4; have hd4 := Deck.kept (by assumption) G4 (by simp); replace GG := grownBy_trans GG (grownBy_some G4 (some b)); clear G4) | (refine store_cfg rfl _ _ rfl _ rfl ⟨_, _, _, _, _, _, _, _, _, _, _, _, _, _, _, _, _⟩ rfl rfl rfl Cfg.zero (by assumption) ?_; intro w5 BC G5) | (go_at_call 62; refine (next_c b _ _ (by assumption) (by omega) (by omega)).mono ?_; rintro e w2 ⟨r, rfl, hr0, hr1, hd2, G2⟩; replace BR := BR.kept G2 (by simp; omega); replace GG := grownBy_trans GG G2; replace hB1 := Nat.le_trans hB1 G2.size; replace z1 := Nat.lt_of_lt_of_le z1 G2.size; clear G2) | (go_at_call 65; refine (dtable_c b _ (by assumption) hB1).mono ?_; rintro e w2 ⟨tv, tl, rfl, ht1, ht2, ht3, ht4, ht5, hd2, G2⟩; obtain ⟨ta, tc, rfl⟩ := ht1.shape; replace BR := BR.kept G2 (by simp; omega); replace GG := grownBy_trans GG G2; have ht5' := Lib.hid (fun a n c h => Nat.lt_of_lt_of_le z1 (ht5 a n c h)); replace hB1 := Nat.le_trans hB1 G2.size; replace z1 := Nat.lt_of_lt_of_le z1 G2.size; clear G2 ht5) | (go_at_call 66; refine (word_c b _ (by assumption)).mono ?_; rintro e w3 ⟨r, rfl, hr0, hr1, hd3, G3⟩; replace BR := BR.kept G3 (by simp; omega); replace GG := grownBy_trans GG G3; have ht6 := ht1.kept G3 (by intro b' hb'; cases hb'; exact ht4); replace hB1 := Nat.le_trans hB1 G3.size; replace z1 := Nat.lt_of_lt_of_le z1 G3.size; clear G3))
    go_meet
    have hne : w3.heap.size ≠ w.heap.size := by omega
    have hbg : B ≤ w3.heap.size := hB1
    have hin : NotIn (.slice ta tl.length tc) w3.heap.size := fun a n k hv => Nat.ne_of_lt (ht6.blockLt (by omega) a n k hv)
    have ht8 : RdL wordF 1 w5 (.slice ta 16 tc) tl := by
      have hh : RdL wordF 1 w5 (.slice ta tl.length tc) tl := ht7.kept G5 (by intro c hc; cases hc; exact hin)
      rw [ht2] at hh; exact hh
    refine ⟨_, _, tl, rfl, ⟨⟨?_, ?_, ?_, ?_, ?_, ?_, ?_, ?_, ?_, ?_, ?_, ?_, ?_, ?_⟩, hd4.kept G5 (by intro c hc; cases hc; exact hbg), BC, BR.kept G5 (by simpa using hne), ht8, ht2, ht3, ?_, z1, hB, rfl, ?_⟩⟩
    case refine_15 => intro a n k hv; cases hv; exact ⟨ht5'.out _ _ _ rfl, ht6.blockLt (by omega) _ _ _ rfl⟩
    case refine_16 =>
      refine ⟨G5.os.trans GG.os, G5.tape.trans GG.tape, G5.output.trans GG.output, Nat.le_trans GG.size G5.size, fun i hi hn => (G5.block i (Nat.lt_of_lt_of_le hi GG.size) ?_).trans (GG.block i hi hn)⟩
      simp; omega
    all_goals (simp only; omega)
  case rest =>
    obtain ⟨g, c, t, rfl, S1⟩ := hcut
    have hn1 := S1.nums.shards
    have hlt1 := S1.lt
    have hold1 := S1.old
    have c1 := S1.box.cell
    obtain ⟨m1, m2⟩ := hn1
    have D1 := S1.deck
    go_upto_region 2 with fail
    go_cut [3] (fun s3 wx => ∃ c', s3 = .pointer (some ⟨g, 0, none⟩) ∧ MakeSt B b w.heap.size g w c' t wx ∧ 1 ≤ c'.Spread ∧ c'.Spread ≤ c'.Shards)
    case first =>
      go_wp2_with ((go_at_call 62; refine (next_c b _ _ (by assumption) (by omega) (by omega)).mono ?_; rintro e w2 ⟨r, rfl, hr0, hr1, hd2, G2⟩); have S2 := S1.next hd2 G2; have c2 := S2.box.cell; have f2 := S2.box.free; clear c1 G2)
      go_meet
      exact ⟨⟨c.Length, c.Lateness, c.Windows, c.Shards, 1 + r, c.Queue, c.Mode, c.Slots, c.Exact, c.Promote, c.Depth, c.Width, c.Top, c.Key, c.Classes, c.Table, c.Seed⟩, rfl, S2.set 4 _ rfl ⟨S2.nums.1, S2.nums.2, S2.nums.3, S2.nums.4, S2.nums.5, S2.nums.6, S2.nums.7, S2.nums.8, S2.nums.9, S2.nums.10, S2.nums.11, S2.nums.12, S2.nums.13, S2.nums.14⟩ rfl, by simp only; omega, by simp only; omega⟩
    case rest =>
    obtain ⟨c3, rfl, S3, h3a, h3b⟩ := hcut
    clear c1 D1 S1 m1 m2
    have D3 := S3.deck
    go_upto_if 54 with ((go_at_call 62; refine (next_c b _ _ (by assumption) (by omega) (by omega)).mono ?_; rintro e w2 ⟨r, rfl, hr0, hr1, hd2, G2⟩); have S4 := S3.next hd2 G2; have c4 := S4.box.cell; have f4 := S4.box.free; clear D3 G2)
    go_cut [3] (fun s3 wx => ∃ c', s3 = .pointer (some ⟨g, 0, none⟩) ∧ MakeSt B b w.heap.size g w c' t wx ∧ 1 ≤ c'.Spread ∧ c'.Spread ≤ c'.Shards)
    case first =>
      go_wp2_with fail
      · go_meet
        exact ⟨⟨c3.Length, c3.Lateness, c3.Windows, c3.Shards, c3.Spread, 64, c3.Mode, c3.Slots, c3.Exact, c3.Promote, c3.Depth, c3.Width, c3.Top, c3.Key, c3.Classes, c3.Table, c3.Seed⟩, rfl, S4.set 5 _ rfl ⟨S4.nums.1, S4.nums.2, S4.nums.3, S4.nums.4, by simp, S4.nums.6, S4.nums.7, S4.nums.8, S4.nums.9, S4.nums.10, S4.nums.11, S4.nums.12, S4.nums.13, S4.nums.14⟩ rfl, h3a, h3b⟩
      · go_meet
        exact ⟨c3, rfl, S4, h3a, h3b⟩
    case rest =>
    obtain ⟨c5, rfl, S5, h5a, h5b⟩ := hcut
    clear c4 f4 S4 S3 h3a h3b hd2
    have D5 := S5.deck
    go_upto_if 58 with ((go_at_call 62; refine (next_c b _ _ (by assumption) (by omega) (by omega)).mono ?_; rintro e w2 ⟨r, rfl, hr0, hr1, hd2, G2⟩); have S6 := S5.next hd2 G2; clear D5 G2)
    go_cut [3] (fun s3 wx => ∃ c', s3 = .pointer (some ⟨g, 0, none⟩) ∧ MakeSt B b w.heap.size g w c' t wx ∧ 1 ≤ c'.Spread ∧ c'.Spread ≤ c'.Shards)
    case first =>
      go_wp2_with ((go_at_call 62; refine (next_c b _ _ (by assumption) (by omega) (by omega)).mono ?_; rintro e w2 ⟨r, rfl, hr0, hr1, hd2, G2⟩); have S7 := S6.next hd2 G2; have c7 := S7.box.cell; have f7 := S7.box.free; clear G2)
      · go_meet
        exact ⟨⟨c5.Length, c5.Lateness, c5.Windows, c5.Shards, c5.Spread, c5.Queue, c5.Mode, c5.Slots, c5.Exact, c5.Promote, c5.Depth, c5.Width, c5.Top, 5 + r, c5.Classes, c5.Table, c5.Seed⟩, rfl, S7.set 13 _ rfl ⟨S7.nums.1, S7.nums.2, S7.nums.3, S7.nums.4, S7.nums.5, S7.nums.6, S7.nums.7, S7.nums.8, S7.nums.9, S7.nums.10, S7.nums.11, S7.nums.12, by simp only; omega, S7.nums.14⟩ rfl, h5a, h5b⟩
      · go_meet
        exact ⟨c5, rfl, S6, h5a, h5b⟩
    case rest =>
    obtain ⟨c8, rfl, S8, h8a, h8b⟩ := hcut
    clear S6 S5 h5a h5b hd2
    have c8c := S8.box.cell
    have f8 := S8.box.free
    have l8 := S8.box.lt
    go_upto_region 7 with fail
    go_cut [3] (fun s3 wx => ∃ c' k l, s3 = .pointer (some ⟨g, 0, none⟩) ∧ ClsSt B b w.heap.size g w c' t k l wx ∧ (l = fiveL ∨ l = oneL))
    case first =>
      go_wp2_with fail
      go_meet
      exact ⟨_, _, fiveL, rfl, clsSt_new S8 fiveL (by decide) ⟨h8a, h8b⟩, .inl rfl⟩
    case rest =>
    obtain ⟨c9, k9, l9, rfl, S9, hl9⟩ := hcut
    clear c8c f8 l8 S8 h8a h8b
    have D9 := S9.st.deck
    go_upto_if 72 with ((go_at_call 62; refine (next_c b _ _ (by assumption) (by omega) (by omega)).mono ?_; rintro e w2 ⟨r, rfl, hr0, hr1, hd2, G2⟩); have S10 := S9.next hd2 G2; clear D9 G2)
    go_cut [3] (fun s3 wx => ∃ c' k l, s3 = .pointer (some ⟨g, 0, none⟩) ∧ ClsSt B b w.heap.size g w c' t k l wx ∧ (l = fiveL ∨ l = oneL))
    case first =>
      have c10 := S10.st.box.cell
      have f10 := S10.st.box.free
      have l10 := S10.st.box.lt
      go_wp2_with fail
      · go_meet
        exact ⟨_, _, oneL, rfl, clsSt_new S10.st oneL (by decide) S10.spread, .inr rfl⟩
      · go_meet
        exact ⟨_, _, _, rfl, S10, hl9⟩
    case rest =>
    obtain ⟨c, k, l, rfl, S11, hl⟩ := hcut
    clear S10 S9 hl9 hd2
    have hcls : CfgCls c l := by
      have hw := S11.st.nums.width
      have hk := S11.st.nums.key
      rcases hl with rfl | rfl
      · exact ⟨five_ok, fun p hp => by simp [fiveL] at hp; subst hp; simp only; omega⟩
      · exact ⟨one_ok, fun p hp => by simp [oneL] at hp; subst hp; simp only; omega⟩
    have B11 := S11.st.box
    have Hcls := Lib.hid hcls
    clear hcls hl
    go_wp2_with (first | (refine load_cfg rfl _ rfl _ rfl c (by assumption) ?_) | (go_at_call 67; refine (demand_c c l t _ S11.nums S11.mem Hcls.out).mono ?_; rintro e w12 ⟨D, out, rfl, hD, hO, hol, G12⟩; have S12 := S11.same G12; clear B11 G12))
    have hl8 : l.length ≤ 8 := S11.len.2
    have hkD : k < D := Nat.lt_of_lt_of_le S11.cls.lt hD
    go_loopw [83] (fun s83 wr => ∃ (j : Nat) (l' : List (Int × Int)), s83 = .int .i64 j ∧ j ≤ l.length ∧ l'.length = l.length ∧ ClsSt B b w.heap.size g w c t k l' wr ∧ OutAt wr D out) (fun s83 _ => l.length - (intOf s83).toNat)
    case atStart => exact ⟨0, l, rfl, Nat.zero_le _, rfl, S12, hO⟩
    case round =>
      obtain ⟨j, l', rfl, hj, hl', S13, hO13⟩ := hrel
      by_cases hlt : j < l.length
      · have hv := S13.val
        obtain ⟨r1, r2, r3⟩ := S13.st.box.re
        simp only [Cfg.arr, hv, hl'] at r3
        have r4 := cell_regrown (hO13.cell (k := j) (by omega))
        have hjo : (0 : Int) ≤ (j : Nat) := by omega
        have hjo' : ((j : Nat) : Int) < l.length := by omega
        have Hl := Lib.hid hl'
        have Hol := Lib.hid hol
        clear hv hl' hol
        go_wp2_with fail
        refine Tail.wp_region_tail_grown 9 (by kernel_rfl) (by kernel_rfl) ?_
        simp only [List.take, List.drop]
        repeat (go_big_quiet_step (fail))
        refine wpQuiet_nil ?_
        rintro _ ⟨⟨d5, os5⟩, rfl⟩
        have S14 := S13.same (grown_re wr d5 os5)
        have hO14 := hO13.kept (grown_re wr d5 os5) (by simp)
        have hx14 := S14.cls.cell (i := j) (by rw [Hl.out]; exact hlt)
        have hf14 := S14.cls.free (j * 2 + 1)
        clear r1 r2 r3 r4
        generalize Go.Sort.grow (redrawn wr d5) os5 = w14 at *
        obtain ⟨x14, hx14⟩ := hx14
        go_wp2_with fail
        obtain ⟨l'', hl'', S15⟩ := S14.set (i := j) (by rw [Hl.out]; exact hlt) (out.getD j 0)
        refine ⟨⟨j + 1, l'', by go_num, by omega, hl''.trans Hl.out, S15, hO14.kept (grownBy_set (grownBy_refl _ _) _ _) (by simp; omega)⟩, ?_⟩
        simp [intOf]; omega
      · have B13 := S13.st.box
        have ho1 : c.Classes.oneCell' = true := by rw [S13.val]; rfl
        have ho2 : c.Table.oneCell' = true := by obtain ⟨a, cap, hv⟩ := S13.st.table.shape; rw [hv]; rfl
        go_wp2_with (first | (refine load_cfg rfl _ rfl _ rfl c (by assumption) ?_) | (refine store_cfg rfl _ _ rfl _ rfl c rfl ho1 ho2 Cfg.zero S13.st.res ?_; intro w20 B20 G20))
        obtain ⟨tt, ff, hh, hff⟩ := B20.block
        refine bodyPost_ret (v := c.val) (results_cell_row rfl _ _ w.heap.size _ _ _ _ rfl hh Try.underlying70 rfl size_cfg) rfl ?_
        have hm := S13.mem
        have hr1 := S13.st.lt
        have hr2 := S13.lt
        have hold := S13.st.old
        refine ⟨c, l', t, rfl, S13.nums, ⟨hm.classes.kept G20 ?_, hm.table.kept G20 ?_, hm.tlen, hm.twords⟩, S13.st.deck.kept G20 (by intro x hx; cases hx; exact hold), ?_, ?_, ?_, S13.st.nums⟩
        · intro x hx a n m hv; cases hx; rw [S13.val] at hv; cases hv; simp; omega
        · intro x hx a n m hv; cases hx; have := S13.st.tblock a n m hv; omega
        · have G13 := S13.st.grown
          exact ⟨G20.os.trans G13.os, G20.tape.trans G13.tape, G20.output.trans G13.output, Nat.le_trans G13.size G20.size, fun i hi hn => (G20.block i (Nat.lt_of_lt_of_le hi G13.size) (by simp; omega)).trans (G13.block i hi hn)⟩
        · intro a n m hv; have := S13.st.tblock a n m hv; omega
        · intro a n m hv; rw [S13.val] at hv; cases hv; simp; omega
theorem config2_c {B : Nat} (b : Nat) (w : World) (hd : Deck B w b) (hB : B ≤ w.heap.size) :
    Calls Try.prog 42 #[.pointer (some ⟨b, 0, none⟩)] w (ConfigPost2 B b w) :=
  (config3_c b w hd hB).mono fun _ _ ⟨c, l, t, h1, h2, h3, h4, h5, h6, h7, _⟩ => ⟨c, l, t, h1, h2, h3, h4, h5, h6, h7⟩
theorem config_c {B : Nat} (b : Nat) (w : World) (hd : Deck B w b) (hB : B ≤ w.heap.size) :
    Calls Try.prog 42 #[.pointer (some ⟨b, 0, none⟩)] w (ConfigPost B b w) :=
  (config2_c b w hd hB).mono fun _ _ ⟨c, l, t, h1, h2, h3, h4, h5, _⟩ => ⟨c, l, t, h1, h2, h3, h4, h5⟩
end Go.Proofs.Ytniokdflljchgaa
