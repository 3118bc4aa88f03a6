/- Several texts in one file; each begins with a comment that says what is proved in it. -/
import Derived.Test.YtkdbapbmbhmaiaaBunAE
import Derived.Test.YtkdbapbmbhmaiaaBunAA
import Derived.Test.YtkdbapbmbhmaiaaBunAC
import Derived.Test.YtkdbapbmbhmaiaaBunAD
import Derived.Test.YtkdbapbmbhmaiaaBunAB
import Derived.StillTailTactics
import Derived.WalkLawsBesides
import Derived.Deep.RegionHeld3
import Derived.Lib.QuietBelow
import Derived.Test.YtkdbapbmbhmaiaaShelf
import Derived.Lib.MinMax
import Derived.Sort.OwnSortedInts

/- The configurations that the deck makes. -/
namespace Go.Proofs.Ytkdbapbmbhmaiaa
open Go.RowKit

set_option maxHeartbeats 400000 in
theorem new_c (sv : Value) (n : Nat) (xs : List Int) (w : World) (h : Rd w 1 sv n (xs.map (fun x => Value.int .i64 x))) :
    Calls Try.prog 5 #[sv] w fun e w' => e = .returned (.pointer (some ⟨w.heap.size, 0, none⟩)) ∧ Deck w'.heap.size w' w.heap.size ∧ w.grownBy w' none := by
  obtain ⟨a, cap, rfl⟩ := h.shape
  have H := Lib.hid h
  clear h
  go_enter Try.func5, Try.ntmps5
  go_wp2
  go_ret
  have G : w.grownBy (w.alloc (.cells #[.slice a n cap, .int .i64 (0 : Nat)] 54)) none := World.grownBy_alloc w _ _
  have R := H.out
  have hlt : 0 < n → ∀ a' n' c', Value.slice a n cap = .slice (some a') n' c' → a'.block < w.heap.size := fun h0 => R.blockLt h0
  exact ⟨rfl, ⟨_, xs, 0, n, heap_alloc_new w _, Nat.zero_le _, R.same G, fun h0 a' n' c' hv => by have := hlt h0 a' n' c' hv; omega, by simp, fun h0 a' n' c' hv => by have := hlt h0 a' n' c' hv; simp; omega⟩, G⟩

/-- What Config leaves. -/
def ConfigPost (B b : Nat) (w : World) (e : Ending) (w' : World) : Prop :=
  ∃ c l t, e = .returned c.val ∧ CfgNums c ∧ CfgMem c l t w' ∧ Deck B w' b ∧ w.grownBy w' (some b)

/-- The same, and that the slices are the call's own. -/
def ConfigPost2 (B b : Nat) (w : World) (e : Ending) (w' : World) : Prop :=
  ∃ c l t, e = .returned c.val ∧ CfgNums c ∧ CfgMem c l t w' ∧ Deck B w' b ∧ w.grownBy w' (some b) ∧ (∀ a n m, c.Table = .slice (some a) n m → w.heap.size ≤ a.block) ∧ (∀ a n m, c.Classes = .slice (some a) n m → w.heap.size ≤ a.block)

/-- The numbers that the deck chooses at first. -/
structure Nums0 (c : Cfg) : Prop where
  length : 1 ≤ c.Length ∧ c.Length ≤ 20
  lateness : 0 ≤ c.Lateness ∧ c.Lateness < 15
  windows : 1 ≤ c.Windows ∧ c.Windows ≤ 4
  shards : 1 ≤ c.Shards ∧ c.Shards ≤ 4
  queue : 1 ≤ c.Queue ∧ c.Queue ≤ 64
  mode : c.Mode = 1 ∨ c.Mode = 2
  slots : 1 ≤ c.Slots ∧ c.Slots ≤ 4
  exact : 0 ≤ c.Exact ∧ c.Exact ≤ 3
  promote : 0 ≤ c.Promote ∧ c.Promote < 40
  depth : 1 ≤ c.Depth ∧ c.Depth ≤ 3
  width : 1 ≤ c.Width ∧ c.Width ≤ 9
  top : 1 ≤ c.Top ∧ c.Top ≤ 6
  key : 5 ≤ c.Key ∧ c.Key ≤ 255
  seed : 0 ≤ c.Seed ∧ c.Seed < 18446744073709551616

/-- The same, and the numbers as they were chosen. -/
def ConfigPost3 (B b : Nat) (w : World) (e : Ending) (w' : World) : Prop :=
  ∃ c l t, e = .returned c.val ∧ CfgNums c ∧ CfgMem c l t w' ∧ Deck B w' b ∧ w.grownBy w' (some b) ∧ (∀ a n m, c.Table = .slice (some a) n m → w.heap.size ≤ a.block) ∧ (∀ a n m, c.Classes = .slice (some a) n m → w.heap.size ≤ a.block) ∧ Nums0 c
/-- The state while Config fills the variable in block g: the table lies between the blocks r and g. -/
structure MakeSt (B b r g : Nat) (w : World) (c : Cfg) (t : List Int) (wx : World) : Prop where
  nums : Nums0 c
  deck : Deck B wx b
  box : BoxAt wx g c
  res : BoxAt wx r Cfg.zero
  table : RdL wordF 1 wx c.Table t
  tlen : t.length = 16
  twords : WordsOk t
  tblock : ∀ a n k, c.Table = .slice (some a) n k → r < a.block ∧ a.block < g
  lt : r < g
  old : B ≤ r
  low : w.heap.size = r
  grown : w.grownBy wx (some b)

theorem MakeSt.next {B b r g : Nat} {w : World} {c : Cfg} {t : List Int} {wx wy : World} (S : MakeSt B b r g w c t wx) (hd : Deck B wy b) (hg : wx.grownBy wy (some b)) : MakeSt B b r g w c t wy := by
  have hb := hd.below
  have h1 := S.old
  have h2 := S.lt
  refine ⟨S.nums, hd, S.box.kept hg (by simp; omega), S.res.kept hg (by simp; omega), S.table.kept hg ?_, S.tlen, S.twords, S.tblock, S.lt, S.old, S.low, grownBy_trans S.grown hg⟩
  intro b' hb' a n k hv
  cases hb'
  have := S.tblock a n k hv
  omega
theorem MakeSt.row {B b r g : Nat} {w : World} {c c' : Cfg} {t : List Int} {wx wy : World} (S : MakeSt B b r g w c t wx) (hbox : BoxAt wy g c') (hn : Nums0 c') (ht : c'.Table = c.Table) (hg : wx.grownBy wy (some g)) : MakeSt B b r g w c' t wy := by
  have h1 := S.old
  have h2 := S.lt
  have h3 := S.low
  have h4 := S.grown.size
  refine ⟨hn, S.deck.kept hg (by intro x hx; cases hx; omega), hbox, S.res.kept hg (by simp; omega), ?_, S.tlen, S.twords, ?_, S.lt, S.old, S.low, ?_⟩
  · rw [ht]
    refine S.table.kept hg ?_
    intro b' hb' a n k hv
    cases hb'
    have := S.tblock a n k hv
    omega
  · rw [ht]; exact S.tblock
  · exact ⟨hg.os.trans S.grown.os, hg.tape.trans S.grown.tape, hg.output.trans S.grown.output, Nat.le_trans S.grown.size hg.size, fun i hi hnn => (hg.block i (Nat.lt_of_lt_of_le hi S.grown.size) (by simp; omega)).trans (S.grown.block i hi hnn)⟩
theorem MakeSt.set {B b r g : Nat} {w : World} {c c' : Cfg} {t : List Int} {wx : World} (S : MakeSt B b r g w c t wx) (o : Nat) (v : Value) (hc : c.arr.setIfInBounds o v = c'.arr) (hn : Nums0 c') (ht : c'.Table = c.Table) :
    MakeSt B b r g w c' t (wx.setCell ⟨g, o, none⟩ v) :=
  S.row (S.box.setF o v hc) hn ht (grownBy_set (grownBy_refl wx _) o v)
theorem MakeSt.same {B b r g : Nat} {w : World} {c : Cfg} {t : List Int} {wx wy : World} (S : MakeSt B b r g w c t wx) (hg : wx.grownBy wy none) : MakeSt B b r g w c t wy :=
  S.next (S.deck.kept hg (by simp)) (grownBy_some hg _)

def clsArr (l : List (Int × Int)) : Array Value := (cellsOf clsF l).toArray
/-- Block k holds size classes. -/
def ClsAt (w : World) (k : Nat) (l : List (Int × Int)) : Prop := w.heap[k]? = some (.cells (clsArr l) 59)
theorem cells_set (l : List (Int × Int)) (i : Nat) (hi : i < l.length) (v : Int) : (cellsOf clsF l).set (i * 2 + 1) (.int .i64 v) = cellsOf clsF (l.set i ((l.getD i (0, 0)).1, v)) := by
  induction l generalizing i with
  | nil => simp at hi
  | cons p l ih =>
    cases i with
    | zero => simp [cellsOf, clsF]
    | succ i =>
      have := ih i (by simpa using hi)
      simp only [cellsOf, List.flatMap_cons, List.set_cons_succ, List.getD_cons_succ, clsF] at *
      rw [← this, show (i + 1) * 2 + 1 = (i * 2 + 1) + 1 + 1 by omega]
      simp
theorem ClsAt.set {w : World} {k : Nat} {l : List (Int × Int)} (h : ClsAt w k l) {i : Nat} (hi : i < l.length) (v : Int) :
    ClsAt (w.setCell ⟨k, i * 2 + 1, none⟩ (.int .i64 v)) k (l.set i ((l.getD i (0, 0)).1, v)) := by
  unfold ClsAt
  rw [heap_set _ h]
  simp [clsArr, cells_set l i hi v]
theorem ClsAt.lt {w : World} {k : Nat} {l : List (Int × Int)} (h : ClsAt w k l) : k < w.heap.size := (Array.getElem?_eq_some_iff.1 h).1
theorem ClsAt.kept {w w' : World} {k : Nat} {l : List (Int × Int)} {r : Option Nat} (h : ClsAt w k l) (hg : w.grownBy w' r) (hr : r ≠ some k) : ClsAt w' k l :=
  (hg.block k h.lt (fun e => hr e.symm)).trans h
theorem ClsAt.rd {w : World} {k : Nat} {l : List (Int × Int)} (h : ClsAt w k l) (hl : l.length ≤ 9223372036854775807) : RdL clsF 2 w (.slice (some ⟨k, 0, none⟩) l.length l.length) l := by
  refine ⟨length_cellsOf _ 2 clsF_len l, hl, .inr ⟨k, 0, _, rfl, h.lt, fun j u hu => ?_⟩⟩
  unfold ClsAt at h
  simp only [World.cell?, h, clsArr, Nat.zero_add]
  simpa using hu
theorem ClsAt.cell {w : World} {k : Nat} {l : List (Int × Int)} (h : ClsAt w k l) {i : Nat} (hi : i < l.length) : ∃ x, w.cell? ⟨k, i * 2 + 1, none⟩ = some (.int .i64 x) := by
  have hg := get_cellsOf clsF 2 clsF_len l i 1 (by omega) l[i] (List.getElem?_eq_getElem hi)
  unfold ClsAt at h
  refine ⟨l[i].2, ?_⟩
  simp only [World.cell?, h, clsArr]
  simpa [clsF] using hg
theorem ClsAt.free {w : World} {k : Nat} {l : List (Int × Int)} (h : ClsAt w k l) (i : Nat) : w.frozen? ⟨k, i, none⟩ = false := by
  unfold ClsAt at h; simp [World.frozen?, h]

def fiveL : List (Int × Int) := [(8, 0), (24, 0), (32, 0), (80, 0), (256, 0)]
def oneL : List (Int × Int) := [(256, 0)]
theorem five_ok : ClsOk fiveL := by
  refine ⟨by decide, by decide, fun i p hp => ?_, fun i p q hp hq => ?_⟩
  · have := List.mem_of_getElem? hp
    simp [fiveL] at this
    rcases this with rfl | rfl | rfl | rfl | rfl <;> simp
  · have hi : i < 4 := by have := (List.getElem?_eq_some_iff.1 hq).1; simp [fiveL] at this; omega
    have : i = 0 ∨ i = 1 ∨ i = 2 ∨ i = 3 := by omega
    rcases this with rfl | rfl | rfl | rfl <;> simp [fiveL] at hp hq <;> subst hp <;> subst hq <;> simp
theorem one_ok : ClsOk oneL := by
  refine ⟨by decide, by decide, fun i p hp => ?_, fun i p q hp hq => ?_⟩
  · have := List.mem_of_getElem? hp
    simp [oneL] at this
    subst this; simp
  · have hi := (List.getElem?_eq_some_iff.1 hq).1; simp [oneL] at hi

/-- The state once the classes are there. -/
structure ClsSt (B b r g : Nat) (w : World) (c : Cfg) (t : List Int) (k : Nat) (l : List (Int × Int)) (wx : World) : Prop where
  st : MakeSt B b r g w c t wx
  spread : 1 ≤ c.Spread ∧ c.Spread ≤ c.Shards
  cls : ClsAt wx k l
  val : c.Classes = .slice (some ⟨k, 0, none⟩) l.length l.length
  lt : g < k
  len : 0 < l.length ∧ l.length ≤ 8

theorem clsSt_new {B b r g : Nat} {w : World} {c : Cfg} {t : List Int} {wx : World} (S : MakeSt B b r g w c t wx) (l : List (Int × Int)) (hl : 0 < l.length ∧ l.length ≤ 8) (h : 1 ≤ c.Spread ∧ c.Spread ≤ c.Shards) :
    ClsSt B b r g w ⟨c.Length, c.Lateness, c.Windows, c.Shards, c.Spread, c.Queue, c.Mode, c.Slots, c.Exact, c.Promote, c.Depth, c.Width, c.Top, c.Key, .slice (some ⟨wx.heap.size, 0, none⟩) l.length l.length, c.Table, c.Seed⟩ t wx.heap.size l
      ((wx.setCell ⟨g, 14, none⟩ (.slice (some ⟨wx.heap.size, 0, none⟩) l.length l.length)).alloc (.cells (clsArr l) 59)) := by
  have h1 := S.set (c' := ⟨c.Length, c.Lateness, c.Windows, c.Shards, c.Spread, c.Queue, c.Mode, c.Slots, c.Exact, c.Promote, c.Depth, c.Width, c.Top, c.Key, .slice (some ⟨wx.heap.size, 0, none⟩) l.length l.length, c.Table, c.Seed⟩) 14 (.slice (some ⟨wx.heap.size, 0, none⟩) l.length l.length) rfl
    ⟨S.nums.1, S.nums.2, S.nums.3, S.nums.4, S.nums.5, S.nums.6, S.nums.7, S.nums.8, S.nums.9, S.nums.10, S.nums.11, S.nums.12, S.nums.13, S.nums.14⟩ rfl
  refine ⟨h1.same (World.grownBy_alloc _ _ _), h, ?_, rfl, S.box.lt, hl⟩
  have := heap_alloc_new (wx.setCell ⟨g, 14, none⟩ (.slice (some ⟨wx.heap.size, 0, none⟩) l.length l.length)) (.cells (clsArr l) 59)
  unfold ClsAt
  rw [← this]
  simp [World.setCell]
theorem ClsSt.next {B b r g : Nat} {w : World} {c : Cfg} {t : List Int} {k : Nat} {l : List (Int × Int)} {wx wy : World} (S : ClsSt B b r g w c t k l wx) (hd : Deck B wy b) (hg : wx.grownBy wy (some b)) : ClsSt B b r g w c t k l wy := by
  have h1 := hd.below
  have h2 := S.st.old
  have h3 := S.st.lt
  have h4 := S.lt
  exact ⟨S.st.next hd hg, S.spread, S.cls.kept hg (by simp; omega), S.val, S.lt, S.len⟩
theorem ClsSt.same {B b r g : Nat} {w : World} {c : Cfg} {t : List Int} {k : Nat} {l : List (Int × Int)} {wx wy : World} (S : ClsSt B b r g w c t k l wx) (hg : wx.grownBy wy none) : ClsSt B b r g w c t k l wy :=
  S.next (S.st.deck.kept hg (by simp)) (grownBy_some hg _)
theorem ClsSt.set {B b r g : Nat} {w : World} {c : Cfg} {t : List Int} {k : Nat} {l : List (Int × Int)} {wx : World} (S : ClsSt B b r g w c t k l wx) {i : Nat} (hi : i < l.length) (v : Int) :
    ∃ l', l'.length = l.length ∧ ClsSt B b r g w c t k l' (wx.setCell ⟨k, i * 2 + 1, none⟩ (.int .i64 v)) := by
  have h1 := S.st.deck.below
  have h2 := S.st.old
  have h3 := S.st.lt
  have h4 := S.lt
  have hg : wx.grownBy (wx.setCell ⟨k, i * 2 + 1, none⟩ (.int .i64 v)) (some k) := grownBy_set (grownBy_refl wx _) _ _
  have h5 := S.st.grown.size
  have h6 := S.st.low
  refine ⟨_, ?_, ⟨⟨S.st.nums, S.st.deck.kept hg (by intro x hx; cases hx; omega), S.st.box.kept hg (by simp; omega), S.st.res.kept hg (by simp; omega), S.st.table.kept hg ?_, S.st.tlen, S.st.twords, S.st.tblock, S.st.lt, S.st.old, S.st.low, ?_⟩, S.spread, S.cls.set hi v, ?_, S.lt, ?_⟩⟩
  · simp
  · intro x hx a n m hv
    cases hx
    have := S.st.tblock a n m hv
    omega
  · exact ⟨S.st.grown.os, S.st.grown.tape, S.st.grown.output, by have := S.st.grown.size; simpa [World.setCell] using this, fun i hi hnn => (hg.block i (Nat.lt_of_lt_of_le hi h5) (by simp; omega)).trans (S.st.grown.block i hi hnn)⟩
  · rw [S.val]; simp
  · simpa using S.len
theorem ClsSt.nums {B b r g : Nat} {w : World} {c : Cfg} {t : List Int} {k : Nat} {l : List (Int × Int)} {wx : World} (S : ClsSt B b r g w c t k l wx) : CfgNums c := by
  have h := S.st.nums
  have h2 := S.spread
  have := h.length; have := h.lateness; have := h.windows; have := h.shards; have := h.queue; have := h.slots; have := h.exact; have := h.promote; have := h.depth; have := h.width; have := h.top; have := h.key
  exact ⟨by omega, by omega, by omega, by omega, h2, by omega, h.mode, by omega, by omega, by omega, by omega, by omega, by omega, by omega, h.seed⟩
theorem ClsSt.mem {B b r g : Nat} {w : World} {c : Cfg} {t : List Int} {k : Nat} {l : List (Int × Int)} {wx : World} (S : ClsSt B b r g w c t k l wx) : CfgMem c l t wx :=
  ⟨by rw [S.val]; exact S.cls.rd (by have := S.len; omega), S.st.table, S.st.tlen, S.st.twords⟩

set_option maxHeartbeats 1000000 in
set_option maxRecDepth 100000 in
theorem config3_c {B : Nat} (b : Nat) (w : World) (hd : Deck B w b) (hB : B ≤ w.heap.size) :
    Calls Try.prog 6 #[.pointer (some ⟨b, 0, none⟩)] w (ConfigPost3 B b w) := by
  have hbB := hd.below
  go_enter Try.func6, Try.ntmps6
  go_upto_region 1 with (refine alloc_cfg rfl rfl ?_; intro w1 BR GG z1)
  replace hd := hd.kept GG (by simp)
  replace GG := grownBy_some GG (some b)
  have hB1 : B ≤ w1.heap.size := by omega
  simp only [Act.put, List.setIfInBounds_toArray, List.set_cons_zero, List.set_cons_succ]
  go_cut [3] (fun s3 wx => ∃ g c t, s3 = .pointer (some ⟨g, 0, none⟩) ∧ MakeSt B b w.heap.size g w c t wx)
  case first =>
    go_wp2_with (first | (refine alloc_cfg rfl rfl ?_; intro w4 BG G4 z4; replace BR := BR.same G4; have ht7 := ht6.same G4; have hd4 := Deck.kept (by assumption) G4 (by simp); replace GG := grownBy_trans GG (grownBy_some G4 (some b)); clear G4) | (refine store_cfg rfl _ _ rfl _ rfl ⟨_, _, _, _, _, _, _, _, _, _, _, _, _, _, _, _, _⟩ rfl rfl rfl Cfg.zero (by assumption) ?_; intro w5 BC G5) | (go_at_call 14; refine (next_c b _ _ (by assumption) (by omega) (by omega)).mono ?_; rintro e w2 ⟨r, rfl, hr0, hr1, hd2, G2⟩; replace BR := BR.kept G2 (by simp; omega); replace GG := grownBy_trans GG G2; replace hB1 := Nat.le_trans hB1 G2.size; replace z1 := Nat.lt_of_lt_of_le z1 G2.size; clear G2) | (go_at_call 15; refine (dtable_c b _ (by assumption) hB1).mono ?_; rintro e w2 ⟨tv, tl, rfl, ht1, ht2, ht3, ht4, ht5, hd2, G2⟩; obtain ⟨ta, tc, rfl⟩ := ht1.shape; replace BR := BR.kept G2 (by simp; omega); replace GG := grownBy_trans GG G2; have ht5' := Lib.hid (fun a n c h => Nat.lt_of_lt_of_le z1 (ht5 a n c h)); replace hB1 := Nat.le_trans hB1 G2.size; replace z1 := Nat.lt_of_lt_of_le z1 G2.size; clear G2 ht5) | (go_at_call 16; refine (word_c b _ (by assumption)).mono ?_; rintro e w3 ⟨r, rfl, hr0, hr1, hd3, G3⟩; replace BR := BR.kept G3 (by simp; omega); replace GG := grownBy_trans GG G3; have ht6 := ht1.kept G3 (by intro b' hb'; cases hb'; exact ht4); replace hB1 := Nat.le_trans hB1 G3.size; replace z1 := Nat.lt_of_lt_of_le z1 G3.size; clear G3))
    go_meet
    have hne : w3.heap.size ≠ w.heap.size := by omega
    have hbg : B ≤ w3.heap.size := hB1
    have hin : NotIn (.slice ta tl.length tc) w3.heap.size := fun a n k hv => Nat.ne_of_lt (ht6.blockLt (by omega) a n k hv)
    have ht8 : RdL wordF 1 w5 (.slice ta 16 tc) tl := by
      have hh : RdL wordF 1 w5 (.slice ta tl.length tc) tl := ht7.kept G5 (by intro c hc; cases hc; exact hin)
      rw [ht2] at hh; exact hh
    refine ⟨_, _, tl, rfl, ⟨⟨?_, ?_, ?_, ?_, ?_, ?_, ?_, ?_, ?_, ?_, ?_, ?_, ?_, ?_⟩, hd4.kept G5 (by intro c hc; cases hc; exact hbg), BC, BR.kept G5 (by simpa using hne), ht8, ht2, ht3, ?_, z1, hB, rfl, ?_⟩⟩
    case refine_15 => intro a n k hv; cases hv; exact ⟨ht5'.out _ _ _ rfl, ht6.blockLt (by omega) _ _ _ rfl⟩
    case refine_16 =>
      refine ⟨G5.os.trans GG.os, G5.tape.trans GG.tape, G5.output.trans GG.output, Nat.le_trans GG.size G5.size, fun i hi hn => (G5.block i (Nat.lt_of_lt_of_le hi GG.size) ?_).trans (GG.block i hi hn)⟩
      simp; omega
    all_goals (simp only; omega)
  case rest =>
    obtain ⟨g, c, t, rfl, S1⟩ := hcut
    have hn1 := S1.nums.shards
    have hlt1 := S1.lt
    have hold1 := S1.old
    have c1 := S1.box.cell
    obtain ⟨m1, m2⟩ := hn1
    have D1 := S1.deck
    go_upto_region 2 with fail
    go_cut [3] (fun s3 wx => ∃ c', s3 = .pointer (some ⟨g, 0, none⟩) ∧ MakeSt B b w.heap.size g w c' t wx ∧ 1 ≤ c'.Spread ∧ c'.Spread ≤ c'.Shards)
    case first =>
      go_wp2_with ((go_at_call 14; refine (next_c b _ _ (by assumption) (by omega) (by omega)).mono ?_; rintro e w2 ⟨r, rfl, hr0, hr1, hd2, G2⟩); have S2 := S1.next hd2 G2; have c2 := S2.box.cell; have f2 := S2.box.free; clear c1 G2)
      go_meet
      exact ⟨⟨c.Length, c.Lateness, c.Windows, c.Shards, 1 + r, c.Queue, c.Mode, c.Slots, c.Exact, c.Promote, c.Depth, c.Width, c.Top, c.Key, c.Classes, c.Table, c.Seed⟩, rfl, S2.set 4 _ rfl ⟨S2.nums.1, S2.nums.2, S2.nums.3, S2.nums.4, S2.nums.5, S2.nums.6, S2.nums.7, S2.nums.8, S2.nums.9, S2.nums.10, S2.nums.11, S2.nums.12, S2.nums.13, S2.nums.14⟩ rfl, by simp only; omega, by simp only; omega⟩
    case rest =>
    obtain ⟨c3, rfl, S3, h3a, h3b⟩ := hcut
    clear c1 D1 S1 m1 m2
    have D3 := S3.deck
    go_upto_if 54 with ((go_at_call 14; refine (next_c b _ _ (by assumption) (by omega) (by omega)).mono ?_; rintro e w2 ⟨r, rfl, hr0, hr1, hd2, G2⟩); have S4 := S3.next hd2 G2; have c4 := S4.box.cell; have f4 := S4.box.free; clear D3 G2)
    go_cut [3] (fun s3 wx => ∃ c', s3 = .pointer (some ⟨g, 0, none⟩) ∧ MakeSt B b w.heap.size g w c' t wx ∧ 1 ≤ c'.Spread ∧ c'.Spread ≤ c'.Shards)
    case first =>
      go_wp2_with fail
      · go_meet
        exact ⟨⟨c3.Length, c3.Lateness, c3.Windows, c3.Shards, c3.Spread, 64, c3.Mode, c3.Slots, c3.Exact, c3.Promote, c3.Depth, c3.Width, c3.Top, c3.Key, c3.Classes, c3.Table, c3.Seed⟩, rfl, S4.set 5 _ rfl ⟨S4.nums.1, S4.nums.2, S4.nums.3, S4.nums.4, by simp, S4.nums.6, S4.nums.7, S4.nums.8, S4.nums.9, S4.nums.10, S4.nums.11, S4.nums.12, S4.nums.13, S4.nums.14⟩ rfl, h3a, h3b⟩
      · go_meet
        exact ⟨c3, rfl, S4, h3a, h3b⟩
    case rest =>
    obtain ⟨c5, rfl, S5, h5a, h5b⟩ := hcut
    clear c4 f4 S4 S3 h3a h3b hd2
    have D5 := S5.deck
    go_upto_if 58 with ((go_at_call 14; refine (next_c b _ _ (by assumption) (by omega) (by omega)).mono ?_; rintro e w2 ⟨r, rfl, hr0, hr1, hd2, G2⟩); have S6 := S5.next hd2 G2; clear D5 G2)
    go_cut [3] (fun s3 wx => ∃ c', s3 = .pointer (some ⟨g, 0, none⟩) ∧ MakeSt B b w.heap.size g w c' t wx ∧ 1 ≤ c'.Spread ∧ c'.Spread ≤ c'.Shards)
    case first =>
      go_wp2_with ((go_at_call 14; refine (next_c b _ _ (by assumption) (by omega) (by omega)).mono ?_; rintro e w2 ⟨r, rfl, hr0, hr1, hd2, G2⟩); have S7 := S6.next hd2 G2; have c7 := S7.box.cell; have f7 := S7.box.free; clear G2)
      · go_meet
        exact ⟨⟨c5.Length, c5.Lateness, c5.Windows, c5.Shards, c5.Spread, c5.Queue, c5.Mode, c5.Slots, c5.Exact, c5.Promote, c5.Depth, c5.Width, c5.Top, 5 + r, c5.Classes, c5.Table, c5.Seed⟩, rfl, S7.set 13 _ rfl ⟨S7.nums.1, S7.nums.2, S7.nums.3, S7.nums.4, S7.nums.5, S7.nums.6, S7.nums.7, S7.nums.8, S7.nums.9, S7.nums.10, S7.nums.11, S7.nums.12, by simp only; omega, S7.nums.14⟩ rfl, h5a, h5b⟩
      · go_meet
        exact ⟨c5, rfl, S6, h5a, h5b⟩
    case rest =>
    obtain ⟨c8, rfl, S8, h8a, h8b⟩ := hcut
    clear S6 S5 h5a h5b hd2
    have c8c := S8.box.cell
    have f8 := S8.box.free
    have l8 := S8.box.lt
    go_upto_region 7 with fail
    go_cut [3] (fun s3 wx => ∃ c' k l, s3 = .pointer (some ⟨g, 0, none⟩) ∧ ClsSt B b w.heap.size g w c' t k l wx ∧ (l = fiveL ∨ l = oneL))
    case first =>
      go_wp2_with fail
      go_meet
      exact ⟨_, _, fiveL, rfl, clsSt_new S8 fiveL (by decide) ⟨h8a, h8b⟩, .inl rfl⟩
    case rest =>
    obtain ⟨c9, k9, l9, rfl, S9, hl9⟩ := hcut
    clear c8c f8 l8 S8 h8a h8b
    have D9 := S9.st.deck
    go_upto_if 72 with ((go_at_call 14; refine (next_c b _ _ (by assumption) (by omega) (by omega)).mono ?_; rintro e w2 ⟨r, rfl, hr0, hr1, hd2, G2⟩); have S10 := S9.next hd2 G2; clear D9 G2)
    go_cut [3] (fun s3 wx => ∃ c' k l, s3 = .pointer (some ⟨g, 0, none⟩) ∧ ClsSt B b w.heap.size g w c' t k l wx ∧ (l = fiveL ∨ l = oneL))
    case first =>
      have c10 := S10.st.box.cell
      have f10 := S10.st.box.free
      have l10 := S10.st.box.lt
      go_wp2_with fail
      · go_meet
        exact ⟨_, _, oneL, rfl, clsSt_new S10.st oneL (by decide) S10.spread, .inr rfl⟩
      · go_meet
        exact ⟨_, _, _, rfl, S10, hl9⟩
    case rest =>
    obtain ⟨c, k, l, rfl, S11, hl⟩ := hcut
    clear S10 S9 hl9 hd2
    have hcls : CfgCls c l := by
      have hw := S11.st.nums.width
      have hk := S11.st.nums.key
      rcases hl with rfl | rfl
      · exact ⟨five_ok, fun p hp => by simp [fiveL] at hp; subst hp; simp only; omega⟩
      · exact ⟨one_ok, fun p hp => by simp [oneL] at hp; subst hp; simp only; omega⟩
    have B11 := S11.st.box
    have Hcls := Lib.hid hcls
    clear hcls hl
    go_wp2_with (first | (refine load_cfg rfl _ rfl _ rfl c (by assumption) ?_) | (go_at_call 17; refine (demand_c c l t _ S11.nums S11.mem Hcls.out).mono ?_; rintro e w12 ⟨D, out, rfl, hD, hO, hol, G12⟩; have S12 := S11.same G12; clear B11 G12))
    have hl8 : l.length ≤ 8 := S11.len.2
    have hkD : k < D := Nat.lt_of_lt_of_le S11.cls.lt hD
    go_loopw [83] (fun s83 wr => ∃ (j : Nat) (l' : List (Int × Int)), s83 = .int .i64 j ∧ j ≤ l.length ∧ l'.length = l.length ∧ ClsSt B b w.heap.size g w c t k l' wr ∧ OutAt wr D out) (fun s83 _ => l.length - (intOf s83).toNat)
    case atStart => exact ⟨0, l, rfl, Nat.zero_le _, rfl, S12, hO⟩
    case round =>
      obtain ⟨j, l', rfl, hj, hl', S13, hO13⟩ := hrel
      by_cases hlt : j < l.length
      · have hv := S13.val
        obtain ⟨r1, r2, r3⟩ := S13.st.box.re
        simp only [Cfg.arr, hv, hl'] at r3
        have r4 := cell_regrown (hO13.cell (k := j) (by omega))
        have hjo : (0 : Int) ≤ (j : Nat) := by omega
        have hjo' : ((j : Nat) : Int) < l.length := by omega
        have Hl := Lib.hid hl'
        have Hol := Lib.hid hol
        clear hv hl' hol
        go_wp2_with fail
        refine Tail.wp_region_tail_grown 9 (by kernel_rfl) (by kernel_rfl) ?_
        simp only [List.take, List.drop]
        repeat (go_big_quiet_step (fail))
        refine wpQuiet_nil ?_
        rintro _ ⟨⟨d5, os5⟩, rfl⟩
        have S14 := S13.same (grown_re wr d5 os5)
        have hO14 := hO13.kept (grown_re wr d5 os5) (by simp)
        have hx14 := S14.cls.cell (i := j) (by rw [Hl.out]; exact hlt)
        have hf14 := S14.cls.free (j * 2 + 1)
        clear r1 r2 r3 r4
        generalize Go.Sort.grow (redrawn wr d5) os5 = w14 at *
        obtain ⟨x14, hx14⟩ := hx14
        go_wp2_with fail
        obtain ⟨l'', hl'', S15⟩ := S14.set (i := j) (by rw [Hl.out]; exact hlt) (out.getD j 0)
        refine ⟨⟨j + 1, l'', by go_num, by omega, hl''.trans Hl.out, S15, hO14.kept (grownBy_set (grownBy_refl _ _) _ _) (by simp; omega)⟩, ?_⟩
        simp [intOf]; omega
      · have B13 := S13.st.box
        have ho1 : c.Classes.oneCell' = true := by rw [S13.val]; rfl
        have ho2 : c.Table.oneCell' = true := by obtain ⟨a, cap, hv⟩ := S13.st.table.shape; rw [hv]; rfl
        go_wp2_with (first | (refine load_cfg rfl _ rfl _ rfl c (by assumption) ?_) | (refine store_cfg rfl _ _ rfl _ rfl c rfl ho1 ho2 Cfg.zero S13.st.res ?_; intro w20 B20 G20))
        obtain ⟨tt, ff, hh, hff⟩ := B20.block
        refine bodyPost_ret (v := c.val) (results_cell_row rfl _ _ w.heap.size _ _ _ _ rfl hh Try.underlying29 rfl size_cfg) rfl ?_
        have hm := S13.mem
        have hr1 := S13.st.lt
        have hr2 := S13.lt
        have hold := S13.st.old
        refine ⟨c, l', t, rfl, S13.nums, ⟨hm.classes.kept G20 ?_, hm.table.kept G20 ?_, hm.tlen, hm.twords⟩, S13.st.deck.kept G20 (by intro x hx; cases hx; exact hold), ?_, ?_, ?_, S13.st.nums⟩
        · intro x hx a n m hv; cases hx; rw [S13.val] at hv; cases hv; simp; omega
        · intro x hx a n m hv; cases hx; have := S13.st.tblock a n m hv; omega
        · have G13 := S13.st.grown
          exact ⟨G20.os.trans G13.os, G20.tape.trans G13.tape, G20.output.trans G13.output, Nat.le_trans G13.size G20.size, fun i hi hn => (G20.block i (Nat.lt_of_lt_of_le hi G13.size) (by simp; omega)).trans (G13.block i hi hn)⟩
        · intro a n m hv; have := S13.st.tblock a n m hv; omega
        · intro a n m hv; rw [S13.val] at hv; cases hv; simp; omega
theorem config2_c {B : Nat} (b : Nat) (w : World) (hd : Deck B w b) (hB : B ≤ w.heap.size) :
    Calls Try.prog 6 #[.pointer (some ⟨b, 0, none⟩)] w (ConfigPost2 B b w) :=
  (config3_c b w hd hB).mono fun _ _ ⟨c, l, t, h1, h2, h3, h4, h5, h6, h7, _⟩ => ⟨c, l, t, h1, h2, h3, h4, h5, h6, h7⟩
theorem config_c {B : Nat} (b : Nat) (w : World) (hd : Deck B w b) (hB : B ≤ w.heap.size) :
    Calls Try.prog 6 #[.pointer (some ⟨b, 0, none⟩)] w (ConfigPost B b w) :=
  (config2_c b w hd hB).mono fun _ _ ⟨c, l, t, h1, h2, h3, h4, h5, _⟩ => ⟨c, l, t, h1, h2, h3, h4, h5⟩
end Go.Proofs.Ytkdbapbmbhmaiaa

/- The weights of keys in a window: plain; the reference. -/
namespace Go.Proofs.Ytkdbapbmbhmaiaa
open Go.RowKit Go.Sort

/-- The item counts. -/
def inWin (c : Cfg) (win : Int) (x : ItR) : Bool := decide (0 ≤ x.time) && decide (x.time ≤ 1099511627776) && decide (winV c x.time = win)
def cntS (c : Cfg) (win : Int) (L : List KW) (x : ItR) : List KW := if inWin c win x = true then ctPut L x.key.data.toList x.weight else L
/-- The weights of the keys. -/
def cntL (c : Cfg) (win : Int) (l : List ItR) : List KW := l.foldl (cntS c win) []
theorem cntL_snoc (c : Cfg) (win : Int) (l : List ItR) (x : ItR) : cntL c win (l ++ [x]) = cntS c win (cntL c win l) x := by simp [cntL]
theorem cntS_asc {c : Cfg} {win : Int} {L : List KW} (h : AscB L) (x : ItR) : AscB (cntS c win L x) := by
  unfold cntS; split
  · exact ascB_put h
  · exact h
theorem cntL_take (P : List KW → Prop) (c : Cfg) (win : Int) (l : List ItR) (h0 : P []) (h : ∀ L x, x ∈ l → P L → P (cntS c win L x)) : P (cntL c win l) := by
  have key : ∀ k, k ≤ l.length → P (cntL c win (l.take k)) := by
    intro k
    induction k with
    | zero => intro _; simpa [cntL] using h0
    | succ k ih =>
      intro hk
      rw [List.take_succ_eq_append_getElem (by omega), cntL_snoc]
      exact h _ _ (List.getElem_mem _) (ih (by omega))
  have := key l.length (Nat.le_refl _)
  rwa [List.take_of_length_le (Nat.le_refl _)] at this
theorem cntL_asc (c : Cfg) (win : Int) (l : List ItR) : AscB (cntL c win l) := cntL_take AscB c win l (by simp [AscB]) fun _ x _ h => cntS_asc h x
theorem cntL_len (c : Cfg) (win : Int) (l : List ItR) : (cntL c win l).length ≤ l.length := by
  have key : ∀ k, k ≤ l.length → (cntL c win (l.take k)).length ≤ k := by
    intro k
    induction k with
    | zero => intro _; simp [cntL]
    | succ k ih =>
      intro hk
      rw [List.take_succ_eq_append_getElem (by omega), cntL_snoc]
      have h1 := ih (by omega)
      unfold cntS; split
      · have := ctPut_len (w := (l[k]'(by omega)).key.data.toList) (n := (l[k]'(by omega)).weight) (L := cntL c win (l.take k))
        omega
      · omega
  have := key l.length (Nat.le_refl _)
  rwa [List.take_of_length_le (Nat.le_refl _)] at this
theorem ctAt_w {w : Bytes} : ∀ {L : List KW}, (∀ p ∈ L, W64 p.2) → W64 (ctAt L w)
  | [], _ => by simp [ctAt, W64]
  | p :: L, h => by
    simp only [ctAt]; split
    · exact h p (by simp)
    · exact ctAt_w fun q hq => h q (List.mem_cons_of_mem p hq)
theorem ctPut_w {w : Bytes} {n : Int} (hn : W64 n) : ∀ {L : List KW}, (∀ p ∈ L, W64 p.2) → ∀ p ∈ ctPut L w n, W64 p.2
  | [], _ => by
    intro p hp
    simp only [ctPut, List.mem_singleton] at hp
    subst hp
    exact satA_w (by simp [W64]) hn
  | q :: L, h => by
    intro p hp
    simp only [ctPut] at hp
    have hq := h q (by simp)
    have hL : ∀ p ∈ L, W64 p.2 := fun p hp => h p (List.mem_cons_of_mem q hp)
    split at hp
    · rcases List.mem_cons.1 hp with rfl | hp
      · exact hq
      · exact ctPut_w hn hL p hp
    · split at hp
      · rcases List.mem_cons.1 hp with rfl | hp
        · exact satA_w hq hn
        · exact hL p hp
      · rcases List.mem_cons.1 hp with rfl | hp
        · exact satA_w (by simp [W64]) hn
        · exact h p hp
theorem cntL_w (c : Cfg) (win : Int) (l : List ItR) (h : ∀ x ∈ l, ItW x) : ∀ p ∈ cntL c win l, W64 p.2 := cntL_take (fun L => ∀ p ∈ L, W64 p.2) c win l (by simp) fun L x hx hL => by
  unfold cntS; split
  · exact ctPut_w (h x hx).weight hL
  · exact hL
/-- A key and its weight as a line. -/
def kwLn (p : KW) : Ln := ⟨⟨p.1.toArray⟩, p.2, p.2⟩
theorem kwLn_is (k : ByteArray) (n : Int) : kwLn (k.data.toList, n) = ⟨k, n, n⟩ := by
  unfold kwLn; obtain ⟨⟨d⟩⟩ := k; rfl
theorem kwLn_key (p : KW) : (kwLn p).key.data.toList = p.1 := by simp [kwLn]
theorem ctK_ge {w : Bytes} : ∀ {L : List KW} {p : KW}, L[ctK L w]? = some p → ¬ p.1 < w
  | [], p, h => by simp at h
  | q :: L, p, h => by
    simp only [ctK] at h
    by_cases a : q.1 < w
    · rw [if_pos a] at h
      exact ctK_ge (L := L) (by simpa using h)
    · rw [if_neg a] at h
      simp at h
      subst h; exact a
section
variable {L : List KW} {w : Bytes} {n : Int}
theorem kw_lt {i : Nat} (h : i < ctK L w) (hi : i < (L.map kwLn).length) : (L.map kwLn)[i].key.data.toList < w := by
  have h2 : i < L.length := by simpa using hi
  rw [List.getElem_map, kwLn_key]
  exact ctK_lt h (List.getElem?_eq_getElem h2)
theorem kw_ge (hi : ctK L w < (L.map kwLn).length) : ¬ (L.map kwLn)[ctK L w].key.data.toList < w := by
  have h2 : ctK L w < L.length := by simpa using hi
  rw [List.getElem_map, kwLn_key]
  exact ctK_ge (List.getElem?_eq_getElem h2)
theorem kw_has (hA : AscB L) (hi : ctK L w < (L.map kwLn).length) (he : (L.map kwLn)[ctK L w].key.data.toList = w) : (L.map kwLn)[ctK L w]? = some (kwLn (w, ctAt L w)) ∧ (L.map kwLn).set (ctK L w) (kwLn (w, satA (ctAt L w) n)) = (ctPut L w n).map kwLn := by
  have h2 : ctK L w < L.length := by simpa using hi
  rw [List.getElem_map, kwLn_key] at he
  have h3 : ctHas L w = true := ctHas_yes (List.getElem?_eq_getElem h2) he
  refine ⟨?_, ?_⟩
  · rw [List.getElem?_map, (ctHas_at hA).1 h3]; rfl
  · rw [ctPut_yes hA h3, List.map_set]
theorem kw_not (hA : AscB L) (hn : ¬ ∃ hi : ctK L w < (L.map kwLn).length, (L.map kwLn)[ctK L w].key.data.toList = w) : ctHas L w = false := by
  have hle := ctK_le (w := w) (L := L)
  by_cases h2 : ctK L w < L.length
  · exact ctHas_no hA (List.getElem?_eq_getElem h2) fun e => hn ⟨by simpa using h2, by rw [List.getElem_map, kwLn_key]; exact e⟩
  · exact ctHas_end hA (by omega)
theorem kw_new (hA : AscB L) (hn : ctHas L w = false) : ((L.map kwLn).take (ctK L w) ++ [kwLn (w, 0)] ++ (L.map kwLn).drop (ctK L w))[ctK L w]? = some (kwLn (w, 0)) ∧
    ((L.map kwLn).take (ctK L w) ++ [kwLn (w, 0)] ++ (L.map kwLn).drop (ctK L w)).set (ctK L w) (kwLn (w, satA 0 n)) = (ctPut L w n).map kwLn := by
  have hle := ctK_le (w := w) (L := L)
  have e : ((L.map kwLn).take (ctK L w)).length = ctK L w := by simp; omega
  refine ⟨?_, ?_⟩
  · rw [List.append_assoc, List.getElem?_append_right (by omega), e]; simp
  · rw [ctPut_no hA hn, List.append_assoc, List.set_append_right _ _ (by omega), e, Nat.sub_self]
    simp [List.map_take, List.map_drop]
end
attribute [local go_sem ↓] exec_load_cfg
attribute [local go_sem] run_loadCfgS

set_option maxHeartbeats 2000000 in
set_option maxRecDepth 100000 in
theorem rcount_c (c : Cfg) (win : Int) (v : Value) (l : List ItR) (w : World) (h : RdL itF 3 w v l) (hW : ∀ x ∈ l, ItW x) (hl : l.length ≤ 1000000) :
    Calls Try.prog 10 #[c.val, .int .i64 win, v] w (RetOwn lnF 3 46 ((cntL c win l).map kwLn) w) := by
  obtain ⟨a, cp, rfl⟩ := h.shape
  have hm := h.2.1
  have H := Lib.hid h
  have HW := Lib.hid hW
  have HAsc := Lib.hid (fun k => cntL_asc c win (l.take k))
  have HLen := Lib.hid (fun k => cntL_len c win (l.take k))
  have HCw := Lib.hid (fun k => cntL_w c win (l.take k) fun x hx => hW x (List.mem_of_mem_take hx))
  clear h hW
  go_enter Try.func10, Try.ntmps10
  go_upto_region 3 with (refine box_cfg rfl _ rfl c rfl ?_; intro w1 B1 G1 z1)
  have H1 := Lib.hid (H.out.same G1)
  have z1' := G1.size
  have B1' := Lib.hid B1
  have HG1 := Lib.hid G1
  clear G1 H
  go_loopw [13, 7] (fun s13 s7 wk => ∃ j : Nat, j ≤ l.length ∧ s13 = .int .i64 j ∧ Own lnF 3 46 w1.heap.size wk s7 ((cntL c win (l.take j)).map kwLn) ∧ w1.grownBy wk none) (fun s13 _ _ => l.length - (intOf s13).toNat)
  case atStart => exact ⟨0, Nat.zero_le _, rfl, Own.nil _ _ _ _ _, grownBy_refl _ _⟩
  case round =>
    clear B1
    obtain ⟨j, hj, rfl, hO, hg⟩ := hrel
    by_cases hjl : j < l.length
    · obtain ⟨gx, ox, cx, hv, hgx, hcx⟩ := (RdL.same H1.out hg).at_ itF_len hjl
      cases hv
      have c0 := hcx 0 _ rfl
      have c1 := hcx 1 _ rfl
      have c2 := hcx 2 _ rfl
      rw [Nat.add_zero] at c0
      have HT := Lib.hid (show cntL c win (l.take (j + 1)) = cntS c win (cntL c win (l.take j)) l[j] by rw [List.take_succ_eq_append_getElem hjl, cntL_snoc])
      have hwx := HW.out _ (List.getElem_mem hjl)
      have hA := HAsc.out j
      have hle := HLen.out j
      have hCw := HCw.out j
      rw [List.length_take] at hle
      have hsl : ((cntL c win (l.take j)).map kwLn).length ≤ 1000000 := by rw [List.length_map]; omega
      clear hcx
      generalize cntL c win (l.take j) = L at *
      generalize l[j] = it at *
      have HS0 := Lib.hid (show inWin c win it = false → cntS c win L it = L from fun h => by unfold cntS; rw [h]; rfl)
      have HS1 := Lib.hid (show inWin c win it = true → cntS c win L it = ctPut L it.key.data.toList it.weight from fun h => by unfold cntS; rw [h]; rfl)
      have HIn := Lib.hid (show inWin c win it = (decide (0 ≤ it.time) && decide (it.time ≤ 1099511627776) && decide (winV c it.time = win)) from rfl)
      have HN2 := Lib.hid (p := ∀ S, L.map kwLn = S → ∀ i (_ : i < ctK L it.key.data.toList) (hi : i < S.length), S[i].key.data.toList < it.key.data.toList) (fun S e i h hi => by subst e; exact kw_lt h hi)
      have HN3 := Lib.hid (p := ∀ S, L.map kwLn = S → ∀ (hi : ctK L it.key.data.toList < S.length), ¬ S[ctK L it.key.data.toList].key.data.toList < it.key.data.toList) (fun S e hi => by subst e; exact kw_ge hi)
      have hPle : ctK L it.key.data.toList ≤ (L.map kwLn).length := by rw [List.length_map]; exact ctK_le
      have HY := Lib.hid (p := ∀ (hi : ctK L it.key.data.toList < (L.map kwLn).length), (L.map kwLn)[ctK L it.key.data.toList].key.data.toList = it.key.data.toList → ∃ q, W64 q ∧ (L.map kwLn)[ctK L it.key.data.toList]? = some ⟨it.key, q, q⟩ ∧ (L.map kwLn).set (ctK L it.key.data.toList) ⟨it.key, satA q it.weight, satA q it.weight⟩ = (ctPut L it.key.data.toList it.weight).map kwLn) (fun hi he => by
        have := kw_has (n := it.weight) hA hi he
        rw [kwLn_is, kwLn_is] at this
        exact ⟨_, ctAt_w hCw, this⟩)
      have HNo := Lib.hid (p := (¬ ∃ hi : ctK L it.key.data.toList < (L.map kwLn).length, (L.map kwLn)[ctK L it.key.data.toList].key.data.toList = it.key.data.toList) → ∃ q, W64 q ∧ ((L.map kwLn).take (ctK L it.key.data.toList) ++ [(⟨it.key, 0, 0⟩ : Ln)] ++ (L.map kwLn).drop (ctK L it.key.data.toList))[ctK L it.key.data.toList]? = some ⟨it.key, q, q⟩ ∧ ((L.map kwLn).take (ctK L it.key.data.toList) ++ [(⟨it.key, 0, 0⟩ : Ln)] ++ (L.map kwLn).drop (ctK L it.key.data.toList)).set (ctK L it.key.data.toList) ⟨it.key, satA q it.weight, satA q it.weight⟩ = (ctPut L it.key.data.toList it.weight).map kwLn) (fun h => by
        have := kw_new (n := it.weight) hA (kw_not hA h)
        rw [kwLn_is, kwLn_is] at this
        exact ⟨0, by simp [W64], this⟩)
      generalize inWin c win it = iw at *
      generalize ctK L it.key.data.toList = N at *
      obtain ⟨S, hS⟩ : ∃ S, L.map kwLn = S := ⟨_, rfl⟩
      have HSe := Lib.hid hS
      rw [hS] at hO hsl hPle HY HNo
      replace HN2 := Lib.hid (HN2.out S hS)
      replace HN3 := Lib.hid (HN3.out S hS)
      clear hS
      obtain ⟨oa, oc, rfl⟩ := hO.shape
      go_upto_region 5 with fail
      have hgw := hg
      have O2 := hO.same (World.grownBy_alloc wr (.cells #[.string it.key, .int .i64 it.time, .int .u64 it.weight] 50) none)
      have G2 := grownBy_new_block hg (.cells #[.string it.key, .int .i64 it.time, .int .u64 it.weight] 50)
      have A2 := Blk.new wr #[.string it.key, .int .i64 it.time, .int .u64 it.weight] 50
      generalize wr.alloc (.cells #[.string it.key, .int .i64 it.time, .int .u64 it.weight] 50) = w2 at *
      generalize wr.heap.size = gk at *
      have B2 := B1'.out.same G2
      clear hO hg hgw c0 c1 c2 hgx
      have a2 := A2.cell
      have CW := Lib.hid fun w' => rwin_c c it.time w'
      by_cases t0 : it.time < 0
      · have HF := Lib.hid (HT.out.trans (HS0.out (by rw [HIn.out, decide_eq_false (show ¬ 0 ≤ it.time by omega)]; rfl)))
        have d0 : decide (it.time < 0) = true := decide_eq_true t0
        go_wp2_with fail
        exact ⟨⟨j + 1, by omega, by go_num, by rw [HF.out, HSe.out]; exact O2, G2⟩, by simp [intOf]; omega⟩
      have e0 : decide (0 ≤ it.time) = true := decide_eq_true (by omega)
      have d0 : decide (it.time < 0) = false := decide_eq_false t0
      by_cases t1 : 1099511627776 < it.time
      · have HF := Lib.hid (HT.out.trans (HS0.out (by rw [HIn.out, decide_eq_false (show ¬ it.time ≤ 1099511627776 by omega)]; simp)))
        have d1 : decide ((1099511627776 : Int) < it.time) = true := decide_eq_true t1
        go_wp2_with fail
        exact ⟨⟨j + 1, by omega, by go_num, by rw [HF.out, HSe.out]; exact O2, G2⟩, by simp [intOf]; omega⟩
      have e1 : decide (it.time ≤ 1099511627776) = true := decide_eq_true (by omega)
      have d1 : decide ((1099511627776 : Int) < it.time) = false := decide_eq_false t1
      by_cases t2 : winV c it.time = win
      case neg =>
        have HF := Lib.hid (HT.out.trans (HS0.out (by rw [HIn.out, decide_eq_false t2]; simp)))
        have d2 : (winV c it.time != win) = true := by simpa using t2
        have d3 : (winV c it.time == win) = false := by simpa using t2
        generalize winV c it.time = q at *
        clear HIn HS0 HS1
        go_wp2_with (first
          | (refine load_cfg_if rfl _ rfl _ rfl c (by assumption) ?_)
          | (go_at_call 24; refine (CW.out _).mono ?_; rintro e w3 ⟨rfl, g3⟩))
        exact ⟨⟨j + 1, by omega, by go_num, by rw [HF.out, HSe.out]; exact O2.same g3, grownBy_trans G2 g3⟩, by simp [intOf]; omega⟩
      case pos =>
        have HF := Lib.hid (HT.out.trans (HS1.out (by rw [HIn.out, e0, e1, decide_eq_true t2]; rfl)))
        have d2 : (winV c it.time != win) = false := by simpa using t2
        have d3 : (winV c it.time == win) = true := by simpa using t2
        generalize winV c it.time = qw at *
        have HR := Lib.hid (p := ∀ R, R = (ctPut L it.key.data.toList it.weight).map kwLn → R = (cntL c win (l.take (j + 1))).map kwLn) (fun R hR => by rw [hR, HF.out])
        have Hwx := Lib.hid hwx.weight
        clear HIn HS0 HS1 hA hCw HSe hwx HF
        generalize (ctPut L it.key.data.toList it.weight).map kwLn = RR at *
        clear hle
        go_upto_region 6 with (first
          | (refine load_cfg_if rfl _ rfl _ rfl c (by assumption) ?_)
          | (go_at_call 24; refine (CW.out _).mono ?_; rintro e w3 ⟨rfl, g3⟩))
        have O3 := O2.same g3
        have A3 := A2.same g3
        have G3 := grownBy_trans G2 g3
        clear O2 A2 a2 B2 CW g3 G2 t0 t1 t2 e0 e1 d0 d1 d2 d3
        go_cut [10] (fun s10 wx => s10 = .int .i64 0 ∧ w3 = wx)
        case first =>
          go_wp2_with fail
          go_meet
          exact ⟨rfl, rfl⟩
        obtain ⟨rfl, rfl⟩ := hcut
        rename_i hK
        refine hK _ _ ?_
        apply wp_seq_k
        intro K1 hK1
        go_cut [10, 33, 34, 35, 36, 37, 38, 39, 40, 41, 42, 43, 44, 45, 46, 47, 48] (fun s10 _ _ _ _ _ _ _ _ _ _ _ _ _ _ _ _ wx => s10 = .int .i64 N ∧ w3.grownBy wx none)
        case first =>
          go_wp2_with fail
          go_loopw [10] (fun s10 wk => ∃ m : Nat, m ≤ N ∧ s10 = .int .i64 m ∧ w3.grownBy wk none) (fun s10 _ => N - (intOf s10).toNat)
          case atStart => exact ⟨0, Nat.zero_le _, rfl, grownBy_refl _ _⟩
          case round =>
            obtain ⟨m, hm, rfl, hgm⟩ := hrel
            have am := (A3.same hgm).cell
            by_cases hml : m < S.length
            · obtain ⟨go, oo, co, hvo, hgo, cm⟩ := (RdL.same O3.rd hgm).at_ lnF_len hml
              cases hvo
              have cm0 := cm 0 _ rfl
              rw [Nat.add_zero] at cm0
              have hml2 : (m : Int) < (S.length : Int) := by omega
              have hbl := blT_of S[m].key it.key
              clear cm
              by_cases hmN : m < N
              · have hlt := HN2.out m hmN hml
                rw [decide_eq_true hlt] at hbl
                generalize S[m] = y at *
                clear hlt
                go_wp2_with fail
                go_quiet (fail)
                go_wp2_with fail
                exact ⟨⟨m + 1, by omega, by go_num, grownBy_drewN hgm _⟩, by simp [intOf]; omega⟩
              · obtain rfl : m = N := by omega
                have hlt := HN3.out hml
                rw [decide_eq_false hlt] at hbl
                generalize S[m] = y at *
                clear hlt
                go_wp2_with fail
                go_quiet (fail)
                go_wp2_with fail
                go_meet
                exact ⟨rfl, grownBy_drewN hgm _⟩
            · obtain rfl : m = N := by omega
              have hml2 : decide ((m : Int) < (S.length : Int)) = false := decide_eq_false (by omega)
              go_wp2_with fail
              go_quiet (fail)
              go_wp2_with fail
              go_meet
              exact ⟨rfl, grownBy_drewN hgm _⟩
        obtain ⟨rfl, h3⟩ := hcut
        refine hK1 _ _ ?_
        replace O3 := O3.same h3
        replace A3 := A3.same h3
        replace G3 := grownBy_trans G3 h3
        have a3 := A3.cell
        apply wp_seq_k
        intro K3 hK3
        go_cut [7, 49, 50, 51, 52, 53, 54, 55, 56, 57, 58, 59, 60, 61, 62, 63, 64, 65, 66, 67, 68, 69, 70, 71, 72, 73, 74, 75, 76] (fun s7 _ _ _ _ _ _ _ _ _ _ _ _ _ _ _ _ _ _ _ _ _ _ _ _ _ _ _ _ wx => ∃ S2 q, Own lnF 3 46 w1.heap.size wx s7 S2 ∧ S2.length ≤ 1000001 ∧ W64 q ∧ S2[N]? = some ⟨it.key, q, q⟩ ∧ S2.set N ⟨it.key, satA q it.weight, satA q it.weight⟩ = RR ∧ Blk wx gk #[.string it.key, .int .i64 it.time, .int .u64 it.weight] ∧ w1.grownBy wx none)
        case first =>
          have O3' := Lib.hid O3
          have A3' := Lib.hid A3
          by_cases hdup : ∃ (hk : N < S.length), S[N].key.data.toList = it.key.data.toList
          · obtain ⟨hml, he⟩ := hdup
            obtain ⟨q, hq, hat, hset⟩ := HY.out hml he
            have HF := Lib.hid (And.intro hq (And.intro hat hset))
            obtain ⟨go, oo, co, hvo, hgo, cm⟩ := O3.rd.at_ lnF_len hml
            cases hvo
            have cm0 := cm 0 _ rfl
            rw [Nat.add_zero] at cm0
            have hml2 : ((N : Int) == (S.length : Int)) = false := beq_eq_false_iff_ne.2 (by omega)
            have hml3 : (N : Int) < (S.length : Int) := by omega
            have hbe := beT_of S[N].key it.key
            rw [decide_eq_true he] at hbe
            generalize S[N] = y at *
            clear he cm HNo HN2 HN3 HY hq hat hset
            go_wp2_with fail
            go_quiet (fail)
            go_wp2_with fail
            go_meet
            exact ⟨S, q, O3'.out.same (grownBy_drewN (grownBy_refl _ _) _), by omega, HF.out.1, HF.out.2.1, HF.out.2.2, A3'.out.drew _, grownBy_drewN G3 _⟩
          · obtain ⟨q, hq, hat, hset⟩ := HNo.out hdup
            have HF := Lib.hid (And.intro hq (And.intro hat hset))
            clear hq hat hset HNo HN2 HN3 HY
            apply wp_seq_k
            intro K4 hK4
            go_cut [49, 50, 51, 52, 53, 54, 55, 56, 57, 58, 59, 60, 61, 62] (fun _ _ _ _ _ _ _ _ _ _ _ _ _ s62 wx => s62 = .bool true ∧ Own lnF 3 46 w1.heap.size wx (.slice oa S.length oc) S ∧ Blk wx gk #[.string it.key, .int .i64 it.time, .int .u64 it.weight] ∧ w1.grownBy wx none)
            case first =>
              by_cases hml : N < S.length
              · obtain ⟨go, oo, co, hvo, hgo, cm⟩ := O3.rd.at_ lnF_len hml
                cases hvo
                have cm0 := cm 0 _ rfl
                rw [Nat.add_zero] at cm0
                have hml2 : ((N : Int) == (S.length : Int)) = false := beq_eq_false_iff_ne.2 (by omega)
                have hml3 : (N : Int) < (S.length : Int) := by omega
                have hbe := beT_of S[N].key it.key
                rw [decide_eq_false (show ¬ S[N].key.data.toList = it.key.data.toList from fun e => hdup ⟨hml, e⟩)] at hbe
                generalize S[N] = y at *
                clear hdup cm HF
                go_wp2_with fail
                go_quiet (fail)
                go_wp2_with fail
                go_meet
                exact ⟨rfl, O3'.out.same (grownBy_drewN (grownBy_refl _ _) _), A3'.out.drew _, grownBy_drewN G3 _⟩
              · obtain rfl : N = S.length := by omega
                clear hdup HF
                have hml2 : ((S.length : Int) == (S.length : Int)) = true := by simp
                go_wp2_with fail
                go_quiet (fail)
                go_wp2_with fail
                go_meet
                exact ⟨rfl, O3'.out.same (grownBy_drewN (grownBy_refl _ _) _), A3'.out.drew _, grownBy_drewN G3 _⟩
            obtain ⟨rfl, O3, A3, G3⟩ := hcut
            clear a3 hdup O3' A3'
            refine hK4 _ _ ?_
            obtain ⟨w, hww⟩ : ∃ w', w' = w1 := ⟨_, rfl⟩
            have Hww := Lib.hid hww
            rw [← hww] at O3 G3
            clear hww
            have hKl := hPle
            have HSb := Lib.hid hsl
            obtain ⟨x, hx⟩ : ∃ x : Ln, x = ⟨it.key, 0, 0⟩ := ⟨_, rfl⟩
            have HX := Lib.hid (show (#[Value.string it.key, .int .u64 0, .int .u64 0] : Array Value).toList = lnF x by rw [hx]; rfl)
            rw [← hx] at HF
            have HXl := Lib.hid (show (S.take N ++ [x] ++ S.drop N).length ≤ 1000001 by simp; omega)
            clear hx
            obtain ⟨P, rfl⟩ : ∃ P, P = N := ⟨_, rfl⟩
            go_upto_region 10 with fail
            have hcap := O3.cap
            have hP0 : (0 : Int) ≤ (P : Int) := by omega
            have hP1 : (P : Int) ≤ (S.length : Int) := by omega
            have hP2 : (P : Int) ≤ (oc : Int) := by omega
            have hP3 : (S.length : Int) ≤ (oc : Int) := by omega
            have hsz := G3.size
            refine wp_region_any (by kernel_rfl) ?_
            (refine Tail.take_put 10 73 (.slice oa S.length oc) rfl rfl (by kernel_rfl) (by kernel_rfl) (by kernel_rfl) (fun _ _ _ h => h) (Or.inl ⟨by rfl, fun w => ?_⟩) ?_; · go_simp); simp only [List.setIfInBounds_toArray, List.set_cons_zero, List.set_cons_succ]
            (refine Tail.take_put 11 74 (.int .i64 P) rfl rfl (by kernel_rfl) (by kernel_rfl) (by kernel_rfl) (fun _ _ _ h => h) (Or.inl ⟨by rfl, fun w => ?_⟩) ?_; · go_simp); simp only [List.setIfInBounds_toArray, List.set_cons_zero, List.set_cons_succ]
            (refine Tail.take_put 12 75 (.slice (if oc = P then oa else oa.map (·.add (P * 3))) (S.length - P) (oc - P)) rfl rfl (by kernel_rfl) (by kernel_rfl) (by kernel_rfl) (fun _ _ _ h => h) (Or.inl ⟨by rfl, fun w => ?_⟩) ?_; · go_simp); simp only [List.setIfInBounds_toArray, List.set_cons_zero, List.set_cons_succ]
            have RD := Lib.hid fun w' (h : Own lnF 3 46 w.heap.size w' (.slice oa S.length oc) S) => h.rd.drop lnF_len hKl hcap (oc - P)
            generalize (if oc = P then oa else oa.map (·.add (P * 3))) = od at *
            (refine Rg.wpAny_rg 9 #[] #[false, false, false, false, false, false, false, false, false, false, true, true, true, false, false] (fun w w' => World.grownBy w w' none) (fun _ _ _ _ _ => False) (by kernel_rfl) (by kernel_rfl) rfl (by kernel_rfl) (by simp only [Rg.tailL, List.drop]; decide) (fun w => grownBy_refl w none) (fun _ _ _ h k => grownBy_trans h k) (fun _ _ _ _ _ h => h) ?_; simp only [List.take, List.drop, Rg.tailL]; simp (decide := true) only [if_true, if_false])
            have Gd : wc.grownBy wc.drew none := (by (repeat (first | exact grownBy_refl _ _ | assumption | refine grownBy_new_block ?_ _ | refine grownBy_drew ?_ | refine grownBy_drewN ?_ _ | refine grownBy_setNew ?_ (by first | (simp; done) | omega | (simp; omega)) _)))
            have Kd := grownBy_trans G3 Gd
            have hb1 : (S.take P).length = P := by simp; omega
            have hb2 : (S.take P).length * 32 ≤ 140737488355328 := by rw [hb1]; omega
            have hb3 : (S.take P).length ≤ 9223372036854775807 := by rw [hb1]; omega
            have hb4 : ((S.take P).length + 1) * 32 ≤ 140737488355328 := by rw [hb1]; omega
            have hb5 : (S.take P).length + 1 ≤ 9223372036854775807 := by rw [hb1]; omega
            have hb6 : (S.take P ++ [x]).length = P + 1 := by rw [List.length_append, hb1]; rfl
            have hb7 : (S.drop P).length = S.length - P := by simp
            have hb8 : ((S.take P ++ [x]).length + (S.drop P).length) * 32 ≤ 140737488355328 := by rw [hb6, hb7]; omega
            have hb9 : (S.take P ++ [x]).length + (S.drop P).length ≤ 9223372036854775807 := by rw [hb6, hb7]; omega
            have Hb1 := Lib.hid hb1.symm
            have Hb7 := Lib.hid hb7.symm
            clear hb1 hb6 hb7
            (refine Rg.tree_op rfl rfl ?_; intro y0 my0 dy0)
            clear dy0
            have zy0 : w.heap.size ≤ y0.heap.size := (grownBy_trans Kd my0).size
            go_wp2_with fail
            refine ⟨World.grownBy_alloc _ _ _, ?_⟩
            have N0 := own_lit0 (e := 46) lnF 3 zy0
            have hg0 : wc.heap.size ≤ y0.heap.size := (grownBy_trans Gd my0).size
            generalize y0.alloc (.cells #[] 46) = e0 at *
            generalize y0.heap.size = g0 at *
            (refine Rg.tree_quiet 3 rfl (by first | exact Or.inl rfl | exact Or.inr rfl) ?_; simp only [List.take, List.drop, List.length_cons, List.length_nil, List.replicate, Nat.reduceAdd]; (try simp only [List.cons_append]); (try simp only [List.nil_append]); (repeat (go_big_quiet_step (fail))); refine wpQuiet_nil ?_)
            (refine Rg.tree_op rfl rfl ?_; intro y4 my4 dy4)
            have N4 := N0.same (dy4.out 0 (by omega) (by kernel_rfl))
            have K4 := grownBy_trans Gd my4
            have R4 := (O3.rd.take lnF_len hKl oc).same K4
            have z4 := (grownBy_trans Kd my4).size
            go_wp2_with (at_builtin; refine app_lit elt_ln one_ln N4 R4 Hb1.out hb2 hb3 z4 (by rfl) _ _ (by rfl) (by rfl) (by rfl) ?_; intro v4 e4 o4 g4 l4; have Hg4 := Lib.hid g4; clear g4)
            refine ⟨Hg4.out, ?_⟩
            have hv4 := Lies.ge l4 (fun k hk => Nat.le_trans hg0 (ge_new _ _ _ k hk)) K4.size
            clear R4 N0 N4 K4 z4 dy4 l4
            (refine Rg.tree_quiet 1 rfl (by first | exact Or.inl rfl | exact Or.inr rfl) ?_; simp only [List.take, List.drop, List.length_cons, List.length_nil, List.replicate, Nat.reduceAdd]; (try simp only [List.cons_append]); (try simp only [List.nil_append]); (repeat (go_big_quiet_step (fail))); refine wpQuiet_nil ?_)
            (refine Rg.tree_op rfl rfl ?_; intro y5 my5 dy5)
            clear dy5
            have a5 := (A3.same (grownBy_trans Gd my5)).cell
            go_wp2_with fail
            refine ⟨grownBy_refl _ _, ?_⟩
            clear a5
            (refine Rg.tree_quiet 1 rfl (by first | exact Or.inl rfl | exact Or.inr rfl) ?_; simp only [List.take, List.drop, List.length_cons, List.length_nil, List.replicate, Nat.reduceAdd]; (try simp only [List.cons_append]); (try simp only [List.nil_append]); (repeat (go_big_quiet_step (fail))); refine wpQuiet_nil ?_)
            (refine Rg.tree_op rfl rfl ?_; intro y6 my6 dy6)
            clear dy6
            go_wp2_with fail
            refine ⟨World.grownBy_alloc _ _ _, ?_⟩
            have N6 := Blk.new y6 #[.string it.key, .int .u64 0, .int .u64 0] 46
            generalize y6.alloc (.cells #[.string it.key, .int .u64 0, .int .u64 0] 46) = e6 at *
            generalize y6.heap.size = g6 at *
            (refine Rg.tree_nil ?_; intro z mz dz cz)
            have o5 := o4.same (dz.out 4 (by omega))
            have N7 := (N6.same (dz.out 8 (by omega))).one lnF_len x HX.out
            have Kz := grownBy_trans Gd mz
            have KK := grownBy_trans Kd mz
            have z7 := KK.size
            have O7 := O3.same Kz
            have AZ := A3.same Kz
            have hga := A3.lt
            have hkz := Kz.size
            have hlo : ∀ k, Value.ownBlock (.slice oa S.length oc) = some k → k < wc.heap.size := fun k hk => (O3.lt k hk).2
            have tok := Lib.hid hP0
            clear dz cz my0 my4 my5 my6 mz Hg4 Kz N6 o4 O3 A3 hg0 zy0 Gd Kd
            go_wp2_with (first
              | (at_builtin; have _t := tok; refine app elt_ln one_ln o5 N7 rfl hb4 hb5 z7 (by rfl) _ _ (by rfl) (by rfl) (by rfl) ?_; intro v7 w7 o7 g7 l7; clear tok; have K7 := grown_own KK o5 (Nat.le_refl _) g7; have AZ7 := AZ.kept g7 (fun e => by have := hv4 _ e; omega); have hv7 := Lies.ge l7 hv4 hkz; have R8 := RD.out _ (O7.kept g7 (fun k hk e => by have := hlo k hk; have := hv4 k e; omega)); have z8 := K7.size)
              | (at_builtin; refine app elt_ln one_ln o7 R8 Hb7.out hb8 hb9 z8 (by rfl) _ _ (by rfl) (by rfl) (by rfl) ?_; intro v8 w8 o8 g8 l8; have K8 := grown_own K7 o7 (Nat.le_refl _) g8; have AZ8 := AZ7.kept g8 (fun e => by have := hv7 _ e; omega)))
            go_meet
            exact ⟨_, _, by rw [← Hww.out]; exact o8, HXl.out, HF.out.1, HF.out.2.1, HF.out.2.2, AZ8, by rw [← Hww.out]; exact K8⟩
        obtain ⟨S2, q, O4, hS2, hq, hat, hset, A4, G4⟩ := hcut
        refine hK3 _ _ ?_
        obtain ⟨hNl, hNe⟩ := List.getElem?_eq_some_iff.1 hat
        obtain ⟨g2, cap2, rfl, hgB, hgl, hcap, hcx, hfz⟩ := O4.at_ lnF_len hNl
        rw [hNe] at hcx
        have c1 := hcx 1 _ rfl
        have fz := hfz (N * 3 + 1)
        have a4 := A4.cell
        have hw64 := Hwx.out
        have hNi : (N : Int) < (S2.length : Int) := by omega
        clear hcx hfz HNo HN2 HN3 HY a3 A3 O3 G3 h3
        go_upto_region 11 with fail
        (refine Tail.wp_region_tail_drawn 12 (by kernel_rfl) (by kernel_rfl) ?_; simp only [List.take, List.drop]; (repeat (go_big_quiet_step ((go_at_call 25; exact Calls.quiet_of_same ((rsum_c q it.weight _ hq hw64).mono fun _ _ ⟨he, hw⟩ => ⟨he, hw.symm⟩))))); refine wpQuiet_nil ?_; rintro _ ⟨nq, rfl⟩)
        have s5 := (O4.same (grownBy_drewN (grownBy_refl _ _) nq)).stored lnF_len hNl (show 1 < 3 by omega) (.int .u64 (satA q it.weight)) ⟨it.key, satA q it.weight, q⟩ (by rw [hNe]; rfl)
        have G5 := grown_own (grownBy_drewN G4 nq) (O4.same (grownBy_drewN (grownBy_refl _ _) nq)) (Nat.le_refl _) s5.2
        go_upto_region 12 with fail
        have O5 := s5.1
        clear s5 c1 fz a4 A4 O4 G4 hgl
        generalize (wc.drewN nq).setCell ⟨g2, N * 3 + 1, none⟩ (.int .u64 (satA q it.weight)) = w5 at *
        have hNl5 : N < (S2.set N ⟨it.key, satA q it.weight, q⟩).length := by rw [List.length_set]; exact hNl
        have hNe5 : (S2.set N ⟨it.key, satA q it.weight, q⟩)[N]'hNl5 = ⟨it.key, satA q it.weight, q⟩ := by simp
        obtain ⟨g3, cap3, hv3, -, hgl, -, hcx, hfz⟩ := O5.at_ lnF_len hNl5
        obtain ⟨hg', -, -⟩ : some ⟨g2, 0, none⟩ = some (⟨g3, 0, none⟩ : Addr) ∧ S2.length = (S2.set N ⟨it.key, satA q it.weight, q⟩).length ∧ cap2 = cap3 := by simpa only [Value.slice.injEq] using hv3
        cases hg'
        rw [hNe5] at hcx
        have c1 := hcx 1 _ rfl
        have c2 := hcx 2 _ rfl
        have fz := hfz (N * 3 + 2)
        have s6 := O5.stored lnF_len hNl5 (show 2 < 3 by omega) (.int .u64 (satA q it.weight)) ⟨it.key, satA q it.weight, satA q it.weight⟩ (by rw [hNe5]; rfl)
        have s7 := s6.1
        rw [List.set_set, hset, HR.out RR rfl] at s7
        have G6 := grown_own G5 O5 (Nat.le_refl _) s6.2
        clear hcx hfz hv3 O5 s6 G5 hset hat hNe hNe5
        generalize satA q it.weight = sq at *
        go_wp2_with fail
        exact ⟨⟨j + 1, by omega, by go_num, s7, G6⟩, by simp [intOf]; omega⟩
    · have hke : l.take j = l := List.take_of_length_le (by omega)
      rw [hke] at hO
      generalize (cntL c win l).map kwLn = S at *
      obtain ⟨oa, oc, rfl⟩ := hO.shape
      go_wp2_with fail
      go_ret
      exact ⟨_, rfl, hO.base (fun k hk => Nat.le_trans z1' (hO.lt k hk).1), grownBy_trans HG1.out hg⟩
end Go.Proofs.Ytkdbapbmbhmaiaa

/- Bounds: sums, caps, of entries; the program's and the references'. -/
namespace Go.Proofs.Ytkdbapbmbhmaiaa
open Go.RowKit

abbrev bndV (lo hi : Int) : Value := .agg #[.int .u64 lo, .int .u64 hi]
abbrev entV (k : ByteArray) (own slack : Int) : Value := .agg #[.string k, .int .u64 own, .int .u64 slack]

def exactB (own slack m : Int) : Bool := decide (own + slack ≤ m)
/-- A line: a key with bounds. -/
abbrev lineV (k : ByteArray) (lo hi : Int) : Value := .agg #[.string k, .int .u64 lo, .int .u64 hi]
def beforeB (k : ByteArray) (hi : Int) (k' : ByteArray) (hi' : Int) : Bool := decide (hi' < hi) || (hi == hi' && Op.bytesLess k.toList k'.toList)
theorem before_1 {k k' : ByteArray} {hi hi' : Int} (h : hi' < hi) : beforeB k hi k' hi' = true := by unfold beforeB; rw [decide_eq_true h]; rfl
theorem before_2 {k k' : ByteArray} {hi hi' : Int} (h : hi ≤ hi') (h2 : ¬ hi = hi') : beforeB k hi k' hi' = false := by unfold beforeB; rw [decide_eq_false (by omega), beq_eq_false_iff_ne.2 h2]; rfl
theorem before_3 {k k' : ByteArray} {hi hi' : Int} (h2 : hi = hi') : beforeB k hi k' hi' = Op.bytesLess k.toList k'.toList := by unfold beforeB; rw [decide_eq_false (by omega), beq_iff_eq.2 h2]; simp
theorem bBefore_c (k k' : ByteArray) (lo hi lo' hi' : Int) (w : World) : Calls Try.prog 57 #[lineV k lo hi, lineV k' lo' hi'] w (RetBool (beforeB k hi k' hi') w) := by
  go_enter Try.func57, Try.ntmps57
  go_wp2
  all_goals go_ret
  · exact retBool (before_3 (by assumption)) (by (repeat (first | exact grownBy_refl _ _ | assumption | refine grownBy_new_block ?_ _ | refine grownBy_drew ?_ | refine grownBy_drewN ?_ _ | refine grownBy_setNew ?_ (by first | (simp; done) | omega | (simp; omega)) _)))
  · exact retBool ((before_2 (by assumption) (by assumption)).trans (decide_eq_false (by omega)).symm) (by (repeat (first | exact grownBy_refl _ _ | assumption | refine grownBy_new_block ?_ _ | refine grownBy_drew ?_ | refine grownBy_drewN ?_ _ | refine grownBy_setNew ?_ (by first | (simp; done) | omega | (simp; omega)) _)))
  · exact retBool (before_1 (by assumption)) (by (repeat (first | exact grownBy_refl _ _ | assumption | refine grownBy_new_block ?_ _ | refine grownBy_drew ?_ | refine grownBy_drewN ?_ _ | refine grownBy_setNew ?_ (by first | (simp; done) | omega | (simp; omega)) _)))
end Go.Proofs.Ytkdbapbmbhmaiaa

/- Summaries: how they lie in memory; their total. -/
namespace Go.Proofs.Ytkdbapbmbhmaiaa
open Go.RowKit

/-- A tracked key. -/
structure Ent where
  (key : ByteArray) (own slack : Int)
def entF (e : Ent) : List Value := [.string e.key, .int .u64 e.own, .int .u64 e.slack]
theorem entF_len (e : Ent) : (entF e).length = 3 := rfl
def valF (v : Value) : List Value := [v]
theorem valF_len (v : Value) : (valF v).length = 1 := rfl
theorem val_one (v : Value) : valF v = [v] := rfl
/-- A summary: its numbers, the slices as they stand, and what these read as. -/
structure Summ where
  (total : Int) (ve : Value) (untr : Int) (vr : Value) (es : List Ent) (vs : List Value) (rows : List (List Int))
def sumF (s : Summ) : List Value := [.int .u64 s.total, s.ve, .int .u64 s.untr, s.vr]
theorem sumF_len (s : Summ) : (sumF s).length = 4 := rfl
abbrev sumV (total : Int) (ve : Value) (untr : Int) (vr : Value) : Value := .agg #[.int .u64 total, ve, .int .u64 untr, vr]
structure SumRd (w : World) (s : Summ) : Prop where
  es : RdL entF 3 w s.ve s.es
  vs : RdL valF 1 w s.vr s.vs
  len : s.vs.length = s.rows.length
  rows : ∀ (i : Nat) v row, s.vs[i]? = some v → s.rows[i]? = some row → RdL wordF 1 w v row
theorem SumRd.same {w w' : World} {s : Summ} (h : SumRd w s) (hg : w.grownBy w' none) : SumRd w' s :=
  ⟨h.es.same hg, h.vs.same hg, h.len, fun i v row hv hr => (h.rows i v row hv hr).same hg⟩
/-- The numbers have 64 bits. -/
structure SumW (s : Summ) : Prop where
  total : W64 s.total
  untr : W64 s.untr
  es : ∀ e ∈ s.es, W64 e.own ∧ W64 e.slack
  rows : ∀ row ∈ s.rows, ∀ x ∈ row, W64 x
/-- A slice of summaries. -/
structure SumsRd (w : World) (v : Value) (l : List Summ) : Prop where
  rd : RdL sumF 4 w v l
  all : ∀ s ∈ l, SumRd w s
  wf : ∀ s ∈ l, SumW s
theorem SumsRd.same {w w' : World} {v : Value} {l : List Summ} (h : SumsRd w v l) (hg : w.grownBy w' none) : SumsRd w' v l :=
  ⟨h.rd.same hg, fun s hs => (h.all s hs).same hg, h.wf⟩
theorem SumsRd.at_ {w : World} {v : Value} {l : List Summ} (h : SumsRd w v l) {k : Nat} (hk : k < l.length) :
    ∃ g off cap, v = .slice (some ⟨g, off, none⟩) l.length cap ∧ g < w.heap.size ∧ w.cell? ⟨g, off + k * 4, none⟩ = some (.int .u64 l[k].total) ∧ w.cell? ⟨g, off + k * 4 + 1, none⟩ = some l[k].ve ∧
      w.cell? ⟨g, off + k * 4 + 2, none⟩ = some (.int .u64 l[k].untr) ∧ w.cell? ⟨g, off + k * 4 + 3, none⟩ = some l[k].vr ∧ SumRd w l[k] ∧ SumW l[k] := by
  obtain ⟨g, off, cap, hv, hg, hc⟩ := h.rd.at_ sumF_len hk
  exact ⟨g, off, cap, hv, hg, hc 0 _ rfl, hc 1 _ rfl, hc 2 _ rfl, hc 3 _ rfl, h.all _ (List.getElem_mem hk), h.wf _ (List.getElem_mem hk)⟩
theorem take_succ {α : Type} {l : List α} {k : Nat} (h : k < l.length) : l.take (k + 1) = l.take k ++ [l[k]] := List.take_succ_eq_append_getElem h

def totalF (l : List Summ) : Int := l.foldl (fun n s => satA n s.total) 0
theorem totalF_snoc (l : List Summ) (s : Summ) : totalF (l ++ [s]) = satA (totalF l) s.total := by simp [totalF]
theorem w64_0 : W64 0 := ⟨by omega, by omega⟩

end Go.Proofs.Ytkdbapbmbhmaiaa

/- Routing and hashing. -/
namespace Go.Proofs.Ytkdbapbmbhmaiaa
open Go.RowKit

def RetWordS (k : Int) (w : World) (e : Ending) (w' : World) : Prop := e = .returned (.int .u64 k) ∧ w = w'
def rotF (h k : Int) : Int := bits BinOp.or IntKind.u64 (IntKind.u64.wrap (h * 2 ^ k.toNat)) (h / 2 ^ (64 - k).toNat)
theorem w64_bits (op : BinOp) (a b : Int) : W64 (bits op IntKind.u64 a b) := by
  have h := bounds_u64 (wf_bits op IntKind.u64 a b)
  unfold W64; omega
def slotF (h n : Int) : Int := h % n
theorem slotF_bd (h n : Int) (hn : 1 ≤ n) : 0 ≤ slotF h n ∧ slotF h n < n := ⟨Int.emod_nonneg _ (by omega), Int.emod_lt_of_pos _ (by omega)⟩
def RetIntS (k : Int) (w : World) (e : Ending) (w' : World) : Prop := e = .returned (.int .i64 k) ∧ w = w'
theorem slot_w (h n : Int) (h1 : W64 h) (h2 : 1 ≤ n) (h3 : n ≤ 4611686018427387904) : wrap64 (h.tmod n) = slotF h n := by
  have e : h.tmod n = h % n := Int.tmod_eq_emod_of_nonneg h1.1
  have := slotF_bd h n h2
  rw [e, wrap64]; unfold slotF at this ⊢; omega
theorem rtable_c (a : Option Addr) (c : Nat) (w : World) : Calls Try.prog 59 #[.slice a 16 c] w (RetIntS 0 w) := by
  go_enter Try.func59, Try.ntmps59
  go_wp2
  go_ret
  exact ⟨rfl, rfl⟩
/-- A byte of a key is taken in. -/
def stepF (t : List Int) (x : Int) (b : Nat) : Int :=
  IntKind.u64.wrap (IntKind.u64.wrap (rotF (bits BinOp.xor IntKind.u64 (rotF x 5) (t.getD (b / 16) 0)) 7 + t.getD (b % 16) 0) * 11400714819323198485)
def hashGo (t : List Int) (s : Int) (l : List UInt8) : Int := l.foldl (fun x b => stepF t x b.toNat) s
theorem hashGo_snoc (t : List Int) (s : Int) (l : List UInt8) (b : UInt8) : hashGo t s (l ++ [b]) = stepF t (hashGo t s l) b.toNat := by simp [hashGo]
theorem take_byte (k : ByteArray) (i : Nat) (h : i < k.size) : k.data.toList.take (i + 1) = k.data.toList.take i ++ [k[i]] := by
  rw [List.take_succ_eq_append_getElem (by simpa using h)]; rfl
def hashF (t : List Int) (s : Int) (k : ByteArray) : Int :=
  bits BinOp.xor IntKind.u64 (hashGo t s k.data.toList) (hashGo t s k.data.toList / 4294967296)
theorem w64_step (t : List Int) (x : Int) (b : Nat) : W64 (stepF t x b) := by
  unfold stepF
  have := bounds_u64 (wf_wrap .u64 (IntKind.u64.wrap (rotF (bits BinOp.xor IntKind.u64 (rotF x 5) (t.getD (b / 16) 0)) 7 + t.getD (b % 16) 0) * 11400714819323198485))
  unfold W64; omega

theorem w64_hash (t : List Int) (s : Int) (k : ByteArray) : W64 (hashF t s k) := w64_bits _ _ _

/-- The seed of a row. -/
def seedF (s r : Int) : Int := IntKind.u64.wrap (s + IntKind.u64.wrap ((r + 1) * 15111065706836454659))
theorem w64_wrap (x : Int) : W64 (IntKind.u64.wrap x) := by
  have := bounds_u64 (wf_wrap .u64 x)
  unfold W64; omega
/-- What routing needs of a configuration. -/
structure RCfg (w : World) (c : Cfg) (t : List Int) : Prop where
  shards : 1 ≤ c.Shards ∧ c.Shards ≤ 8
  spread : 1 ≤ c.Spread ∧ c.Spread ≤ c.Shards
  table : RdL wordF 1 w c.Table t
  tlen : t.length = 16
  seed : W64 c.Seed
theorem RCfg.same {w w' : World} {c : Cfg} {t : List Int} (h : RCfg w c t) (hg : w.grownBy w' none) : RCfg w' c t := ⟨h.shards, h.spread, h.table.same hg, h.tlen, h.seed⟩
theorem RCfg.shape {w : World} {c : Cfg} {t : List Int} (h : RCfg w c t) : ∃ a k, c.Table = .slice a 16 k := by
  obtain ⟨a, k, e⟩ := h.table.shape
  rw [h.tlen] at e; exact ⟨a, k, e⟩
theorem rroutes_c (c : Cfg) (t : List Int) (w : World) (h : RCfg w c t) : Calls Try.prog 50 #[c.val] w (RetInt 0 w) := by
  obtain ⟨a, k, e⟩ := h.shape
  obtain ⟨h1, h2⟩ := h.shards
  obtain ⟨h3, h4⟩ := h.spread
  go_enter Try.func50, Try.ntmps50
  go_wp2_with (go_at_call 59; refine (rtable_c a k _).mono ?_; rintro e w' ⟨rfl, rfl⟩)
  go_ret
  exact retInt rfl (World.grownBy_alloc w _ _)

def homeF (c : Cfg) (t : List Int) (k : ByteArray) : Int := slotF (hashF t c.Seed k) c.Shards
theorem same_grown {e : Ending} {v : Value} {w w' : World} (h : e = .returned v ∧ w = w') : e = .returned v ∧ w.grownBy w' none := ⟨h.1, h.2 ▸ grownBy_refl _ _⟩
end Go.Proofs.Ytkdbapbmbhmaiaa

/- The order that picks determine: plain. -/
namespace Go.Proofs.Ytkdbapbmbhmaiaa

/-- The place that a pick chooses among n. -/
def pickAt (picks : List Int) (i n : Nat) : Nat := if i < picks.length then (picks.getD i 0 % (n : Int)).toNat else 0
theorem pickAt_lt (picks : List Int) (i n : Nat) (h : 0 < n) : pickAt picks i n < n := by
  unfold pickAt
  split
  · have a := Int.emod_nonneg (picks.getD i 0) (show (n : Int) ≠ 0 by omega)
    have b := Int.emod_lt_of_pos (picks.getD i 0) (show (0 : Int) < n by omega)
    omega
  · exact h
theorem pickAt_in (picks : List Int) (i n : Nat) (h : i < picks.length) (h0 : 0 < n) : ((pickAt picks i n : Nat) : Int) = picks.getD i 0 % (n : Int) := by
  unfold pickAt
  rw [if_pos h]
  have a := Int.emod_nonneg (picks.getD i 0) (show (n : Int) ≠ 0 by omega)
  omega
theorem pickAt_out (picks : List Int) (i n : Nat) (h : ¬ i < picks.length) : pickAt picks i n = 0 := by
  unfold pickAt; rw [if_neg h]
def ordGo (picks : List Int) : Nat → Nat → List Int → List Int
  | 0, _, _ => []
  | f + 1, i, L => L.getD (pickAt picks i L.length) 0 :: ordGo picks f (i + 1) (L.eraseIdx (pickAt picks i L.length))
def rangeI (n : Nat) : List Int := (List.range n).map (fun i : Nat => (i : Int))
theorem rangeI_len (n : Nat) : (rangeI n).length = n := by simp [rangeI]
theorem rangeI_succ (n : Nat) : rangeI (n + 1) = rangeI n ++ [(n : Int)] := by simp [rangeI, List.range_succ]
def order (picks : List Int) (n : Nat) : List Int := ordGo picks n 0 (rangeI n)
theorem ordGo_step (picks : List Int) (i : Nat) (L : List Int) (h : 0 < L.length) (O : List Int) :
    O ++ ordGo picks L.length i L = (O ++ [L.getD (pickAt picks i L.length) 0]) ++ ordGo picks (L.eraseIdx (pickAt picks i L.length)).length (i + 1) (L.eraseIdx (pickAt picks i L.length)) := by
  have hp := pickAt_lt picks i L.length h
  obtain ⟨f, hf⟩ : ∃ f, L.length = f + 1 := ⟨L.length - 1, by omega⟩
  have hl : (L.eraseIdx (pickAt picks i L.length)).length = f := by rw [List.length_eraseIdx]; rw [if_pos hp]; omega
  have e : ordGo picks L.length i L = L.getD (pickAt picks i L.length) 0 :: ordGo picks f (i + 1) (L.eraseIdx (pickAt picks i L.length)) := by
    conv => lhs; rw [hf]
    rfl
  rw [e, hl]; simp
theorem perm_eraseIdx : ∀ (L : List Int) (k : Nat) (h : k < L.length), (L[k] :: L.eraseIdx k).Perm L
  | x :: L, 0, _ => List.Perm.refl _
  | x :: L, k + 1, h => by
    simp only [List.getElem_cons_succ, List.eraseIdx_cons_succ]
    have hk : k < L.length := by simpa using h
    exact (List.Perm.swap x L[k] _).trans ((perm_eraseIdx L k (by simpa using h)).cons x)
theorem ordGo_perm (picks : List Int) : ∀ (n i : Nat) (L : List Int), L.length = n → (ordGo picks n i L).Perm L
  | 0, _, L, h => by rw [List.length_eq_zero_iff.1 h]; exact List.Perm.refl _
  | n + 1, i, L, h => by
    have hp := pickAt_lt picks i L.length (by omega)
    have h1 := ordGo_perm picks n (i + 1) (L.eraseIdx (pickAt picks i L.length)) (by rw [List.length_eraseIdx, if_pos hp]; omega)
    have h2 := perm_eraseIdx L _ hp
    refine List.Perm.trans ?_ h2
    have e : L.getD (pickAt picks i L.length) 0 = L[pickAt picks i L.length] := by simp [List.getD_eq_getElem?_getD, List.getElem?_eq_getElem hp]
    show (L.getD (pickAt picks i L.length) 0 :: _).Perm _
    rw [e]
    exact h1.cons _
theorem order_perm (picks : List Int) (n : Nat) : (order picks n).Perm (rangeI n) := ordGo_perm picks n 0 _ (rangeI_len n)
theorem order_len (picks : List Int) (n : Nat) : (order picks n).length = n := by rw [(order_perm picks n).length_eq, rangeI_len]
theorem order_count (picks : List Int) (n i : Nat) (h : i < n) : (order picks n).count (i : Int) = 1 := by
  rw [(order_perm picks n).count_eq, rangeI]
  have hn : (List.map (fun i : Nat => (i : Int)) (List.range n)).Nodup := by
    exact List.pairwise_map.2 (List.nodup_range.imp fun h e => h (Int.ofNat.inj e))
  rw [List.Nodup.count hn, if_pos]
  exact List.mem_map.2 ⟨i, List.mem_range.2 h, rfl⟩
end Go.Proofs.Ytkdbapbmbhmaiaa

/- The order of merging: merge.Order, its reference, slices.Delete, SameInts. -/
namespace Go.Proofs.Ytkdbapbmbhmaiaa
open Go.RowKit Go.Sort

theorem elt_int : Elt 23 3 (.int .i64 0) 1 8 := ⟨Try.underlying23, by kernel_rfl, rfl, by decide⟩
theorem one_int : OneF intF := by intro x u hu; simp [intF] at hu; subst hu; rfl
theorem cells_intF (l : List Int) : cellsOf intF l = l.map (fun x => Value.int .i64 x) := cells_int l
def sliceLen : Value → Nat
  | .slice _ n _ => n
  | _ => 0

end Go.Proofs.Ytkdbapbmbhmaiaa
