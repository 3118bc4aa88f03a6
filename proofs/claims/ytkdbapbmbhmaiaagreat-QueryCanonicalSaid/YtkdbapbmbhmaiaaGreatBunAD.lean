/- Several texts in one file; each begins with a comment that says what is proved in it. -/
import Derived.Test.YtkdbapbmbhmaiaaGreatBunAC
import Derived.Test.YtkdbapbmbhmaiaaGreatBunAB
import Derived.Test.YtkdbapbmbhmaiaaGreatBunAA
import Derived.Lib.QuietBelow
import Derived.Lib.MinMax
import Derived.StillTailTactics

/- Routing and hashing. -/
namespace Go.Proofs.YtkdbapbmbhmaiaaGreat
open Go.RowKit

def RetWordS (k : Int) (w : World) (e : Ending) (w' : World) : Prop := e = .returned (.int .u64 k) ∧ w = w'
def rotF (h k : Int) : Int := bits BinOp.or IntKind.u64 (IntKind.u64.wrap (h * 2 ^ k.toNat)) (h / 2 ^ (64 - k).toNat)
theorem w64_bits (op : BinOp) (a b : Int) : W64 (bits op IntKind.u64 a b) := by
  have h := bounds_u64 (wf_bits op IntKind.u64 a b)
  unfold W64; omega
theorem rot_c (h k : Int) (w : World) (_ : W64 h) (h2 : 1 ≤ k) (h3 : k ≤ 63) : Calls Tryz.prog 87 #[.int .u64 h, .int .u64 k] w (RetWordS (rotF h k) w) := by
  go_enter Tryz.func87, Tryz.ntmps87
  go_wp2
  go_ret
  exact ⟨rfl, rfl⟩
def slotF (h n : Int) : Int := h % n
theorem slotF_bd (h n : Int) (hn : 1 ≤ n) : 0 ≤ slotF h n ∧ slotF h n < n := ⟨Int.emod_nonneg _ (by omega), Int.emod_lt_of_pos _ (by omega)⟩
def RetIntS (k : Int) (w : World) (e : Ending) (w' : World) : Prop := e = .returned (.int .i64 k) ∧ w = w'
theorem slot_w (h n : Int) (h1 : W64 h) (h2 : 1 ≤ n) (h3 : n ≤ 4611686018427387904) : wrap64 (h.tmod n) = slotF h n := by
  have e : h.tmod n = h % n := Int.tmod_eq_emod_of_nonneg h1.1
  have := slotF_bd h n h2
  rw [e, wrap64]; unfold slotF at this ⊢; omega
theorem slot_c (h n : Int) (w : World) (h1 : W64 h) (h2 : 1 ≤ n) (h3 : n ≤ 4611686018427387904) : Calls Tryz.prog 74 #[.int .u64 h, .int .i64 n] w (RetIntS (slotF h n) w) := by
  have H := Lib.hid (slot_w h n h1 h2 h3)
  have hd : decide (n < 1) = false := decide_eq_false (by omega)
  go_enter Tryz.func74, Tryz.ntmps74
  go_wp2
  go_ret
  exact ⟨congrArg (fun i => Ending.returned (Value.int IntKind.i64 i)) H.out, rfl⟩
theorem hcheck_c (a : Option Addr) (c : Nat) (w : World) : Calls Tryz.prog 65 #[.slice a 16 c] w (RetIntS 0 w) := by
  go_enter Tryz.func65, Tryz.ntmps65
  go_wp2
  go_ret
  exact ⟨rfl, rfl⟩
theorem rtable_c (a : Option Addr) (c : Nat) (w : World) : Calls Tryz.prog 67 #[.slice a 16 c] w (RetIntS 0 w) := by
  go_enter Tryz.func67, Tryz.ntmps67
  go_wp2
  go_ret
  exact ⟨rfl, rfl⟩
/-- A byte of a key is taken in. -/
def stepF (t : List Int) (x : Int) (b : Nat) : Int :=
  IntKind.u64.wrap (IntKind.u64.wrap (rotF (bits BinOp.xor IntKind.u64 (rotF x 5) (t.getD (b / 16) 0)) 7 + t.getD (b % 16) 0) * 11400714819323198485)
def hashGo (t : List Int) (s : Int) (l : List UInt8) : Int := l.foldl (fun x b => stepF t x b.toNat) s
theorem hashGo_snoc (t : List Int) (s : Int) (l : List UInt8) (b : UInt8) : hashGo t s (l ++ [b]) = stepF t (hashGo t s l) b.toNat := by simp [hashGo]
theorem take_byte (k : ByteArray) (i : Nat) (h : i < k.size) : k.data.toList.take (i + 1) = k.data.toList.take i ++ [k[i]] := by
  rw [List.take_succ_eq_append_getElem (by simpa using h)]; rfl
def hashF (t : List Int) (s : Int) (k : ByteArray) : Int :=
  bits BinOp.xor IntKind.u64 (hashGo t s k.data.toList) (hashGo t s k.data.toList / 4294967296)
theorem w64_step (t : List Int) (x : Int) (b : Nat) : W64 (stepF t x b) := by
  unfold stepF
  have := bounds_u64 (wf_wrap .u64 (IntKind.u64.wrap (rotF (bits BinOp.xor IntKind.u64 (rotF x 5) (t.getD (b / 16) 0)) 7 + t.getD (b % 16) 0) * 11400714819323198485))
  unfold W64; omega

set_option maxHeartbeats 1000000 in
theorem hkey_c (v : Value) (t : List Int) (s : Int) (k : ByteArray) (w : World) (h : RdL wordF 1 w v t) (ht : t.length = 16) (hs : W64 s) (hk : k.size ≤ 9223372036854775807) :
    Calls Tryz.prog 75 #[v, .int .u64 s, .string k] w (RetWord (hashF t s k) w) := by
  obtain ⟨a, c, rfl⟩ := h.shape
  have H := Lib.hid h
  have hn : ((16 : Int) != 16) = false := by decide
  have Hx := Lib.hid (p := hashF t s k = bits BinOp.xor IntKind.u64 (hashGo t s k.data.toList) (hashGo t s k.data.toList / 4294967296)) rfl
  rw [ht]
  clear h
  go_enter Tryz.func75, Tryz.ntmps75
  go_wp2_with (go_at_call 65; refine (hcheck_c _ _ _).mono ?_; rintro e w' ⟨rfl, rfl⟩)
  go_loopw [7, 16] (fun s7 s16 wr => ∃ (i : Nat) (x : Int), i ≤ k.size ∧ s16 = .int .i64 i ∧ s7 = .int .u64 x ∧ x = hashGo t s (k.data.toList.take i) ∧ W64 x ∧ w.grownBy wr none) (fun _ s16 _ => k.size - (intOf s16).toNat)
  case atStart => exact ⟨0, s, Nat.zero_le _, rfl, rfl, rfl, hs, grownBy_refl _ _⟩
  case round =>
    obtain ⟨i, x, hi, rfl, rfl, hxe, hx, hg⟩ := hrel
    have He := Lib.hid hxe
    clear hxe
    by_cases hlt : i < k.size
    · go_upto_region 8 with fail
      have HT := Lib.hid (take_byte k i hlt)
      have HS := Lib.hid (hashGo_snoc t s (k.data.toList.take i) k[i])
      have hb : k[i].toNat < 256 := k[i].toNat_lt
      generalize k[i].toNat = b at *
      have hq : b / 16 < t.length := by omega
      have hr : b % 16 < t.length := by omega
      obtain ⟨g, off, cap, hv, hgl, c1⟩ := (H.out.same hg).one word_one hq
      cases hv
      obtain ⟨g', off', cap', hv', hgl', c2⟩ := (H.out.same hg).one word_one hr
      cases hv'
      have e1 : t.getD (b / 16) 0 = t[b / 16] := by simp [List.getD_eq_getElem?_getD, List.getElem?_eq_getElem hq]
      have e2 : t.getD (b % 16) 0 = t[b % 16] := by simp [List.getD_eq_getElem?_getD, List.getElem?_eq_getElem hr]
      have Hst := Lib.hid (p := stepF t x b = IntKind.u64.wrap (IntKind.u64.wrap (rotF (bits BinOp.xor IntKind.u64 (rotF x 5) t[b / 16]) 7 + t[b % 16]) * 11400714819323198485)) (by unfold stepF; rw [e1, e2])
      have hws := w64_step t x b
      have hwb := w64_bits BinOp.xor (rotF x 5) t[b / 16]
      have q1 : (0 : Int) ≤ (b : Int) / 16 := by omega
      have q2 : (b : Int) / 16 < 16 := by omega
      have q3 : ((b : Int) / 16).toNat = b / 16 := by omega
      have q4 : (0 : Int) ≤ (b : Int) % 16 := by omega
      have q5 : (b : Int) % 16 < 16 := by omega
      have q6 : ((b : Int) % 16).toNat = b % 16 := by omega
      generalize t[b / 16] = y1 at *
      generalize t[b % 16] = y2 at *
      clear e1 e2 hq hr
      go_quiet ((go_at_call 87; exact Calls.quiet_of_same ((rot_c x 5 _ hx (by omega) (by omega)).mono fun _ _ ⟨he, hw⟩ => ⟨he, hw.symm⟩)))
      generalize bits BinOp.xor IntKind.u64 (rotF x 5) y1 = x1 at *
      have c2q : (wr.drewN nq).cell? ⟨g, off + b % 16, none⟩ = some (.int .u64 y2) := c2
      have hgq := grownBy_drewN hg nq
      clear c1 c2 hgl hgl' hg
      generalize wr.drewN nq = wq at *
      go_upto_region 9 with fail
      go_quiet ((go_at_call 87; exact Calls.quiet_of_same ((rot_c x1 7 _ hwb (by omega) (by omega)).mono fun _ _ ⟨he, hw⟩ => ⟨he, hw.symm⟩)))
      clear q1 q2 q3 q4 q5 q6
      go_wp2_with fail
      exact ⟨⟨i + 1, _, by omega, by go_num, rfl, by rw [HT.out, HS.out, ← He.out, Hst.out], by rw [← Hst.out]; exact hws, grownBy_drewN hgq _⟩, by simp [intOf]; omega⟩
    · have hl : k.data.toList.take i = k.data.toList := List.take_of_length_le (by simp; omega)
      have h3 : hashF t s k = bits BinOp.xor IntKind.u64 x (x / 4294967296) := by rw [Hx.out, He.out, hl]
      have H3 := Lib.hid h3
      clear h3 hl
      go_wp2_with fail
      go_ret
      exact retWord H3.out hg
theorem w64_hash (t : List Int) (s : Int) (k : ByteArray) : W64 (hashF t s k) := w64_bits _ _ _

/-- The seed of a row. -/
def seedF (s r : Int) : Int := IntKind.u64.wrap (s + IntKind.u64.wrap ((r + 1) * 15111065706836454659))
theorem w64_wrap (x : Int) : W64 (IntKind.u64.wrap x) := by
  have := bounds_u64 (wf_wrap .u64 x)
  unfold W64; omega
theorem hrow_c (v : Value) (t : List Int) (s r : Int) (k : ByteArray) (w : World) (h : RdL wordF 1 w v t) (ht : t.length = 16) (_ : W64 s) (hr0 : 0 ≤ r) (hr1 : r ≤ 1000) (hk : k.size ≤ 9223372036854775807) :
    Calls Tryz.prog 104 #[v, .int .u64 s, .int .i64 r, .string k] w (RetWord (hashF t (seedF s r) k) w) := by
  go_enter Tryz.func104, Tryz.ntmps104
  go_wp2_with (go_at_call 75; refine (hkey_c v t (seedF s r) k _ h ht (w64_wrap _) hk).mono ?_; rintro e w' ⟨rfl, G⟩)
  go_ret
  exact retWord rfl G
/-- What routing needs of a configuration. -/
structure RCfg (w : World) (c : Cfg) (t : List Int) : Prop where
  shards : 1 ≤ c.Shards ∧ c.Shards ≤ 8
  spread : 1 ≤ c.Spread ∧ c.Spread ≤ c.Shards
  table : RdL wordF 1 w c.Table t
  tlen : t.length = 16
  seed : W64 c.Seed
theorem RCfg.same {w w' : World} {c : Cfg} {t : List Int} (h : RCfg w c t) (hg : w.grownBy w' none) : RCfg w' c t := ⟨h.shards, h.spread, h.table.same hg, h.tlen, h.seed⟩
theorem RCfg.shape {w : World} {c : Cfg} {t : List Int} (h : RCfg w c t) : ∃ a k, c.Table = .slice a 16 k := by
  obtain ⟨a, k, e⟩ := h.table.shape
  rw [h.tlen] at e; exact ⟨a, k, e⟩
theorem routeCheck_c (c : Cfg) (t : List Int) (w : World) (h : RCfg w c t) : Calls Tryz.prog 52 #[c.val] w (RetInt 0 w) := by
  obtain ⟨a, k, e⟩ := h.shape
  obtain ⟨h1, h2⟩ := h.shards
  obtain ⟨h3, h4⟩ := h.spread
  go_enter Tryz.func52, Tryz.ntmps52
  go_wp2_with (go_at_call 65; refine (hcheck_c a k _).mono ?_; rintro e w' ⟨rfl, rfl⟩)
  go_ret
  exact retInt rfl (World.grownBy_alloc w _ _)
theorem rroutes_c (c : Cfg) (t : List Int) (w : World) (h : RCfg w c t) : Calls Tryz.prog 55 #[c.val] w (RetInt 0 w) := by
  obtain ⟨a, k, e⟩ := h.shape
  obtain ⟨h1, h2⟩ := h.shards
  obtain ⟨h3, h4⟩ := h.spread
  go_enter Tryz.func55, Tryz.ntmps55
  go_wp2_with (go_at_call 67; refine (rtable_c a k _).mono ?_; rintro e w' ⟨rfl, rfl⟩)
  go_ret
  exact retInt rfl (World.grownBy_alloc w _ _)

def homeF (c : Cfg) (t : List Int) (k : ByteArray) : Int := slotF (hashF t c.Seed k) c.Shards
theorem same_grown {e : Ending} {v : Value} {w w' : World} (h : e = .returned v ∧ w = w') : e = .returned v ∧ w.grownBy w' none := ⟨h.1, h.2 ▸ grownBy_refl _ _⟩
set_option maxHeartbeats 400000 in
set_option maxRecDepth 100000 in
theorem home_c (c : Cfg) (t : List Int) (k : ByteArray) (w : World) (h : RCfg w c t) (hk : k.size ≤ 9223372036854775807) : Calls Tryz.prog 59 #[c.val, .string k] w (RetInt (homeF c t k) w) := by
  have H := Lib.hid h
  obtain ⟨h1, h2⟩ := h.shards
  have hs := h.seed
  clear h
  go_enter Tryz.func59, Tryz.ntmps59
  go_upto_region 3 with (first | (refine box_cfg rfl _ rfl c rfl ?_; intro w1 B1 G1 z1) | (refine load_cfg rfl _ rfl _ rfl c (by assumption) ?_) | (go_at_call 52; refine (routeCheck_c c t _ (H.out.same G1)).mono ?_; rintro e w2 ⟨rfl, G2⟩))
  have G := grownBy_trans G1 G2
  obtain ⟨r1, r2, r3⟩ := (B1.same G2).re
  have r4 := call_re (w := w2) fun w' hg => hkey_c c.Table t c.Seed k w' (H.out.same (grownBy_trans G hg)).table H.out.tlen hs hk
  have r5 := call_re (w := w2) fun w' hg => (slot_c (hashF t c.Seed k) c.Shards w' (w64_hash _ _ _) h1 (by omega)).mono fun _ _ => same_grown
  (refine Tail.wp_region_tail_grown 10 (by kernel_rfl) (by kernel_rfl) ?_; simp only [List.take, List.drop]; (repeat (go_big_quiet_step (first | (with_reducible exact r4 _ _) | (with_reducible exact r5 _ _)))); refine wpQuiet_nil ?_; rintro _ ⟨⟨d5, os5⟩, rfl⟩)
  have G5 := grownBy_trans G (grown_re w2 d5 os5)
  clear r1 r2 r3 r4 r5
  go_wp2_with fail
  go_ret
  exact retInt rfl G5
end Go.Proofs.YtkdbapbmbhmaiaaGreat

/- A block of the call's own that is known whole. -/
namespace Go.Proofs.YtkdbapbmbhmaiaaGreat
open Go.RowKit

structure Blk (w : World) (g : Nat) (cs : Array Value) : Prop where
  blk : ∃ t, w.heap[g]? = some (.cells cs t (0, 0))
theorem Blk.lt {w : World} {g : Nat} {cs : Array Value} (h : Blk w g cs) : g < w.heap.size := by
  obtain ⟨t, h⟩ := h.blk; exact (Array.getElem?_eq_some_iff.1 h).1
theorem Blk.cell {w : World} {g : Nat} {cs : Array Value} (h : Blk w g cs) (i : Nat) : w.cell? ⟨g, i, none⟩ = cs[i]? := by
  obtain ⟨t, h⟩ := h.blk; simp [World.cell?, h]
theorem Blk.free {w : World} {g : Nat} {cs : Array Value} (h : Blk w g cs) (i : Nat) : w.frozen? ⟨g, i, none⟩ = false := by
  obtain ⟨t, h⟩ := h.blk; simp [World.frozen?, h]
theorem Blk.kept {w w' : World} {g : Nat} {cs : Array Value} {r : Option Nat} (h : Blk w g cs) (hg : w.grownBy w' r) (hr : r ≠ some g) : Blk w' g cs := by
  have hl := h.lt
  obtain ⟨t, h⟩ := h.blk
  exact ⟨t, (hg.block g hl (fun e => hr e.symm)).trans h⟩
theorem Blk.same {w w' : World} {g : Nat} {cs : Array Value} (h : Blk w g cs) (hg : w.grownBy w' none) : Blk w' g cs := h.kept hg (by simp)
theorem Blk.set {w : World} {g : Nat} {cs : Array Value} (h : Blk w g cs) (i : Nat) (v : Value) : Blk (w.setCell ⟨g, i, none⟩ v) g (cs.setIfInBounds i v) := by
  obtain ⟨t, h⟩ := h.blk
  exact ⟨t, heap_set v h⟩
theorem Blk.off {w : World} {g g' : Nat} {cs : Array Value} (h : Blk w g cs) (hne : g' ≠ g) (i : Nat) (v : Value) : Blk (w.setCell ⟨g', i, none⟩ v) g cs :=
  h.kept (grownBy_set (grownBy_refl w (some g')) i v) (by simpa using hne)
theorem Blk.drew {w : World} {g : Nat} {cs : Array Value} (h : Blk w g cs) (n : Nat) : Blk (w.drewN n) g cs := ⟨h.blk⟩
theorem Blk.drew1 {w : World} {g : Nat} {cs : Array Value} (h : Blk w g cs) : Blk w.drew g cs := ⟨h.blk⟩
theorem Blk.new (w : World) (cs : Array Value) (t : TypeId) : Blk (w.alloc (.cells cs t)) w.heap.size cs := ⟨t, heap_alloc_new w _⟩
theorem Blk.new' (w : World) (cs : Array Value) (t : TypeId) {g : Nat} (h : g = w.heap.size) : Blk (w.alloc (.cells cs t)) g cs := h ▸ Blk.new w cs t
theorem Blk.set_ {w : World} {g : Nat} {cs cs' : Array Value} (h : Blk w g cs) (i : Nat) (v : Value) (he : cs.setIfInBounds i v = cs') : Blk (w.setCell ⟨g, i, none⟩ v) g cs' := he ▸ h.set i v
open Go.Sort in
/-- What is known of the block in every world that has grown out of this one. -/
theorem Blk.re {w : World} {g : Nat} {cs : Array Value} (h : Blk w g cs) : ∀ d os i, (grow (redrawn w d) os).cell? ⟨g, i, none⟩ = cs[i]? :=
  fun d os i => (h.same (grown_re w d os)).cell i
end Go.Proofs.YtkdbapbmbhmaiaaGreat

/- Sizing: which configurations are valid, the keys that are tracked: the program, for a valid configuration. -/
namespace Go.Proofs.YtkdbapbmbhmaiaaGreat
open Go.RowKit Go.Sort
attribute [local go_sem ↓] exec_load_cfg
attribute [local go_sem] run_loadCfgS

theorem between_t (n lo hi : Int) (w : World) (h1 : lo ≤ n) (h2 : n ≤ hi) : Calls Tryz.prog 66 #[.int .i64 n, .int .i64 lo, .int .i64 hi] w fun e w' => e = .returned (.bool true) ∧ w' = w := by
  have d1 : decide (lo ≤ n) = true := decide_eq_true h1
  have d2 : decide (n ≤ hi) = true := decide_eq_true h2
  go_enter Tryz.func66, Tryz.ntmps66
  go_wp2_with fail
  go_ret
  exact ⟨rfl, rfl⟩
theorem CfgMem.rcfg {c : Cfg} {l : List (Int × Int)} {t : List Int} {w : World} (h : CfgMem c l t w) (hn : CfgNums c) : RCfg w c t := ⟨hn.shards, hn.spread, h.table, h.tlen, by have := hn.seed; unfold W64; omega⟩
theorem CfgNums.cokN {c : Cfg} (h : CfgNums c) : cok c = true := decide_eq_true ⟨h.length.1, h.length.2, h.lateness.1, h.lateness.2, h.windows.1, h.windows.2⟩
set_option maxHeartbeats 1000000 in
theorem numbers_c (c : Cfg) (w : World) (hn : CfgNums c) : Calls Tryz.prog 53 #[c.val] w (RetBool true w) := by
  obtain ⟨a1, a2⟩ := hn.queue
  obtain ⟨b1, b2⟩ := hn.slots
  obtain ⟨c1, c2⟩ := hn.exact
  obtain ⟨d1, d2⟩ := hn.depth
  obtain ⟨e1, e2⟩ := hn.width
  obtain ⟨f1, f2⟩ := hn.top
  obtain ⟨g1, g2⟩ := hn.key
  rcases hn.mode with hm | hm
  · have m1 : (c.Mode == 1) = true := by simp [hm]
    clear hn hm
    go_enter Tryz.func53, Tryz.ntmps53
    go_upto_region 1 with (refine box_cfg rfl _ rfl c rfl ?_; intro w1 B1 G1 z1)
    have bb := B1.cell
    go_wp2_with (go_at_call 66; refine (between_t _ _ _ _ (by omega) (by omega)).mono ?_; rintro e w' ⟨rfl, hw'⟩; subst w')
    go_ret
    exact retBool rfl G1
  · have m1 : (c.Mode == 1) = false := by simp [hm]
    have m2 : (c.Mode == 2) = true := by simp [hm]
    clear hn hm
    go_enter Tryz.func53, Tryz.ntmps53
    go_upto_region 1 with (refine box_cfg rfl _ rfl c rfl ?_; intro w1 B1 G1 z1)
    have bb := B1.cell
    go_wp2_with (go_at_call 66; refine (between_t _ _ _ _ (by omega) (by omega)).mono ?_; rintro e w' ⟨rfl, hw'⟩; subst w')
    go_ret
    exact retBool rfl G1

set_option maxHeartbeats 1000000 in
theorem acheckA_c (v : Value) (l : List (Int × Int)) (w : World) (h : RdL clsF 2 w v l) (hok : ClsOk l) : Calls Tryz.prog 33 #[v] w (RetInt 0 w) := by
  obtain ⟨a, cp, rfl⟩ := h.shape
  have hm := h.2.1
  have H := Lib.hid h
  have hp0 := hok.pos
  have hp8 := hok.len
  have HK := Lib.hid hok
  clear h hok
  have hz : ((l.length : Int) == 0) = false := by rw [beq_eq_false_iff_ne]; omega
  go_enter Tryz.func33, Tryz.ntmps33
  go_upto_region 4 with fail
  go_loopw [15] (fun s15 wk => ∃ k : Nat, k ≤ l.length ∧ s15 = .int .i64 k ∧ w.grownBy wk none) (fun s15 _ => l.length - (intOf s15).toNat)
  case atStart => exact ⟨0, Nat.zero_le _, rfl, grownBy_refl _ _⟩
  case round =>
    obtain ⟨k, hk, rfl, hg⟩ := hrel
    by_cases hlt : k < l.length
    · have R := RdL.same H.out hg
      obtain ⟨gx, ox, cx, hv, hgx, hcx⟩ := R.at_ clsF_len hlt
      cases hv
      have c0 := hcx 0 _ rfl
      have c1 := hcx 1 _ rfl
      rw [Nat.add_zero] at c0
      obtain ⟨s1, s2, s3, s4⟩ := HK.out.size k _ (List.getElem?_eq_getElem hlt)
      clear hcx
      have HP := Lib.hid (p := ∀ j, k = j + 1 → ∃ (hj : j < l.length), l[j].1 < l[k].1) (fun j e => by
        subst e
        exact ⟨by omega, HK.out.asc j _ _ (List.getElem?_eq_getElem (by omega)) (List.getElem?_eq_getElem hlt)⟩)
      generalize l[k] = p at *
      obtain ⟨sz, cn⟩ := p
      dsimp only at *
      have G2 := grownBy_new_block hg (.cells #[.int .i64 sz, .int .i64 cn] 72)
      have RW := Lib.hid (R.same (World.grownBy_alloc wr (.cells #[.int .i64 sz, .int .i64 cn] 72) none))
      go_upto_region 8 with fail
      have A2 := (Blk.new wr #[.int .i64 sz, .int .i64 cn] 72)
      generalize wr.alloc (.cells #[.int .i64 sz, .int .i64 cn] 72) = w2 at *
      generalize wr.heap.size = gk at *
      have a2 := A2.cell
      clear c0 c1
      by_cases h0 : k = 0
      · subst h0
        have d0 : decide ((0 : Int) < ((0 : Nat) : Int)) = false := rfl
        go_quiet (fail)
        go_wp2_with fail
        exact ⟨⟨1, by omega, by go_num, grownBy_drewN G2 _⟩, by simp [intOf]; omega⟩
      · obtain ⟨j, rfl⟩ : ∃ j, k = j + 1 := ⟨k - 1, by omega⟩
        obtain ⟨hj, hlt2⟩ := HP.out j rfl
        obtain ⟨gy, oy, cy, hv2, -, hcy⟩ := RW.out.at_ clsF_len hj
        cases hv2
        have e0 := hcy 0 _ rfl
        rw [Nat.add_zero] at e0
        generalize l[j] = p at *
        obtain ⟨sz2, cn2⟩ := p
        dsimp only at *
        have d0 : decide ((0 : Int) < ((j + 1 : Nat) : Int)) = true := decide_eq_true (by omega)
        have d1 : decide (sz ≤ sz2) = false := decide_eq_false (by omega)
        have q1 : ((j + 1 : Nat) : Int) - 1 = (j : Int) := by omega
        have q2 : IntKind.i64.wrap (((j + 1 : Nat) : Int) - 1) = (j : Int) := by rw [IntWalk.i64_in _ (by omega)]; omega
        have q3 : (j : Int) < (l.length : Int) := by omega
        clear hcy
        go_quiet (fail)
        go_wp2_with fail
        exact ⟨⟨j + 1 + 1, by omega, by go_num, grownBy_drewN G2 _⟩, by simp [intOf]; omega⟩
    · go_wp2_with fail
      go_ret
      exact retInt rfl hg

theorem checkV_0 {c : Cfg} (h : CfgNums c) : checkV c = 0 := by simp [checkV, h.cokN]
set_option maxHeartbeats 1000000 in
set_option maxRecDepth 100000 in
theorem sizCheck_c (c : Cfg) (l : List (Int × Int)) (t : List Int) (w : World) (hn : CfgNums c) (hm : CfgMem c l t w) (hc : CfgCls c l) : Calls Tryz.prog 34 #[c.val] w (RetInt 0 w) := by
  obtain ⟨a9, a10⟩ := hn.width
  obtain ⟨a13, a14⟩ := hn.key
  have hp := hc.ok.pos
  obtain ⟨g, off, cap, hv, hgl, hcl⟩ := hm.classes.cell clsF_len hp
  obtain ⟨p, hlast⟩ : ∃ p, l[l.length - 1]? = some p := ⟨l[l.length - 1], List.getElem?_eq_getElem (by omega)⟩
  have c0 : w.cell? ⟨g, off + (l.length - 1) * 2, none⟩ = some (.int .i64 p.1) := hcl _ p hlast 0 _ rfl
  obtain ⟨q1, q2, q3⟩ := hc.last p hlast
  have e1 : ((l.length : Int) - 1).toNat = l.length - 1 := by omega
  have e2 : (1 : Int) ≤ l.length := by omega
  have e3 : (0 : Int) ≤ (l.length : Int) - 1 := by omega
  have e4 : 1 ≤ l.length := hp
  have e5 : l.length ≤ 8 := hc.ok.len
  have b15 : decide (p.1 < max (max (max (8 * c.Width) 32) 24) c.Key) = false := decide_eq_false (by omega)
  have C1 := Lib.hid fun w' => ccheck_c c w'
  have C2 := Lib.hid fun w' (g : w.grownBy w' none) => routeCheck_c c t w' ((hm.same g).rcfg hn)
  have C3 := Lib.hid fun w' => numbers_c c w' hn
  have C4 := Lib.hid fun w' (g : w.grownBy w' none) => acheckA_c _ l w' (hm.same g).classes hc.ok
  rw [checkV_0 hn] at C1
  have Hv := Lib.hid hv
  rw [hv] at C4
  clear hn hm hc hcl hlast hv
  go_enter Tryz.func34, Tryz.ntmps34
  go_upto_region 1 with (refine box_cfg rfl _ rfl c rfl ?_; intro w1 B1 G1 z1)
  go_upto_region 3 with (first
    | (refine load_cfg rfl _ rfl _ rfl c (by assumption) ?_)
    | (refine load_cfg_if rfl _ rfl _ rfl c (by assumption) ?_)
    | (go_at_call 51; refine (C1.out _).mono ?_; rintro e w2 ⟨rfl, G2⟩; have B2 := B1.same G2; have K2 := grownBy_trans G1 G2; clear B1 G1 G2)
    | (go_at_call 52; refine (C2.out _ K2).mono ?_; rintro e w3 ⟨rfl, G3⟩; have B3 := B2.same G3; have K3 := grownBy_trans K2 G3; clear B2 G3 K2)
    | (go_at_call 53; refine (C3.out _).mono ?_; rintro e w4 ⟨rfl, G4⟩; have B4 := B3.same G4; have K4 := grownBy_trans K3 G4; clear B3 G4 K3; have hb4 := B4.cell; simp only [Cfg.arr, Hv.out] at hb4)
    | (go_at_call 33; refine (C4.out _ K4).mono ?_; rintro e w5 ⟨rfl, G5⟩; have B5 := B4.same G5; have K5 := grownBy_trans K4 G5; clear G5 hb4))
  have hb5 := B5.cell
  simp only [Cfg.arr, Hv.out] at hb5
  have hc5 := ((grownBy_cells K5).1 _ (off + (l.length - 1) * 2) hgl (by simp)).trans c0
  clear C1 C2 C3 C4
  go_quiet (fail)
  go_wp2_with fail
  go_ret
  exact retInt rfl (grownBy_drewN K5 _)

set_option maxHeartbeats 400000 in
theorem sizTrk_c (c : Cfg) (l : List (Int × Int)) (t : List Int) (w : World) (hn : CfgNums c) (hm : CfgMem c l t w) (hc : CfgCls c l) : Calls Tryz.prog 15 #[c.val] w (RetInt (trkN c) w) := by
  have T := trkN_bd hn
  obtain ⟨a1, a2⟩ := hn.shards
  obtain ⟨a3, a4⟩ := hn.windows
  obtain ⟨a5, a6⟩ := hn.slots
  obtain ⟨a7, a8⟩ := hn.exact
  have m1 : c.Shards * c.Windows ≤ 64 := by
    have := Int.mul_le_mul a2 a4 (by omega) (by omega); simpa using this
  have m0 : 0 ≤ c.Shards * c.Windows := Int.mul_nonneg (by omega) (by omega)
  unfold trkN at T ⊢
  obtain ⟨m3, m2⟩ := T
  have C := Lib.hid fun w' (g : w.grownBy w' none) => sizCheck_c c l t w' hn (hm.same g) hc
  clear hn hm hc
  go_enter Tryz.func15, Tryz.ntmps15
  go_upto_region 1 with (refine box_cfg rfl _ rfl c rfl ?_; intro w1 B1 G1 z1)
  go_wp2_with (first
    | (refine load_cfg rfl _ rfl _ rfl c (by assumption) ?_)
    | (go_at_call 34; refine (C.out _ G1).mono ?_; rintro e w2 ⟨rfl, G2⟩; have hb2 := (BoxAt.same (by assumption) G2).cell))
  go_ret
  exact retInt rfl (grownBy_trans G1 G2)
end Go.Proofs.YtkdbapbmbhmaiaaGreat

/- Stores into slices of the call's own. -/
namespace Go.Proofs.YtkdbapbmbhmaiaaGreat
open Go.RowKit

theorem cellsOf_set {α : Type} {f : α → List Value} {s : Nat} (hs : ∀ x, (f x).length = s) : ∀ {l : List α} {i j : Nat} {u : Value} {y : α}, (hi : i < l.length) → j < s → f y = (f l[i]).set j u → cellsOf f (l.set i y) = (cellsOf f l).set (i * s + j) u
  | [], i, _, _, _, hi, _, _ => by simp at hi
  | a :: l, 0, j, u, y, _, hj, hy => by
    simp only [List.set_cons_zero, cellsOf, List.flatMap_cons, Nat.zero_mul, Nat.zero_add]
    rw [List.set_append_left _ _ (by rw [hs]; exact hj)]
    rw [hy]; rfl
  | a :: l, i + 1, j, u, y, hi, hj, hy => by
    have ih := cellsOf_set hs (l := l) (i := i) (j := j) (u := u) (y := y) (by simpa using hi) hj (by simpa using hy)
    simp only [List.set_cons_succ, cellsOf, List.flatMap_cons] at *
    rw [ih, List.set_append_right _ _ (by rw [hs, Nat.add_mul]; omega), hs]
    congr 2
    rw [Nat.add_mul]; omega
/-- One cell of an element is stored. -/
theorem Own.stored {α : Type} {f : α → List Value} {s : Nat} {e : TypeId} {B : Nat} {w : World} {g n cap : Nat} {l : List α} (h : Own f s e B w (.slice (some ⟨g, 0, none⟩) n cap) l) (hs : ∀ x, (f x).length = s) {i j : Nat} (hi : i < l.length) (hj : j < s) (u : Value) (y : α) (hy : f y = (f l[i]).set j u) :
    Own f s e B (w.setCell ⟨g, i * s + j, none⟩ u) (.slice (some ⟨g, 0, none⟩) n cap) (l.set i y) ∧ w.grownBy (w.setCell ⟨g, i * s + j, none⟩ u) (some g) := by
  obtain ⟨a, c, hv⟩ := h.shape
  cases hv
  have := World.ownsRow.stored (w := w) (base := B) (e := e) (size := s) (g := g) (n := l.length) (cap := cap) (xs := cellsOf f l) h (i * s + j) u
  refine ⟨?_, this.2⟩
  unfold Own
  rw [cellsOf_set hs hi hj hy, List.length_set]
  exact this.1
theorem Own.at_ {α : Type} {f : α → List Value} {s : Nat} {e : TypeId} {B : Nat} {w : World} {v : Value} {l : List α} (h : Own f s e B w v l) (hs : ∀ x, (f x).length = s) {i : Nat} (hi : i < l.length) :
    ∃ g cap, v = .slice (some ⟨g, 0, none⟩) l.length cap ∧ B ≤ g ∧ g < w.heap.size ∧ l.length ≤ cap ∧ (∀ j u, (f l[i])[j]? = some u → w.cell? ⟨g, i * s + j, none⟩ = some u) ∧ ∀ j, w.frozen? ⟨g, j, none⟩ = false := by
  have hR := h.rd
  have hlt := h.lt
  rcases h.2 with ⟨rfl, h0⟩ | ⟨g, cap, cur, rfl, hb, hg, h1, h2, _⟩
  · omega
  · obtain ⟨g', off, cap', hv, hg', hc⟩ := hR.at_ hs hi
    cases hv
    refine ⟨g, cap, rfl, hb, hg', h1, fun j u hu => by simpa using hc j u hu, fun j => World.ownsRow.frozenAt (n := l.length) (cap := cap) h j⟩
end Go.Proofs.YtkdbapbmbhmaiaaGreat
