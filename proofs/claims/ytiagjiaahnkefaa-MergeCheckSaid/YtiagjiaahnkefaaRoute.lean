/- Routing and hashing. -/
import Derived.Test.YtiagjiaahnkefaaSum
import Derived.Test.YtiagjiaahnkefaaOut
namespace Go.Proofs.Ytiagjiaahnkefaa
open Go.RowKit

def RetWordS (k : Int) (w : World) (e : Ending) (w' : World) : Prop := e = .returned (.int .u64 k) ∧ w = w'
def rotF (h k : Int) : Int := bits BinOp.or IntKind.u64 (IntKind.u64.wrap (h * 2 ^ k.toNat)) (h / 2 ^ (64 - k).toNat)
theorem w64_bits (op : BinOp) (a b : Int) : W64 (bits op IntKind.u64 a b) := by
  have h := bounds_u64 (wf_bits op IntKind.u64 a b)
  unfold W64; omega
theorem rot_c (h k : Int) (w : World) (_ : W64 h) (h2 : 1 ≤ k) (h3 : k ≤ 63) : Calls Try.prog 121 #[.int .u64 h, .int .u64 k] w (RetWordS (rotF h k) w) := by
  go_enter Try.func121, Try.ntmps121
  go_wp2
  go_ret
  exact ⟨rfl, rfl⟩
theorem rrot_c (h k : Int) (w : World) (_ : W64 h) (h2 : 1 ≤ k) (h3 : k ≤ 63) : Calls Try.prog 146 #[.int .u64 h, .int .u64 k] w (RetWordS (rotF h k) w) := by
  go_enter Try.func146, Try.ntmps146
  go_wp2
  go_ret
  exact ⟨rfl, rfl⟩

def slotF (h n : Int) : Int := h % n
theorem slotF_bd (h n : Int) (hn : 1 ≤ n) : 0 ≤ slotF h n ∧ slotF h n < n := ⟨Int.emod_nonneg _ (by omega), Int.emod_lt_of_pos _ (by omega)⟩
def RetIntS (k : Int) (w : World) (e : Ending) (w' : World) : Prop := e = .returned (.int .i64 k) ∧ w = w'
theorem slot_w (h n : Int) (h1 : W64 h) (h2 : 1 ≤ n) (h3 : n ≤ 4611686018427387904) : wrap64 (h.tmod n) = slotF h n := by
  have e : h.tmod n = h % n := Int.tmod_eq_emod_of_nonneg h1.1
  have := slotF_bd h n h2
  rw [e, wrap64]; unfold slotF at this ⊢; omega
theorem slot_c (h n : Int) (w : World) (h1 : W64 h) (h2 : 1 ≤ n) (h3 : n ≤ 4611686018427387904) : Calls Try.prog 104 #[.int .u64 h, .int .i64 n] w (RetIntS (slotF h n) w) := by
  have H := Lib.hid (slot_w h n h1 h2 h3)
  have hd : decide (n < 1) = false := decide_eq_false (by omega)
  go_enter Try.func104, Try.ntmps104
  go_wp2
  go_ret
  exact ⟨congrArg (fun i => Ending.returned (Value.int IntKind.i64 i)) H.out, rfl⟩
theorem rslot_c (h n : Int) (w : World) (h1 : W64 h) (h2 : 1 ≤ n) (h3 : n ≤ 4611686018427387904) : Calls Try.prog 136 #[.int .u64 h, .int .i64 n] w (RetIntS (slotF h n) w) := by
  have H := Lib.hid (slot_w h n h1 h2 h3)
  have hd : decide (n < 1) = false := decide_eq_false (by omega)
  go_enter Try.func136, Try.ntmps136
  go_wp2
  go_ret
  exact ⟨congrArg (fun i => Ending.returned (Value.int IntKind.i64 i)) H.out, rfl⟩

theorem hcheck_c (a : Option Addr) (c : Nat) (w : World) : Calls Try.prog 103 #[.slice a 16 c] w (RetIntS 0 w) := by
  go_enter Try.func103, Try.ntmps103
  go_wp2
  go_ret
  exact ⟨rfl, rfl⟩
theorem rtable_c (a : Option Addr) (c : Nat) (w : World) : Calls Try.prog 110 #[.slice a 16 c] w (RetIntS 0 w) := by
  go_enter Try.func110, Try.ntmps110
  go_wp2
  go_ret
  exact ⟨rfl, rfl⟩
/-- A byte of a key is taken in. -/
def stepF (t : List Int) (x : Int) (b : Nat) : Int :=
  IntKind.u64.wrap (IntKind.u64.wrap (rotF (bits BinOp.xor IntKind.u64 (rotF x 5) (t.getD (b / 16) 0)) 7 + t.getD (b % 16) 0) * 11400714819323198485)
def hashGo (t : List Int) (s : Int) (l : List UInt8) : Int := l.foldl (fun x b => stepF t x b.toNat) s
theorem hashGo_snoc (t : List Int) (s : Int) (l : List UInt8) (b : UInt8) : hashGo t s (l ++ [b]) = stepF t (hashGo t s l) b.toNat := by simp [hashGo]
theorem take_byte (k : ByteArray) (i : Nat) (h : i < k.size) : k.data.toList.take (i + 1) = k.data.toList.take i ++ [k[i]] := by
  rw [List.take_succ_eq_append_getElem (by simpa using h)]; rfl
def hashF (t : List Int) (s : Int) (k : ByteArray) : Int :=
  bits BinOp.xor IntKind.u64 (hashGo t s k.data.toList) (hashGo t s k.data.toList / 4294967296)
theorem w64_step (t : List Int) (x : Int) (b : Nat) : W64 (stepF t x b) := by
  unfold stepF
  have := bounds_u64 (wf_wrap .u64 (IntKind.u64.wrap (rotF (bits BinOp.xor IntKind.u64 (rotF x 5) (t.getD (b / 16) 0)) 7 + t.getD (b % 16) 0) * 11400714819323198485))
  unfold W64; omega

set_option maxHeartbeats 1000000 in
theorem hkey_c (v : Value) (t : List Int) (s : Int) (k : ByteArray) (w : World) (h : RdL wordF 1 w v t) (ht : t.length = 16) (hs : W64 s) (hk : k.size ≤ 9223372036854775807) :
    Calls Try.prog 105 #[v, .int .u64 s, .string k] w (RetWord (hashF t s k) w) := by
  obtain ⟨a, c, rfl⟩ := h.shape
  have H := Lib.hid h
  have hn : ((16 : Int) != 16) = false := by decide
  have Hx := Lib.hid (p := hashF t s k = bits BinOp.xor IntKind.u64 (hashGo t s k.data.toList) (hashGo t s k.data.toList / 4294967296)) rfl
  rw [ht]
  clear h
  go_enter Try.func105, Try.ntmps105
  go_wp2_with (go_at_call 103; refine (hcheck_c _ _ _).mono ?_; rintro e w' ⟨rfl, rfl⟩)
  go_loopw [7, 16] (fun s7 s16 wr => ∃ (i : Nat) (x : Int), i ≤ k.size ∧ s16 = .int .i64 i ∧ s7 = .int .u64 x ∧ x = hashGo t s (k.data.toList.take i) ∧ W64 x ∧ w.grownBy wr none) (fun _ s16 _ => k.size - (intOf s16).toNat)
  case atStart => exact ⟨0, s, Nat.zero_le _, rfl, rfl, rfl, hs, grownBy_refl _ _⟩
  case round =>
    obtain ⟨i, x, hi, rfl, rfl, hxe, hx, hg⟩ := hrel
    have He := Lib.hid hxe
    clear hxe
    by_cases hlt : i < k.size
    · go_upto_region 8 with fail
      have HT := Lib.hid (take_byte k i hlt)
      have HS := Lib.hid (hashGo_snoc t s (k.data.toList.take i) k[i])
      have hb : k[i].toNat < 256 := k[i].toNat_lt
      generalize k[i].toNat = b at *
      have hq : b / 16 < t.length := by omega
      have hr : b % 16 < t.length := by omega
      obtain ⟨g, off, cap, hv, hgl, c1⟩ := (H.out.same hg).one word_one hq
      cases hv
      obtain ⟨g', off', cap', hv', hgl', c2⟩ := (H.out.same hg).one word_one hr
      cases hv'
      have e1 : t.getD (b / 16) 0 = t[b / 16] := by simp [List.getD_eq_getElem?_getD, List.getElem?_eq_getElem hq]
      have e2 : t.getD (b % 16) 0 = t[b % 16] := by simp [List.getD_eq_getElem?_getD, List.getElem?_eq_getElem hr]
      have Hst := Lib.hid (p := stepF t x b = IntKind.u64.wrap (IntKind.u64.wrap (rotF (bits BinOp.xor IntKind.u64 (rotF x 5) t[b / 16]) 7 + t[b % 16]) * 11400714819323198485)) (by unfold stepF; rw [e1, e2])
      have hws := w64_step t x b
      have hwb := w64_bits BinOp.xor (rotF x 5) t[b / 16]
      have q1 : (0 : Int) ≤ (b : Int) / 16 := by omega
      have q2 : (b : Int) / 16 < 16 := by omega
      have q3 : ((b : Int) / 16).toNat = b / 16 := by omega
      have q4 : (0 : Int) ≤ (b : Int) % 16 := by omega
      have q5 : (b : Int) % 16 < 16 := by omega
      have q6 : ((b : Int) % 16).toNat = b % 16 := by omega
      generalize t[b / 16] = y1 at *
      generalize t[b % 16] = y2 at *
      clear e1 e2 hq hr
      go_quiet ((go_at_call 121; exact Calls.quiet_of_same ((rot_c x 5 _ hx (by omega) (by omega)).mono fun _ _ ⟨he, hw⟩ => ⟨he, hw.symm⟩)))
      generalize bits BinOp.xor IntKind.u64 (rotF x 5) y1 = x1 at *
      have c2q : (wr.drewN nq).cell? ⟨g, off + b % 16, none⟩ = some (.int .u64 y2) := c2
      have hgq := grownBy_drewN hg nq
      clear c1 c2 hgl hgl' hg
      generalize wr.drewN nq = wq at *
      go_upto_region 9 with fail
      go_quiet ((go_at_call 121; exact Calls.quiet_of_same ((rot_c x1 7 _ hwb (by omega) (by omega)).mono fun _ _ ⟨he, hw⟩ => ⟨he, hw.symm⟩)))
      clear q1 q2 q3 q4 q5 q6
      go_wp2_with fail
      exact ⟨⟨i + 1, _, by omega, by go_num, rfl, by rw [HT.out, HS.out, ← He.out, Hst.out], by rw [← Hst.out]; exact hws, grownBy_drewN hgq _⟩, by simp [intOf]; omega⟩
    · have hl : k.data.toList.take i = k.data.toList := List.take_of_length_le (by simp; omega)
      have h3 : hashF t s k = bits BinOp.xor IntKind.u64 x (x / 4294967296) := by rw [Hx.out, He.out, hl]
      have H3 := Lib.hid h3
      clear h3 hl
      go_wp2_with fail
      go_ret
      exact retWord H3.out hg
theorem w64_hash (t : List Int) (s : Int) (k : ByteArray) : W64 (hashF t s k) := w64_bits _ _ _

set_option maxHeartbeats 1000000 in
theorem rhash_c (v : Value) (t : List Int) (s : Int) (k : ByteArray) (w : World) (h : RdL wordF 1 w v t) (ht : t.length = 16) (hs : W64 s) (hk : k.size ≤ 9223372036854775807) :
    Calls Try.prog 137 #[v, .int .u64 s, .string k] w (RetWord (hashF t s k) w) := by
  obtain ⟨a, c, rfl⟩ := h.shape
  have H := Lib.hid h
  have Hx := Lib.hid (p := hashF t s k = bits BinOp.xor IntKind.u64 (hashGo t s k.data.toList) (hashGo t s k.data.toList / 4294967296)) rfl
  rw [ht]
  clear h
  go_enter Try.func137, Try.ntmps137
  go_wp2_with (go_at_call 110; refine (rtable_c _ _ _).mono ?_; rintro e w' ⟨rfl, rfl⟩)
  go_loopw [7, 8] (fun s7 s8 wr => ∃ (i : Nat) (x : Int), i ≤ k.size ∧ s8 = .int .i64 i ∧ s7 = .int .u64 x ∧ x = hashGo t s (k.data.toList.take i) ∧ W64 x ∧ w.grownBy wr none) (fun _ s8 _ => k.size - (intOf s8).toNat)
  case atStart => exact ⟨0, s, Nat.zero_le _, rfl, rfl, rfl, hs, grownBy_refl _ _⟩
  case round =>
    obtain ⟨i, x, hi, rfl, rfl, hxe, hx, hg⟩ := hrel
    have He := Lib.hid hxe
    clear hxe
    by_cases hlt : i < k.size
    · have q0 : (0 : Int) ≤ (i : Int) := by omega
      have q00 : (i : Int) < (k.size : Int) := by omega
      have HT := Lib.hid (take_byte k i hlt)
      have HS := Lib.hid (hashGo_snoc t s (k.data.toList.take i) k[i])
      have hb : k[i].toNat < 256 := k[i].toNat_lt
      obtain ⟨b, hbe⟩ : ∃ b, k[i].toNat = b := ⟨_, rfl⟩
      rw [hbe] at HS hb
      have hq : b / 16 < t.length := by omega
      have hr : b % 16 < t.length := by omega
      obtain ⟨g, off, cap, hv, hgl, c1⟩ := (H.out.same hg).one word_one hq
      cases hv
      obtain ⟨g', off', cap', hv', hgl', c2⟩ := (H.out.same hg).one word_one hr
      cases hv'
      have e1 : t.getD (b / 16) 0 = t[b / 16] := by simp [List.getD_eq_getElem?_getD, List.getElem?_eq_getElem hq]
      have e2 : t.getD (b % 16) 0 = t[b % 16] := by simp [List.getD_eq_getElem?_getD, List.getElem?_eq_getElem hr]
      have Hst := Lib.hid (p := stepF t x b = IntKind.u64.wrap (IntKind.u64.wrap (rotF (bits BinOp.xor IntKind.u64 (rotF x 5) t[b / 16]) 7 + t[b % 16]) * 11400714819323198485)) (by unfold stepF; rw [e1, e2])
      have hws := w64_step t x b
      have hwb := w64_bits BinOp.xor (rotF x 5) t[b / 16]
      have q1 : (0 : Int) ≤ (b : Int) / 16 := by omega
      have q2 : (b : Int) / 16 < 16 := by omega
      have q3 : ((b : Int) / 16).toNat = b / 16 := by omega
      have q4 : (0 : Int) ≤ (b : Int) % 16 := by omega
      have q5 : (b : Int) % 16 < 16 := by omega
      have q6 : ((b : Int) % 16).toNat = b % 16 := by omega
      generalize t[b / 16] = y1 at *
      generalize t[b % 16] = y2 at *
      clear e1 e2 hq hr
      go_upto_region 7 with fail
      go_quiet ((go_at_call 146; exact Calls.quiet_of_same ((rrot_c x 5 _ hx (by omega) (by omega)).mono fun _ _ ⟨he, hw⟩ => ⟨he, hw.symm⟩)))
      generalize bits BinOp.xor IntKind.u64 (rotF x 5) y1 = x1 at *
      have c2q : (wr.drewN nq).cell? ⟨g, off + b % 16, none⟩ = some (.int .u64 y2) := c2
      have hgq := grownBy_drewN hg nq
      clear c1 c2 hgl hgl' hg
      generalize wr.drewN nq = wq at *
      go_upto_region 8 with fail
      go_quiet ((go_at_call 146; exact Calls.quiet_of_same ((rrot_c x1 7 _ hwb (by omega) (by omega)).mono fun _ _ ⟨he, hw⟩ => ⟨he, hw.symm⟩)))
      clear q1 q2 q3 q4 q5 q6 hbe
      go_wp2_with fail
      exact ⟨⟨i + 1, _, by omega, by go_num, rfl, by rw [HT.out, HS.out, ← He.out, Hst.out], by rw [← Hst.out]; exact hws, grownBy_drewN hgq _⟩, by simp [intOf]; omega⟩
    · have hl : k.data.toList.take i = k.data.toList := List.take_of_length_le (by simp; omega)
      have h3 : hashF t s k = bits BinOp.xor IntKind.u64 x (x / 4294967296) := by rw [Hx.out, He.out, hl]
      have H3 := Lib.hid h3
      clear h3 hl
      go_wp2_with fail
      go_ret
      exact retWord H3.out hg

/-- The seed of a row. -/
def seedF (s r : Int) : Int := IntKind.u64.wrap (s + IntKind.u64.wrap ((r + 1) * 15111065706836454659))
theorem w64_wrap (x : Int) : W64 (IntKind.u64.wrap x) := by
  have := bounds_u64 (wf_wrap .u64 x)
  unfold W64; omega
theorem hrow_c (v : Value) (t : List Int) (s r : Int) (k : ByteArray) (w : World) (h : RdL wordF 1 w v t) (ht : t.length = 16) (_ : W64 s) (hr0 : 0 ≤ r) (hr1 : r ≤ 1000) (hk : k.size ≤ 9223372036854775807) :
    Calls Try.prog 122 #[v, .int .u64 s, .int .i64 r, .string k] w (RetWord (hashF t (seedF s r) k) w) := by
  go_enter Try.func122, Try.ntmps122
  go_wp2_with (go_at_call 105; refine (hkey_c v t (seedF s r) k _ h ht (w64_wrap _) hk).mono ?_; rintro e w' ⟨rfl, G⟩)
  go_ret
  exact retWord rfl G
theorem rrow_c (v : Value) (t : List Int) (s r : Int) (k : ByteArray) (w : World) (h : RdL wordF 1 w v t) (ht : t.length = 16) (_ : W64 s) (hr0 : 0 ≤ r) (hr1 : r ≤ 1000) (hk : k.size ≤ 9223372036854775807) :
    Calls Try.prog 147 #[v, .int .u64 s, .int .i64 r, .string k] w (RetWord (hashF t (seedF s r) k) w) := by
  go_enter Try.func147, Try.ntmps147
  go_wp2_with (go_at_call 137; refine (rhash_c v t (seedF s r) k _ h ht (w64_wrap _) hk).mono ?_; rintro e w' ⟨rfl, G⟩)
  go_ret
  exact retWord rfl G

/-- What routing needs of a configuration. -/
structure RCfg (w : World) (c : Cfg) (t : List Int) : Prop where
  shards : 1 ≤ c.Shards ∧ c.Shards ≤ 8
  spread : 1 ≤ c.Spread ∧ c.Spread ≤ c.Shards
  table : RdL wordF 1 w c.Table t
  tlen : t.length = 16
  seed : W64 c.Seed
theorem RCfg.same {w w' : World} {c : Cfg} {t : List Int} (h : RCfg w c t) (hg : w.grownBy w' none) : RCfg w' c t := ⟨h.shards, h.spread, h.table.same hg, h.tlen, h.seed⟩
theorem RCfg.shape {w : World} {c : Cfg} {t : List Int} (h : RCfg w c t) : ∃ a k, c.Table = .slice a 16 k := by
  obtain ⟨a, k, e⟩ := h.table.shape
  rw [h.tlen] at e; exact ⟨a, k, e⟩
theorem rcheck_c (c : Cfg) (t : List Int) (w : World) (h : RCfg w c t) : Calls Try.prog 71 #[c.val] w (RetInt 0 w) := by
  obtain ⟨a, k, e⟩ := h.shape
  obtain ⟨h1, h2⟩ := h.shards
  obtain ⟨h3, h4⟩ := h.spread
  go_enter Try.func71, Try.ntmps71
  go_wp2_with (go_at_call 103; refine (hcheck_c a k _).mono ?_; rintro e w' ⟨rfl, rfl⟩)
  go_ret
  exact retInt rfl (World.grownBy_alloc w _ _)
theorem rroutes_c (c : Cfg) (t : List Int) (w : World) (h : RCfg w c t) : Calls Try.prog 82 #[c.val] w (RetInt 0 w) := by
  obtain ⟨a, k, e⟩ := h.shape
  obtain ⟨h1, h2⟩ := h.shards
  obtain ⟨h3, h4⟩ := h.spread
  go_enter Try.func82, Try.ntmps82
  go_wp2_with (go_at_call 110; refine (rtable_c a k _).mono ?_; rintro e w' ⟨rfl, rfl⟩)
  go_ret
  exact retInt rfl (World.grownBy_alloc w _ _)

def homeF (c : Cfg) (t : List Int) (k : ByteArray) : Int := slotF (hashF t c.Seed k) c.Shards
theorem same_grown {e : Ending} {v : Value} {w w' : World} (h : e = .returned v ∧ w = w') : e = .returned v ∧ w.grownBy w' none := ⟨h.1, h.2 ▸ grownBy_refl _ _⟩
set_option maxHeartbeats 400000 in
set_option maxRecDepth 100000 in
theorem home_c (c : Cfg) (t : List Int) (k : ByteArray) (w : World) (h : RCfg w c t) (hk : k.size ≤ 9223372036854775807) : Calls Try.prog 72 #[c.val, .string k] w (RetInt (homeF c t k) w) := by
  have H := Lib.hid h
  obtain ⟨h1, h2⟩ := h.shards
  have hs := h.seed
  clear h
  go_enter Try.func72, Try.ntmps72
  go_upto_region 3 with (first | (refine box_cfg rfl _ rfl c rfl ?_; intro w1 B1 G1 z1) | (refine load_cfg rfl _ rfl _ rfl c (by assumption) ?_) | (go_at_call 71; refine (rcheck_c c t _ (H.out.same G1)).mono ?_; rintro e w2 ⟨rfl, G2⟩))
  have G := grownBy_trans G1 G2
  obtain ⟨r1, r2, r3⟩ := (B1.same G2).re
  have r4 := call_re (w := w2) fun w' hg => hkey_c c.Table t c.Seed k w' (H.out.same (grownBy_trans G hg)).table H.out.tlen hs hk
  have r5 := call_re (w := w2) fun w' hg => (slot_c (hashF t c.Seed k) c.Shards w' (w64_hash _ _ _) h1 (by omega)).mono fun _ _ => same_grown
  (refine Tail.wp_region_tail_grown 10 (by kernel_rfl) (by kernel_rfl) ?_; simp only [List.take, List.drop]; (repeat (go_big_quiet_step (first | (with_reducible exact r4 _ _) | (with_reducible exact r5 _ _)))); refine wpQuiet_nil ?_; rintro _ ⟨⟨d5, os5⟩, rfl⟩)
  have G5 := grownBy_trans G (grown_re w2 d5 os5)
  clear r1 r2 r3 r4 r5
  go_wp2_with fail
  go_ret
  exact retInt rfl G5
set_option maxHeartbeats 400000 in
set_option maxRecDepth 100000 in
theorem rhome_c (c : Cfg) (t : List Int) (k : ByteArray) (w : World) (h : RCfg w c t) (hk : k.size ≤ 9223372036854775807) : Calls Try.prog 114 #[c.val, .string k] w (RetInt (homeF c t k) w) := by
  have H := Lib.hid h
  obtain ⟨h1, h2⟩ := h.shards
  have hs := h.seed
  clear h
  go_enter Try.func114, Try.ntmps114
  go_upto_region 3 with (first | (refine box_cfg rfl _ rfl c rfl ?_; intro w1 B1 G1 z1) | (refine load_cfg rfl _ rfl _ rfl c (by assumption) ?_) | (go_at_call 82; refine (rroutes_c c t _ (H.out.same G1)).mono ?_; rintro e w2 ⟨rfl, G2⟩))
  have G := grownBy_trans G1 G2
  obtain ⟨r1, r2, r3⟩ := (B1.same G2).re
  have r4 := call_re (w := w2) fun w' hg => rhash_c c.Table t c.Seed k w' (H.out.same (grownBy_trans G hg)).table H.out.tlen hs hk
  have r5 := call_re (w := w2) fun w' hg => (rslot_c (hashF t c.Seed k) c.Shards w' (w64_hash _ _ _) h1 (by omega)).mono fun _ _ => same_grown
  (refine Tail.wp_region_tail_grown 10 (by kernel_rfl) (by kernel_rfl) ?_; simp only [List.take, List.drop]; (repeat (go_big_quiet_step (first | (with_reducible exact r4 _ _) | (with_reducible exact r5 _ _)))); refine wpQuiet_nil ?_; rintro _ ⟨⟨d5, os5⟩, rfl⟩)
  have G5 := grownBy_trans G (grown_re w2 d5 os5)
  clear r1 r2 r3 r4 r5
  go_wp2_with fail
  go_ret
  exact retInt rfl G5
end Go.Proofs.Ytiagjiaahnkefaa
