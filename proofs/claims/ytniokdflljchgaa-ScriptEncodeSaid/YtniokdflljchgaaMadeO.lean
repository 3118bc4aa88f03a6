/- What the deck makes: operations. -/
import Derived.Test.YtniokdflljchgaaMadeV
import Derived.Test.YtniokdflljchgaaOps
import Derived.Test.YtniokdflljchgaaMake
namespace Go.Proofs.Ytniokdflljchgaa
open Go.RowKit Go.Sort
attribute [local go_sem ↓] exec_load_cfg
attribute [local go_sem] run_loadCfgS

section
variable {α : Type} {f : α → List Value} {st e : TypeId} {z : Value} {size bytes : Nat} {w : World} {B : Nat} {v : Value} {l : List α}
variable {o : Oper} {a : Act} {ops : Array Oper} {rest : List Oper} {Q : Exit → Act → World → Prop}
theorem app_oneVG (E : Elt st e z size bytes) (hf : ∀ x, (f x).length = size) (hown : Own f size e B w v l) (y : α) (h1 : ∀ u ∈ f y, u.oneCell' = true) (hb : (l.length + 1) * bytes ≤ 140737488355328) (h63 : l.length + 1 ≤ 9223372036854775807) (hbase : B ≤ w.heap.size) {te : TypeId} {cs : Array Value} (hcs : cs.toList = f y) {g : Nat} (hg : w.heap.size = g)
    (hgd : o.guard = none) (s x : Operand) (ho : o.op = .call { callee := .builtin .append, args := #[s, x], argTypes := #[st, st] }) (hs : a.eval s = v) (hx : a.eval x = .slice (some ⟨g, 0, none⟩) 1 1)
    (h : ∀ v' w', Own f size e B w' v' (l ++ [y]) → w.grownBy w' v.ownBlock → Lies v v' w.heap.size → wpList Try.prog ops Q rest (a.put o.dst v') w') : wpList Try.prog ops Q (o :: rest) a (w.alloc (.cells cs te)) := by
  subst hg
  exact app_oneV E hf hown y h1 hb h63 hbase hcs hgd s x ho hs hx h
end
theorem blk_rd {α : Type} {f : α → List Value} {size : Nat} {w : World} {g : Nat} {cs : Array Value} (h : Blk w g cs) (hf : ∀ x, (f x).length = size) (l : List α) (hcs : cs.toList = cellsOf f l) (hl : l.length ≤ 9223372036854775807) : RdL f size w (.slice (some ⟨g, 0, none⟩) l.length l.length) l := by
  refine ⟨length_cellsOf f size hf l, hl, .inr ⟨g, 0, l.length, rfl, h.lt, fun j u hu => ?_⟩⟩
  rw [Nat.zero_add, h.cell j]
  rw [← hcs] at hu
  simpa using hu
structure OpsK (B b bc : Nat) (c : Cfg) (w0 : World) (v : Value) (l : List OpR) (w : World) : Prop where
  deck : Deck B w b
  box : BoxAt w bc c
  ops : OpsG (bc + 1) w v l
  ok : ∀ o ∈ l, opE o = 0
  G : w0.grownBy w (some b)
  lt : b < B ∧ B ≤ bc ∧ w0.heap.size = bc ∧ bc < w.heap.size
section
variable {B b bc : Nat} {c : Cfg} {w0 w w' : World} {v v' : Value} {l : List OpR} {o : OpR}
theorem OpsK.next (h : OpsK B b bc c w0 v l w) (hd : Deck B w' b) (hg : w.grownBy w' (some b)) : OpsK B b bc c w0 v l w' := by
  obtain ⟨h1, h2, h3, h4⟩ := h.lt
  have h5 := hg.size
  exact ⟨hd, h.box.kept hg (by simp; omega), h.ops.kept hg (fun k e => by cases e; omega), h.ok, grownBy_trans h.G hg, h1, h2, h3, by omega⟩
theorem OpsK.same (h : OpsK B b bc c w0 v l w) (hg : w.grownBy w' none) : OpsK B b bc c w0 v l w' := by
  obtain ⟨h1, h2, h3, h4⟩ := h.lt
  have h5 := hg.size
  exact ⟨h.deck.kept hg (by simp), h.box.kept hg (by simp), h.ops.same hg, h.ok, grownBy_trans h.G (grownBy_some hg _), h1, h2, h3, by omega⟩
theorem OpsK.snoc {n : Nat} (h : OpsK B b bc c w0 v l w) (h1 : OpRd w o) (h2 : OpIn n w.heap.size o) (hn : bc + 1 ≤ n) (hv : ∀ k, v.ownBlock = some k → k < n) (hE : opE o = 0)
    (ho : Own opF 6 30 (bc + 1) w' v' (l ++ [o])) (hg : w.grownBy w' v.ownBlock) (hL : Lies v v' w.heap.size) : OpsK B b bc c w0 v' (l ++ [o]) w' := by
  obtain ⟨k1, k2, k3, k4⟩ := h.lt
  have h5 := hg.size
  have hlo : ∀ k, v.ownBlock = some k → bc + 1 ≤ k := fun k hk => (h.ops.own.lt k hk).1
  refine ⟨h.deck.kept hg (fun k e => by have := hlo _ e; omega), h.box.kept hg (fun e => by have := hlo _ e; omega), h.ops.snoc h1 h2 hn hv ho hg hL, fun x hx => ?_, ?_, k1, k2, k3, by omega⟩
  · rcases List.mem_append.1 hx with hx | hx
    · exact h.ok x hx
    · rw [List.mem_singleton.1 hx]; exact hE
  · cases hq : v.ownBlock with
    | none => rw [hq] at hg; exact grownBy_trans h.G (grownBy_some hg _)
    | some q => rw [hq] at hg; exact grownBy_new h.G hg (by have := hlo q hq; omega)
end
theorem rd_nilB (w : World) : RdL byF 1 w (.slice none 0 0) [] := (Own.nil byF 1 5 0 w).rd
theorem rd_nilI (w : World) : RdL intF 1 w (.slice none 0 0) [] := (Own.nil intF 1 3 0 w).rd
theorem opRd_nn (w : World) (k t s : Int) (y : ByteArray) : OpRd w ⟨k, .slice none 0 0, t, s, y, .slice none 0 0, [], []⟩ := ⟨rd_nilB w, rd_nilI w, fun a n c e => by cases e; omega, fun a n c e => by cases e; omega⟩
theorem opIn_nn (lo hi : Nat) (k t s : Int) (y : ByteArray) : OpIn lo hi ⟨k, .slice none 0 0, t, s, y, .slice none 0 0, [], []⟩ := ⟨inB_nil _ _ _ _, inB_nil _ _ _ _⟩
theorem opE_4 : opE ⟨4, .slice none 0 0, 0, 0, ⟨#[]⟩, .slice none 0 0, [], []⟩ = 0 := by rfl
theorem opE_3 {s : Int} (h : 0 ≤ s ∧ s < 5) : opE ⟨3, .slice none 0 0, 0, s, ⟨#[]⟩, .slice none 0 0, [], []⟩ = 0 := by
  rw [opE_iff]
  refine ⟨by rfl, by rfl, ?_⟩
  simp [rangeB, inR]; omega
theorem opE_5 {t : Int} {y : ByteArray} (h : 0 ≤ t ∧ t ≤ 1099511627776) (hy : y.size ≤ 255) : opE ⟨5, .slice none 0 0, t, 0, y, .slice none 0 0, [], []⟩ = 0 := by
  rw [opE_iff]
  refine ⟨by rfl, ?_, ?_⟩
  · simp [longB]; omega
  · simp [rangeB, inR]; omega
theorem opE_1 {v : Value} {d : List UInt8} (h : d.length ≤ 4096) : opE ⟨1, v, 0, 0, ⟨#[]⟩, .slice none 0 0, d, []⟩ = 0 := by
  rw [opE_iff]
  refine ⟨by rfl, ?_, by rfl⟩
  simp [longB, ByteArray.size]; omega
theorem opE_2 {v : Value} {t q r : Int} (h : 0 ≤ t ∧ t ≤ 1099511627776) (hq : 0 ≤ q ∧ q < 9) (hr : 0 ≤ r ∧ r < 9) : opE ⟨2, .slice none 0 0, t, 0, ⟨#[]⟩, v, [], [q, r]⟩ = 0 := by
  rw [opE_iff]
  refine ⟨by rfl, by rfl, ?_⟩
  simp [rangeB, inR]; omega
def OpsD (B b : Nat) (n : Int) (w : World) (e : Ending) (w' : World) : Prop := ∃ v L, e = .returned v ∧ OpsG w.heap.size w' v L ∧ (∀ o ∈ L, opE o = 0) ∧ (1 ≤ L.length ∧ (L.length : Int) ≤ n + 1) ∧ Deck B w' b ∧ w.grownBy w' (some b)

set_option maxHeartbeats 4000000 in
set_option maxRecDepth 100000 in
theorem dops_c {B : Nat} (b : Nat) (c : Cfg) (n : Int) (w : World) (hd : Deck B w b) (hB : B ≤ w.heap.size) (hn : 0 ≤ n ∧ n ≤ 20) (hL : 1 ≤ c.Length ∧ c.Length ≤ 20) : Calls Try.prog 41 #[.pointer (some ⟨b, 0, none⟩), c.val, .int .i64 n] w (OpsD B b n w) := by
  have hbB := hd.below
  go_enter Try.func41, Try.ntmps41
  go_upto_region 1 with (refine box_cfg rfl _ rfl c rfl ?_; intro w1 B1 G1 z1)
  have hd1 := hd.kept G1 (by simp)
  have C1 := Lib.hid (next_c b (n + 1) w1 hd1 (by omega) (by omega))
  have HB1 := Lib.hid B1
  have HG1 := Lib.hid G1
  have hz1 := B1.lt
  clear B1 G1 hd1 hd
  go_upto_region 4 with (go_at_call 62; refine C1.out.mono ?_; rintro e w2 ⟨k0, rfl, hk0, hk1, hd2, hg2⟩)
  obtain ⟨bc, hbc⟩ : ∃ bc, w.heap.size = bc := ⟨_, rfl⟩
  have K0 := Lib.hid (show OpsK B b bc c w (.slice none 0 0) [] w2 from ⟨hd2, by rw [← hbc]; exact HB1.out.kept hg2 (by simp; omega), OpsG.nil _ _, by simp, grownBy_trans (grownBy_some HG1.out _) hg2, hbB, by omega, hbc, by have := hg2.size; omega⟩)
  rw [hbc]
  have HBC := Lib.hid hbc
  clear hbc C1 HB1 HG1 hd2 hg2 hz1
  go_loopw [9, 7, 8] (fun s9 s7 s8 wk => ∃ (k : Int) (l : List OpR) (tm : Int), s9 = .int .i64 k ∧ s8 = .int .i64 tm ∧ (-1 ≤ k ∧ k ≤ k0) ∧ (l.length : Int) = k0 - k ∧ (0 ≤ tm ∧ tm ≤ 40 * (k0 - k)) ∧ OpsK B b bc c w s7 l wk) (fun s9 _ _ _ => (intOf s9 + 1).toNat)
  case atStart => exact ⟨k0, [], 0, rfl, rfl, by omega, by simp, by omega, K0.out⟩
  case round =>
    clear K0
    obtain ⟨k, l, tm, rfl, rfl, ⟨hk2, hk3⟩, hl, ⟨ht0, ht1⟩, hK⟩ := hrel
    have HK := Lib.hid hK
    have Hl := Lib.hid hl
    have hl4 : l.length ≤ 21 := by omega
    obtain ⟨oa, oc, rfl⟩ := hK.ops.own.shape
    clear hK hl
    have hb1 : (l.length + 1) * 88 ≤ 140737488355328 := by omega
    have hb2 : l.length + 1 ≤ 9223372036854775807 := by omega
    by_cases hge : 0 ≤ k
    · have C2 := Lib.hid (next_c b 10 wr HK.out.deck (by omega) (by omega))
      go_wp2_with fail
      refine C2.out.mono ?_
      rintro e w3 ⟨r, rfl, hr0, hr1, hd3, hg3⟩
      have HK3 := Lib.hid (HK.out.next hd3 hg3)
      clear HK C2 hd3 hg3
      have hz3 : bc + 1 ≤ w3.heap.size := HK3.out.lt.2.2.2
      by_cases h3 : r = 3
      · subst h3
        go_upto_region 5 with (at_builtin; refine app_oneV elt_op opF_len (HK3).out.ops.own ⟨4, .slice none 0 0, 0, 0, ⟨#[]⟩, .slice none 0 0, [], []⟩ one_op hb1 hb2 hz3 (by rfl) rfl _ _ (by rfl) (by rfl) (by rfl) ?_; intro v4 w4 o4 g4 l4)
        have K5 := (HK3).out.snoc (o := ⟨4, .slice none 0 0, 0, 0, ⟨#[]⟩, .slice none 0 0, [], []⟩) (n := w3.heap.size) (opRd_nn _ _ _ _ _) (opIn_nn _ _ _ _ _ _) hz3 (fun k hk => (HK3.out.ops.own.lt k hk).2) opE_4 o4 g4 l4
        have HK5 := Lib.hid K5
        clear K5 o4 g4 l4 HK3
        go_wp2_with fail
        exact ⟨⟨k - 1, _, tm, rfl, rfl, by omega, by have := Hl.out; simp; omega, by omega, HK5.out⟩, by simp [intOf]; omega⟩
      have f3 : ((r : Int) == 3) = false := by simpa using h3
      by_cases h2 : r = 2
      · subst h2
        clear h3 f3
        have C3 := Lib.hid (next_c b 5 w3 HK3.out.deck (by omega) (by omega))
        go_wp2_with fail
        refine C3.out.mono ?_
        rintro e w5 ⟨q, rfl, hq0, hq1, hd5, hg5⟩
        have HK5' := Lib.hid (HK3.out.next hd5 hg5)
        have hz5 : bc + 1 ≤ w5.heap.size := HK5'.out.lt.2.2.2
        clear HK3 C3 hd5 hg5
        go_upto_region 5 with (at_builtin; refine app_oneV elt_op opF_len (HK5').out.ops.own ⟨3, .slice none 0 0, 0, q, ⟨#[]⟩, .slice none 0 0, [], []⟩ one_op hb1 hb2 hz5 (by rfl) rfl _ _ (by rfl) (by rfl) (by rfl) ?_; intro v4 w4 o4 g4 l4)
        have K5 := (HK5').out.snoc (o := ⟨3, .slice none 0 0, 0, q, ⟨#[]⟩, .slice none 0 0, [], []⟩) (n := w5.heap.size) (opRd_nn _ _ _ _ _) (opIn_nn _ _ _ _ _ _) hz5 (fun k hk => (HK5'.out.ops.own.lt k hk).2) (opE_3 ⟨hq0, hq1⟩) o4 g4 l4
        have HK5 := Lib.hid K5
        clear K5 o4 g4 l4 HK5'
        go_wp2_with fail
        exact ⟨⟨k - 1, _, tm, rfl, rfl, by omega, by have := Hl.out; simp; omega, by omega, HK5.out⟩, by simp [intOf]; omega⟩
      have f2 : ((r : Int) == 2) = false := by simpa using h2
      by_cases h4 : r = 4
      · subst h4
        clear h3 f3 h2 f2
        have h34 := HK3.out.lt
        have C3 := Lib.hid (dkey_c b w3 HK3.out.deck (by omega))
        go_wp2_with fail
        refine C3.out.mono ?_
        rintro e w5 ⟨L, rfl, -, hd5, hg5⟩
        have HK5' := Lib.hid (HK3.out.next hd5 hg5)
        have C4 := Lib.hid (next_c b 40 w5 hd5 (by omega) (by omega))
        have hy := keyY_len L
        clear HK3 C3 hd5 hg5 h34
        generalize keyY L = y at *
        go_wp2_with fail
        refine C4.out.mono ?_
        rintro e w6 ⟨q, rfl, hq0, hq1, hd6, hg6⟩
        have HK6 := Lib.hid (HK5'.out.next hd6 hg6)
        have hz6 : bc + 1 ≤ w6.heap.size := HK6.out.lt.2.2.2
        clear HK5' C4 hd6 hg6
        go_upto_region 5 with (at_builtin; refine app_oneV elt_op opF_len (HK6).out.ops.own ⟨5, .slice none 0 0, max (tm + q - 10) 0, 0, y, .slice none 0 0, [], []⟩ one_op hb1 hb2 hz6 (by rfl) rfl _ _ (by rfl) (by rfl) (by rfl) ?_; intro v4 w4 o4 g4 l4)
        have K5 := (HK6).out.snoc (o := ⟨5, .slice none 0 0, max (tm + q - 10) 0, 0, y, .slice none 0 0, [], []⟩) (n := w6.heap.size) (opRd_nn _ _ _ _ _) (opIn_nn _ _ _ _ _ _) hz6 (fun k hk => (HK6.out.ops.own.lt k hk).2) (opE_5 (by omega) hy) o4 g4 l4
        have HK5 := Lib.hid K5
        clear K5 o4 g4 l4 HK6
        go_wp2_with fail
        exact ⟨⟨k - 1, _, tm, rfl, rfl, by omega, by have := Hl.out; simp; omega, by omega, HK5.out⟩, by simp [intOf]; omega⟩
      have f4 : ((r : Int) == 4) = false := by simpa using h4
      by_cases h01 : r = 0 ∨ r = 1
      · clear h2 h3 h4 f2 f3 f4
        rcases h01 with rfl | rfl
        · have bx := HK3.out.box.cell
          have C3 := Lib.hid (next_c b (2 * c.Length) w3 HK3.out.deck (by omega) (by omega))
          go_wp2_with fail
          refine C3.out.mono ?_
          rintro e w5 ⟨q, rfl, hq0, hq1, hd5, hg5⟩
          have HK5' := Lib.hid (HK3.out.next hd5 hg5)
          have C4 := Lib.hid (next_c b 9 w5 hd5 (by omega) (by omega))
          clear HK3 C3 hd5 hg5 bx
          go_wp2_with fail
          refine C4.out.mono ?_
          rintro e w6 ⟨q1, rfl, hq10, hq11, hd6, hg6⟩
          have HK6 := Lib.hid (HK5'.out.next hd6 hg6)
          have C5 := Lib.hid (next_c b 9 w6 hd6 (by omega) (by omega))
          clear HK5' C4 hd6 hg6
          go_wp2_with fail
          refine C5.out.mono ?_
          rintro e w7 ⟨q2, rfl, hq20, hq21, hd7, hg7⟩
          have HK7 := Lib.hid (HK6.out.next hd7 hg7)
          clear HK6 C5 hd7 hg7
          have G8 := World.grownBy_alloc w7 (.cells #[.int .i64 q1, .int .i64 q2] 3) none
          have HK8 := Lib.hid (HK7.out.same G8)
          have hz8 : bc + 1 ≤ (w7.alloc (.cells #[.int .i64 q1, .int .i64 q2] 3)).heap.size := HK8.out.lt.2.2.2
          have hz7 : bc + 1 ≤ w7.heap.size := HK7.out.lt.2.2.2
          have Hg8 := Lib.hid (show (w7.alloc (.cells #[.int .i64 q1, .int .i64 q2] 3)).heap.size = w7.heap.size + 1 by simp)
          have HR8 := Lib.hid (blk_rd (f := intF) (size := 1) (Blk.new w7 #[.int .i64 q1, .int .i64 q2] 3) (fun _ => rfl) [q1, q2] rfl (by simp))
          have hlt7 := Lib.hid (fun k hk => (HK7.out.ops.own.lt k hk).2 : ∀ k, (Value.slice oa l.length oc).ownBlock = some k → k < w7.heap.size)
          clear G8 HK7
          go_upto_region 5 with (at_builtin; refine app_oneVG elt_op opF_len HK8.out.ops.own ⟨2, .slice none 0 0, tm + q, 0, ⟨#[]⟩, .slice (some ⟨w7.heap.size, 0, none⟩) 2 2, [], [q1, q2]⟩ one_op hb1 hb2 hz8 (by rfl) Hg8.out rfl _ _ (by rfl) (by rfl) (by rfl) ?_; intro v4 w4 o4 g4 l4)
          have K5 := (HK8).out.snoc (o := ⟨2, .slice none 0 0, tm + q, 0, ⟨#[]⟩, .slice (some ⟨w7.heap.size, 0, none⟩) 2 2, [], [q1, q2]⟩) (n := w7.heap.size) ⟨rd_nilB _, HR8.out, fun a n c e => by cases e; omega, fun a n c e => by cases e; omega⟩ ⟨inB_nil _ _ _ _, fun a n c e => by cases e; rw [Hg8.out]; exact ⟨Nat.le_refl _, Nat.lt_succ_self _⟩⟩ hz7 hlt7.out (opE_2 (by omega) ⟨hq10, hq11⟩ ⟨hq20, hq21⟩) o4 g4 l4
          have HK5 := Lib.hid K5
          clear K5 o4 g4 l4 HK8
          go_wp2_with fail
          exact ⟨⟨k - 1, _, (tm + q), rfl, rfl, by omega, by have := Hl.out; simp; omega, by omega, HK5.out⟩, by simp [intOf]; omega⟩
        · have bx := HK3.out.box.cell
          have C3 := Lib.hid (next_c b (2 * c.Length) w3 HK3.out.deck (by omega) (by omega))
          go_wp2_with fail
          refine C3.out.mono ?_
          rintro e w5 ⟨q, rfl, hq0, hq1, hd5, hg5⟩
          have HK5' := Lib.hid (HK3.out.next hd5 hg5)
          have C4 := Lib.hid (next_c b 9 w5 hd5 (by omega) (by omega))
          clear HK3 C3 hd5 hg5 bx
          go_wp2_with fail
          refine C4.out.mono ?_
          rintro e w6 ⟨q1, rfl, hq10, hq11, hd6, hg6⟩
          have HK6 := Lib.hid (HK5'.out.next hd6 hg6)
          have C5 := Lib.hid (next_c b 9 w6 hd6 (by omega) (by omega))
          clear HK5' C4 hd6 hg6
          go_wp2_with fail
          refine C5.out.mono ?_
          rintro e w7 ⟨q2, rfl, hq20, hq21, hd7, hg7⟩
          have HK7 := Lib.hid (HK6.out.next hd7 hg7)
          clear HK6 C5 hd7 hg7
          have G8 := World.grownBy_alloc w7 (.cells #[.int .i64 q1, .int .i64 q2] 3) none
          have HK8 := Lib.hid (HK7.out.same G8)
          have hz8 : bc + 1 ≤ (w7.alloc (.cells #[.int .i64 q1, .int .i64 q2] 3)).heap.size := HK8.out.lt.2.2.2
          have hz7 : bc + 1 ≤ w7.heap.size := HK7.out.lt.2.2.2
          have Hg8 := Lib.hid (show (w7.alloc (.cells #[.int .i64 q1, .int .i64 q2] 3)).heap.size = w7.heap.size + 1 by simp)
          have HR8 := Lib.hid (blk_rd (f := intF) (size := 1) (Blk.new w7 #[.int .i64 q1, .int .i64 q2] 3) (fun _ => rfl) [q1, q2] rfl (by simp))
          have hlt7 := Lib.hid (fun k hk => (HK7.out.ops.own.lt k hk).2 : ∀ k, (Value.slice oa l.length oc).ownBlock = some k → k < w7.heap.size)
          clear G8 HK7
          go_upto_region 5 with (at_builtin; refine app_oneVG elt_op opF_len HK8.out.ops.own ⟨2, .slice none 0 0, tm + q, 0, ⟨#[]⟩, .slice (some ⟨w7.heap.size, 0, none⟩) 2 2, [], [q1, q2]⟩ one_op hb1 hb2 hz8 (by rfl) Hg8.out rfl _ _ (by rfl) (by rfl) (by rfl) ?_; intro v4 w4 o4 g4 l4)
          have K5 := (HK8).out.snoc (o := ⟨2, .slice none 0 0, tm + q, 0, ⟨#[]⟩, .slice (some ⟨w7.heap.size, 0, none⟩) 2 2, [], [q1, q2]⟩) (n := w7.heap.size) ⟨rd_nilB _, HR8.out, fun a n c e => by cases e; omega, fun a n c e => by cases e; omega⟩ ⟨inB_nil _ _ _ _, fun a n c e => by cases e; rw [Hg8.out]; exact ⟨Nat.le_refl _, Nat.lt_succ_self _⟩⟩ hz7 hlt7.out (opE_2 (by omega) ⟨hq10, hq11⟩ ⟨hq20, hq21⟩) o4 g4 l4
          have HK5 := Lib.hid K5
          clear K5 o4 g4 l4 HK8
          go_wp2_with fail
          exact ⟨⟨k - 1, _, (tm + q), rfl, rfl, by omega, by have := Hl.out; simp; omega, by omega, HK5.out⟩, by simp [intOf]; omega⟩
      · have f0 : ((r : Int) == 0) = false := by simp; omega
        have f1 : ((r : Int) == 1) = false := by simp; omega
        clear h01 h2 h3 h4
        have h34 := HK3.out.lt
        have C3 := Lib.hid (frames_c b tm w3 HK3.out.deck (by omega) (by omega))
        go_wp2_with fail
        refine C3.out.mono ?_
        rintro e w5 ⟨fv, F, rfl, oF, hF, hd5, hg5⟩
        obtain ⟨fa, fc, rfl⟩ := oF.shape
        have HK5' := Lib.hid (HK3.out.next hd5 hg5)
        have hz5 : bc + 1 ≤ w5.heap.size := HK5'.out.lt.2.2.2
        have HOF := Lib.hid oF
        have hlt3 := Lib.hid (fun k hk => (HK3.out.ops.own.lt k hk).2 : ∀ k, (Value.slice oa l.length oc).ownBlock = some k → k < w3.heap.size)
        clear HK3 C3 hd5 hg5 oF h34
        go_upto_region 5 with (at_builtin; refine app_oneV elt_op opF_len (HK5').out.ops.own ⟨1, .slice fa F.length fc, 0, 0, ⟨#[]⟩, .slice none 0 0, F, []⟩ one_op hb1 hb2 hz5 (by rfl) rfl _ _ (by rfl) (by rfl) (by rfl) ?_; intro v4 w4 o4 g4 l4)
        have K5 := (HK5').out.snoc (o := ⟨1, .slice fa F.length fc, 0, 0, ⟨#[]⟩, .slice none 0 0, F, []⟩) (n := w3.heap.size) ⟨HOF.out.rd, rd_nilI _, fun a n c e => by cases e; exact HOF.out.cap, fun a n c e => by cases e; omega⟩ ⟨HOF.out.inB, inB_nil _ _ _ _⟩ hz3 hlt3.out (opE_1 hF) o4 g4 l4
        have HK5 := Lib.hid K5
        clear K5 o4 g4 l4 HK5'
        go_wp2_with fail
        exact ⟨⟨k - 1, _, tm, rfl, rfl, by omega, by have := Hl.out; simp; omega, by omega, HK5.out⟩, by simp [intOf]; omega⟩
    · obtain rfl : k = -1 := by omega
      go_wp2_with fail
      go_ret
      have h4 := HK.out.lt
      exact ⟨_, l, rfl, HK.out.ops.base (by omega), HK.out.ok, by have := Hl.out; omega, HK.out.deck, HK.out.G⟩
end Go.Proofs.Ytniokdflljchgaa
