/- Estimates of a sketch's rows. -/
import Derived.Test.YtiagjiaahnkefaaSet
namespace Go.Proofs.Ytiagjiaahnkefaa
open Go.RowKit
attribute [local go_sem ↓] exec_load_cfg
attribute [local go_sem] run_loadCfgS

/-- Rows of words. -/
structure RowsRd (w : World) (v : Value) (vs : List Value) (rows : List (List Int)) : Prop where
  rd : RdL valF 1 w v vs
  len : vs.length = rows.length
  all : ∀ (i : Nat) u row, vs[i]? = some u → rows[i]? = some row → RdL wordF 1 w u row
theorem RowsRd.same {w w' : World} {v : Value} {vs : List Value} {rows : List (List Int)} (h : RowsRd w v vs rows) (hg : w.grownBy w' none) : RowsRd w' v vs rows :=
  ⟨h.rd.same hg, h.len, fun i u row h1 h2 => (h.all i u row h1 h2).same hg⟩
theorem SumRd.rowsRd {w : World} {s : Summ} (h : SumRd w s) : RowsRd w s.vr s.vs s.rows := ⟨h.vs, h.len, h.rows⟩
/-- No row is empty, all numbers have 64 bits. -/
def RowsOk (rows : List (List Int)) : Prop := ∀ row ∈ rows, (0 < row.length ∧ row.length ≤ 4096) ∧ ∀ x ∈ row, W64 x

def cellF (t : List Int) (s : Int) (k : ByteArray) (i : Nat) (row : List Int) : Int := row.getD (slotF (hashF t (seedF s i) k) row.length).toNat 0
def estI (t : List Int) (s : Int) (k : ByteArray) (rows : List (List Int)) : Nat → Int
  | 0 => 18446744073709551615
  | n + 1 => min (estI t s k rows n) (cellF t s k n (rows.getD n []))
def estF (t : List Int) (s : Int) (k : ByteArray) (rows : List (List Int)) : Int := estI t s k rows rows.length
theorem w64_getD {l : List Int} (h : ∀ x ∈ l, W64 x) (i : Nat) : W64 (l.getD i 0) := by
  rw [List.getD_eq_getElem?_getD]
  cases hi : l[i]? with
  | none => exact w64_0
  | some x => exact h x (List.mem_of_getElem? hi)
theorem w64_most : W64 18446744073709551615 := ⟨by omega, by omega⟩
theorem w64_min {a b : Int} (h : W64 a) (h' : W64 b) : W64 (min a b) := by unfold W64 at *; omega
theorem w64_est {t : List Int} {s : Int} {k : ByteArray} {rows : List (List Int)} (h : RowsOk rows) (n : Nat) : W64 (estI t s k rows n) := by
  induction n with
  | zero => exact w64_most
  | succ n ih =>
    refine w64_min ih ?_
    unfold cellF
    refine w64_getD (fun x hx => ?_) _
    rw [List.getD_eq_getElem?_getD] at hx
    cases hi : rows[n]? with
    | none => rw [hi] at hx; simp at hx
    | some row => rw [hi] at hx; exact (h row (List.mem_of_getElem? hi)).2 x hx

set_option maxHeartbeats 1000000 in
set_option maxRecDepth 100000 in
theorem cmOf_c (v : Value) (vs : List Value) (rows : List (List Int)) (tv : Value) (t : List Int) (s : Int) (k : ByteArray) (w : World) (h : RowsRd w v vs rows) (ho : RowsOk rows) (hn : 0 < rows.length) (hn2 : rows.length ≤ 1000)
    (ht : RdL wordF 1 w tv t) (htl : t.length = 16) (hs : W64 s) (hk : k.size ≤ 9223372036854775807) :
    Calls Try.prog 106 #[v, tv, .int .u64 s, .string k] w (RetWord (estF t s k rows) w) := by
  obtain ⟨a, c, rfl⟩ := h.rd.shape
  obtain ⟨ta, tc, rfl⟩ := ht.shape
  rw [htl] at ht ⊢
  have H := Lib.hid h
  have HT := Lib.hid ht
  have hlen := h.len
  have Hlen := Lib.hid hlen
  have Hf := Lib.hid (p := estF t s k rows = estI t s k rows rows.length) rfl
  have hnv : 0 < vs.length := by omega
  have hnv2 : vs.length ≤ 1000 := by omega
  have hz : ((vs.length : Int) == 0) = false := beq_eq_false_iff_ne.2 (by omega)
  clear h ht hlen
  go_enter Try.func106, Try.ntmps106
  go_wp2_with (go_at_call 103; refine (hcheck_c ta tc _).mono ?_; rintro e w' ⟨rfl, rfl⟩)
  go_loopw [9, 23] (fun s9 s23 wr => ∃ i : Nat, i ≤ vs.length ∧ s23 = .int .i64 i ∧ s9 = .int .u64 (estI t s k rows i) ∧ w.grownBy wr none) (fun _ s23 _ => vs.length - (intOf s23).toNat)
  case atStart => exact ⟨0, Nat.zero_le _, rfl, rfl, grownBy_refl _ _⟩
  case round =>
    obtain ⟨i, hi, rfl, rfl, hg⟩ := hrel
    by_cases hiv : i < vs.length
    · have hlt : i < rows.length := by have := Hlen.out; omega
      obtain ⟨g, off, cap, hv, hgl, c1⟩ := (H.out.same hg).rd.one val_one hiv
      have hrow := ho _ (List.getElem_mem hlt)
      have hR := (H.out.same hg).all i vs[i] rows[i] (List.getElem?_eq_getElem hiv) (List.getElem?_eq_getElem hlt)
      have HE := Lib.hid (p := estI t s k rows (i + 1) = min (estI t s k rows i) (cellF t s k i rows[i])) (by simp [estI, List.getD_eq_getElem?_getD, List.getElem?_eq_getElem hlt])
      generalize vs[i] = u at *
      generalize rows[i] = row at *
      obtain ⟨ra, rc, rfl⟩ := hR.shape
      obtain ⟨⟨hr0, hr1⟩, _⟩ := hrow
      obtain ⟨hb0, hb1⟩ := slotF_bd (hashF t (seedF s i) k) row.length (by omega)
      have hb2 : (slotF (hashF t (seedF s i) k) row.length).toNat < row.length := by omega
      obtain ⟨rg, roff, rcap, rv, hrg, c2⟩ := hR.one word_one hb2
      have HC := Lib.hid (p := cellF t s k i row = row[(slotF (hashF t (seedF s i) k) row.length).toNat]) (by simp [cellF, List.getD_eq_getElem?_getD, List.getElem?_eq_getElem hb2])
      cases rv
      have hw1 := w64_hash t (seedF s i) k
      cases hv
      generalize row[(slotF (hashF t (seedF s i) k) row.length).toNat] = y at *
      generalize hhe : hashF t (seedF s i) k = hh at *
      have Hhe := Lib.hid hhe
      clear hhe
      generalize hqe : slotF hh row.length = q at *
      have Hqe := Lib.hid hqe
      clear hqe
      go_upto_region 9 with fail
      go_wp2_with (first | (go_at_call 122; refine (hrow_c _ t s i k _ (HT.out.same hg) htl hs (by omega) (by omega) hk).mono ?_; rw [Hhe.out]; rintro e w2 ⟨rfl, G2⟩; have c3 := ((grownBy_cells G2).1 rg (roff + q.toNat) hrg (by simp)).trans c2) | (go_at_call 104; refine (slot_c hh row.length _ hw1 (by omega) (by omega)).mono ?_; rw [Hqe.out]; rintro e w' ⟨rfl, rfl⟩))
      exact ⟨⟨i + 1, by omega, by go_num, by rw [HE.out, HC.out], grownBy_trans hg G2⟩, by simp [intOf]; omega⟩
    · have he : estI t s k rows i = estF t s k rows := by rw [Hf.out]; congr 1; have := Hlen.out; omega
      rw [he]
      clear he
      go_wp2_with fail
      go_ret
      exact retWord rfl hg
set_option maxHeartbeats 1000000 in
set_option maxRecDepth 100000 in
theorem rEst_c (v : Value) (vs : List Value) (rows : List (List Int)) (tv : Value) (t : List Int) (s : Int) (k : ByteArray) (w : World) (h : RowsRd w v vs rows) (ho : RowsOk rows) (hn : 0 < rows.length) (hn2 : rows.length ≤ 1000)
    (ht : RdL wordF 1 w tv t) (htl : t.length = 16) (hs : W64 s) (hk : k.size ≤ 9223372036854775807) :
    Calls Try.prog 138 #[v, tv, .int .u64 s, .string k] w (RetWord (estF t s k rows) w) := by
  obtain ⟨a, c, rfl⟩ := h.rd.shape
  obtain ⟨ta, tc, rfl⟩ := ht.shape
  rw [htl] at ht ⊢
  have H := Lib.hid h
  have HT := Lib.hid ht
  have hlen := h.len
  have Hlen := Lib.hid hlen
  have Hf := Lib.hid (p := estF t s k rows = estI t s k rows rows.length) rfl
  have hnv : 0 < vs.length := by omega
  have hnv2 : vs.length ≤ 1000 := by omega
  have hz : ((vs.length : Int) == 0) = false := beq_eq_false_iff_ne.2 (by omega)
  clear h ht hlen
  go_enter Try.func138, Try.ntmps138
  go_wp2_with (go_at_call 110; refine (rtable_c ta tc _).mono ?_; rintro e w' ⟨rfl, rfl⟩)
  go_loopw [9, 22] (fun s9 s22 wr => ∃ i : Nat, i ≤ vs.length ∧ s22 = .int .i64 i ∧ s9 = .int .u64 (estI t s k rows i) ∧ w.grownBy wr none) (fun _ s22 _ => vs.length - (intOf s22).toNat)
  case atStart => exact ⟨0, Nat.zero_le _, rfl, rfl, grownBy_refl _ _⟩
  case round =>
    obtain ⟨i, hi, rfl, rfl, hg⟩ := hrel
    by_cases hiv : i < vs.length
    · have hlt : i < rows.length := by have := Hlen.out; omega
      obtain ⟨g, off, cap, hv, hgl, c1⟩ := (H.out.same hg).rd.one val_one hiv
      have hrow := ho _ (List.getElem_mem hlt)
      have hR := (H.out.same hg).all i vs[i] rows[i] (List.getElem?_eq_getElem hiv) (List.getElem?_eq_getElem hlt)
      have HE := Lib.hid (p := estI t s k rows (i + 1) = min (estI t s k rows i) (cellF t s k i rows[i])) (by simp [estI, List.getD_eq_getElem?_getD, List.getElem?_eq_getElem hlt])
      generalize vs[i] = u at *
      generalize rows[i] = row at *
      obtain ⟨ra, rc, rfl⟩ := hR.shape
      obtain ⟨⟨hr0, hr1⟩, _⟩ := hrow
      have hrz : ((row.length : Int) == 0) = false := beq_eq_false_iff_ne.2 (by omega)
      obtain ⟨hb0, hb1⟩ := slotF_bd (hashF t (seedF s i) k) row.length (by omega)
      have hb2 : (slotF (hashF t (seedF s i) k) row.length).toNat < row.length := by omega
      obtain ⟨rg, roff, rcap, rv, hrg, c2⟩ := hR.one word_one hb2
      have HC := Lib.hid (p := cellF t s k i row = row[(slotF (hashF t (seedF s i) k) row.length).toNat]) (by simp [cellF, List.getD_eq_getElem?_getD, List.getElem?_eq_getElem hb2])
      cases rv
      have hw1 := w64_hash t (seedF s i) k
      cases hv
      generalize row[(slotF (hashF t (seedF s i) k) row.length).toNat] = y at *
      generalize hhe : hashF t (seedF s i) k = hh at *
      have Hhe := Lib.hid hhe
      clear hhe
      generalize hqe : slotF hh row.length = q at *
      have Hqe := Lib.hid hqe
      clear hqe
      go_upto_region 9 with fail
      go_wp2_with (first | (go_at_call 147; refine (rrow_c _ t s i k _ (HT.out.same hg) htl hs (by omega) (by omega) hk).mono ?_; rw [Hhe.out]; rintro e w2 ⟨rfl, G2⟩; have c3 := ((grownBy_cells G2).1 rg (roff + q.toNat) hrg (by simp)).trans c2) | (go_at_call 136; refine (rslot_c hh row.length _ hw1 (by omega) (by omega)).mono ?_; rw [Hqe.out]; rintro e w' ⟨rfl, rfl⟩))
      exact ⟨⟨i + 1, by omega, by go_num, by rw [HE.out, HC.out], grownBy_trans hg G2⟩, by simp [intOf]; omega⟩
    · have he : estI t s k rows i = estF t s k rows := by rw [Hf.out]; congr 1; have := Hlen.out; omega
      rw [he]
      clear he
      go_wp2_with fail
      go_ret
      exact retWord rfl hg

def sEstF (c : Cfg) (t : List Int) (s : Summ) (k : ByteArray) : Int := if s.rows.length = 0 then s.total else estF t c.Seed k s.rows
theorem w64_sEst {c : Cfg} {t : List Int} {s : Summ} (h : W64 s.total) (ho : RowsOk s.rows) (k : ByteArray) : W64 (sEstF c t s k) := by
  unfold sEstF; split
  · exact h
  · exact w64_est ho _

set_option maxHeartbeats 400000 in
set_option maxRecDepth 100000 in
theorem sest_c (c : Cfg) (t : List Int) (s : Summ) (k : ByteArray) (w : World) (h : RCfg w c t) (hR : SumRd w s) (ho : RowsOk s.rows) (hn : s.rows.length ≤ 1000) (hk : k.size ≤ 9223372036854775807) :
    Calls Try.prog 77 #[c.val, sumV s.total s.ve s.untr s.vr, .string k] w (RetWord (sEstF c t s k) w) := by
  obtain ⟨tot, ve, un, vr, es, vs, rows⟩ := s
  obtain ⟨a1, k1, e1⟩ := hR.es.shape
  obtain ⟨a2, k2, e2⟩ := hR.vs.shape
  have hlen := hR.len
  simp only at hlen e1 e2 hn ho ⊢
  subst e1
  subst e2
  have H := Lib.hid h
  have HR := Lib.hid hR.rowsRd
  have hs := h.seed
  have htl := h.tlen
  obtain ⟨ta, tk, hta⟩ := h.shape
  have Hta := Lib.hid hta
  by_cases h0 : rows.length = 0
  · have hx : sEstF c t ⟨tot, .slice a1 es.length k1, un, .slice a2 vs.length k2, es, vs, rows⟩ k = tot := by unfold sEstF; rw [if_pos h0]
    have hz : ((vs.length : Int) == 0) = true := by rw [beq_iff_eq]; omega
    have Hx := Lib.hid hx
    clear hx h0 hlen hR h htl hta
    go_enter Try.func77, Try.ntmps77
    go_wp2_with (refine box_cfg rfl _ rfl c rfl ?_; intro w1 B1 G1 z1)
    go_ret
    exact retWord Hx.out (grownBy_new_block G1 _)
  · have hx : sEstF c t ⟨tot, .slice a1 es.length k1, un, .slice a2 vs.length k2, es, vs, rows⟩ k = estF t c.Seed k rows := by unfold sEstF; rw [if_neg h0]
    have hz : ((vs.length : Int) == 0) = false := beq_eq_false_iff_ne.2 (by omega)
    have Hx := Lib.hid hx
    have Hlen := Lib.hid hlen
    have Htl := Lib.hid htl
    clear hx hlen hR h htl hta
    go_enter Try.func77, Try.ntmps77
    go_wp2_with (first | (refine box_cfg rfl _ rfl c rfl ?_; intro w1 B1 G1 z1; have b2 := fun o => (B1.same (World.grownBy_alloc w1 o none)).cell) | (go_at_call 106; refine (cmOf_c _ vs rows c.Table t c.Seed k _ (HR.out.same (grownBy_new_block G1 _)) ho (by omega) hn (H.out.same (grownBy_new_block G1 _)).table Htl.out hs hk).mono ?_; rintro e w3 ⟨rfl, G3⟩))
    go_ret
    exact retWord Hx.out (grownBy_trans (grownBy_new_block G1 _) G3)

set_option maxHeartbeats 400000 in
set_option maxRecDepth 100000 in
theorem rsest_c (c : Cfg) (t : List Int) (s : Summ) (k : ByteArray) (w : World) (h : RCfg w c t) (hR : SumRd w s) (ho : RowsOk s.rows) (hn : s.rows.length ≤ 1000) (hk : k.size ≤ 9223372036854775807) :
    Calls Try.prog 117 #[c.val, sumV s.total s.ve s.untr s.vr, .string k] w (RetWord (sEstF c t s k) w) := by
  obtain ⟨tot, ve, un, vr, es, vs, rows⟩ := s
  obtain ⟨a1, k1, e1⟩ := hR.es.shape
  obtain ⟨a2, k2, e2⟩ := hR.vs.shape
  have hlen := hR.len
  simp only at hlen e1 e2 hn ho ⊢
  subst e1
  subst e2
  have H := Lib.hid h
  have HR := Lib.hid hR.rowsRd
  have hs := h.seed
  have htl := h.tlen
  obtain ⟨ta, tk, hta⟩ := h.shape
  have Hta := Lib.hid hta
  by_cases h0 : rows.length = 0
  · have hx : sEstF c t ⟨tot, .slice a1 es.length k1, un, .slice a2 vs.length k2, es, vs, rows⟩ k = tot := by unfold sEstF; rw [if_pos h0]
    have hz : ((vs.length : Int) == 0) = true := by rw [beq_iff_eq]; omega
    have Hx := Lib.hid hx
    clear hx h0 hlen hR h htl hta
    go_enter Try.func117, Try.ntmps117
    go_wp2_with (refine box_cfg rfl _ rfl c rfl ?_; intro w1 B1 G1 z1)
    go_ret
    exact retWord Hx.out (grownBy_new_block G1 _)
  · have hx : sEstF c t ⟨tot, .slice a1 es.length k1, un, .slice a2 vs.length k2, es, vs, rows⟩ k = estF t c.Seed k rows := by unfold sEstF; rw [if_neg h0]
    have hz : ((vs.length : Int) == 0) = false := beq_eq_false_iff_ne.2 (by omega)
    have Hx := Lib.hid hx
    have Hlen := Lib.hid hlen
    have Htl := Lib.hid htl
    clear hx hlen hR h htl hta
    go_enter Try.func117, Try.ntmps117
    go_wp2_with (first | (refine box_cfg rfl _ rfl c rfl ?_; intro w1 B1 G1 z1; have b2 := fun o => (B1.same (World.grownBy_alloc w1 o none)).cell) | (go_at_call 138; refine (rEst_c _ vs rows c.Table t c.Seed k _ (HR.out.same (grownBy_new_block G1 _)) ho (by omega) hn (H.out.same (grownBy_new_block G1 _)).table Htl.out hs hk).mono ?_; rintro e w3 ⟨rfl, G3⟩))
    go_ret
    exact retWord Hx.out (grownBy_trans (grownBy_new_block G1 _) G3)
end Go.Proofs.Ytiagjiaahnkefaa
