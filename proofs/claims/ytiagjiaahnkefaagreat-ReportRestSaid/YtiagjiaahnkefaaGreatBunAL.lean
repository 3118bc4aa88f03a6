/- Several texts in one file; each begins with a comment that says what is proved in it. -/
import Derived.Test.YtiagjiaahnkefaaGreatBunAK
import Derived.Lib.AppendStr
import Derived.Test.YtiagjiaahnkefaaGreatBunAI

/- Reports as bytes: the program's encoder. -/
namespace Go.Proofs.YtiagjiaahnkefaaGreat
open Go.RowKit Go.Sort

def natF (n : Nat) : List Value := [.int .u64 n]
theorem natF_len (n : Nat) : (natF n).length = 1 := rfl
theorem nat_one (n : Nat) : natF n = [Value.int .u64 n] := rfl
def vbs (ns : List Nat) : List UInt8 := ns.flatMap vb
theorem vbs_snoc (ns : List Nat) (n : Nat) : vbs (ns ++ [n]) = vbs ns ++ vb n := by simp [vbs]
theorem vbs_len {ns : List Nat} (h : ∀ n ∈ ns, n < 18446744073709551616) : (vbs ns).length ≤ 10 * ns.length := by
  induction ns with
  | nil => simp [vbs]
  | cons n ns ih =>
    have h1 := ih fun x hx => h x (List.mem_cons_of_mem _ hx)
    have h2 := vb_ten (h n (by simp))
    simp only [vbs, List.flatMap_cons, List.length_append, List.length_cons] at *
    omega
/-- The buffer at g. -/
structure BufAt (B : Nat) (w : World) (g : Nat) (l : List UInt8) : Prop where
  ex : ∃ v, Blk w g #[v] ∧ Own byF 1 5 B w v l
  lt : g < B
theorem BufAt.base {B B' : Nat} {w : World} {g : Nat} {l : List UInt8} (h : BufAt B w g l) (hB : B' ≤ B) (hg : g < B') : BufAt B' w g l := by
  obtain ⟨v, h1, h2⟩ := h.ex
  exact ⟨⟨v, h1, h2.base fun k hk => Nat.le_trans hB (h2.lt k hk).1⟩, hg⟩
theorem BufAt.same {B : Nat} {w w' : World} {g : Nat} {l : List UInt8} (h : BufAt B w g l) (hg : w.grownBy w' none) : BufAt B w' g l := by
  obtain ⟨v, h1, h2⟩ := h.ex
  exact ⟨⟨v, h1.same hg, h2.same hg⟩, h.lt⟩
def baseK (B h k : Nat) : Nat := if k = 0 then B else h
theorem baseK_0 (B h : Nat) : baseK B h 0 = B := rfl
theorem baseK_s (B h : Nat) {k : Nat} (hk : k ≠ 0) : baseK B h k = h := if_neg hk
def NumPost (B : Nat) (w : World) (g : Nat) (l : List UInt8) (e : Ending) (w' : World) : Prop := e = .returned (.tuple #[]) ∧ BufAt B w' g l ∧ w.grownBy w' (some g)

set_option maxHeartbeats 1000000 in
set_option maxRecDepth 100000 in
theorem number_c (B g : Nat) (l : List UInt8) (nv : Value) (ns : List Nat) (w : World) (h : BufAt B w g l) (hn : RdL natF 1 w nv ns) (hni : NotIn nv g) (hN : ∀ n ∈ ns, n < 18446744073709551616) (hl : l.length + 10 * ns.length ≤ 1000000000) (hB : B ≤ w.heap.size) :
    Calls Tryz.prog 49 #[.pointer (some ⟨g, 0, none⟩), nv] w (NumPost (baseK B w.heap.size ns.length) w g (l ++ vbs ns)) := by
  obtain ⟨na, nc, rfl⟩ := hn.shape
  have hm := hn.2.1
  have HN := Lib.hid hn
  have HI := Lib.hid hni
  have HW := Lib.hid hN
  have H := Lib.hid h
  clear hn hni hN h
  go_enter Tryz.func49, Tryz.ntmps49
  go_wp2_with fail
  go_loopw [8] (fun s8 wk => ∃ k : Nat, k ≤ ns.length ∧ s8 = .int .i64 k ∧ BufAt (baseK B w.heap.size k) wk g (l ++ vbs (ns.take k)) ∧ w.grownBy wk (some g)) (fun s8 _ => ns.length - (intOf s8).toNat)
  case atStart => exact ⟨0, Nat.zero_le _, rfl, by rw [baseK_0]; simpa [vbs] using H.out, grownBy_refl _ _⟩
  case round =>
    obtain ⟨k, hk, rfl, hb, hg⟩ := hrel
    by_cases hlt : k < ns.length
    · have hR : RdL natF 1 wr (.slice na ns.length nc) ns := Rd.kept HN.out hg fun b e => by cases e; exact HI.out
      obtain ⟨gn, on, cn, hv, hgn, hcn⟩ := RdL.one nat_one hR hlt
      cases hv
      have HS := Lib.hid (show l ++ vbs (ns.take (k + 1)) = (l ++ vbs (ns.take k)) ++ vb ns[k] by rw [List.take_succ_eq_append_getElem hlt, vbs_snoc, List.append_assoc])
      have hll : (vbs (ns.take k)).length ≤ 10 * (ns.take k).length := vbs_len fun n hn => HW.out n (List.mem_of_mem_take hn)
      have hnk := HW.out _ (List.getElem_mem hlt)
      have hlen : (l ++ vbs (ns.take k)).length ≤ 1000000000000 := by
        rw [List.length_append]
        rw [List.length_take] at hll
        omega
      clear hll hR
      generalize l ++ vbs (ns.take k) = L at *
      generalize ns[k] = n at *
      obtain ⟨v, h1, h2⟩ := hb.ex
      obtain ⟨va, vc, rfl⟩ := h2.shape
      have hgl := h1.lt
      have hgB : g < w.heap.size := Nat.lt_of_lt_of_le H.out.lt hB
      have Hc := Lib.hid (vappend_c _ L n wr h2.rd hnk hlen)
      have c1 := h1.cell
      have f1 := h1.free
      have hBs := Nat.le_trans hB hg.size
      have HB1 := Lib.hid h1
      clear hnk h2 hb
      go_wp2_with (go_at_call 77; refine Hc.out.mono ?_; rintro e w2 ⟨v2, rfl, o2, g2⟩; obtain ⟨a2, c2, rfl⟩ := o2.shape; have b2 := HB1.out.same g2; have d2 := b2.cell; have e2 := b2.free)
      have o3 := (o2.base (fun q hq => Nat.le_trans hg.size (o2.lt q hq).1)).kept (grownBy_set (grownBy_refl w2 (some g)) 0 (.slice a2 (L ++ vb n).length c2)) (fun q hq e => by cases e; have := (o2.lt _ hq).1; omega)
      exact ⟨⟨k + 1, by omega, by go_num, by rw [HS.out, baseK_s _ _ (by omega)]; exact ⟨⟨_, b2.set_ 0 _ rfl, by rw [← List.length_append]; exact o3⟩, hgB⟩, grownBy_trans hg (grownBy_set (grownBy_some g2 (some g)) _ _)⟩, by simp [intOf]; omega⟩
    · have hke : ns.take k = ns := List.take_of_length_le (by omega)
      rw [hke] at hb
      obtain rfl : k = ns.length := by omega
      have HBf := Lib.hid hb
      clear hb
      go_wp2_with fail
      go_end0
      exact ⟨rfl, HBf.out, hg⟩

theorem cells_str (s : ByteArray) : cellsOf byF s.data.toList = Lib.strCells s := by
  have : ∀ l : List UInt8, cellsOf byF l = l.map fun b => Value.int .u8 b.toNat := by
    intro l
    induction l with
    | nil => rfl
    | cons x l ih => simp only [cellsOf, List.flatMap_cons, List.map_cons] at *; rw [ih]; rfl
  rw [this]; rfl
theorem info_by : (Tryz.prog.info? 5).map (fun i => (i.zero, i.size, i.bytes)) = some (some (.int .u8 0), 1, 1) := by kernel_rfl
theorem app_str {B : Nat} {w : World} {v : Value} {l : List UInt8} {o : Oper} {a : Act} {ops : Array Oper} {rest : List Oper} {Q : Exit → Act → World → Prop} (hown : Own byF 1 5 B w v l) (s : ByteArray) (hb : l.length + s.size ≤ 140737488355328) (hbase : B ≤ w.heap.size)
    (hgd : o.guard = none) (sl x : Operand) (ho : o.op = .call { callee := .builtin .append, args := #[sl, x], argTypes := #[49, 9] }) (hs : a.eval sl = v) (hx : a.eval x = .string s)
    (h : ∀ v' w', Own byF 1 5 B w' v' (l ++ s.data.toList) → w.grownBy w' v.ownBlock → wpList Tryz.prog ops Q rest (a.put o.dst v') w') : wpList Tryz.prog ops Q (o :: rest) a w := by
  obtain ⟨i, hi, hz0, hz1, hz2⟩ := info_parts info_by
  refine Lib.wpList_append_own_string w hgd sl x 49 9 ho B 5 i Tryz.underlying49 Tryz.underlying9 hi hz0 hz1 hz2 v l.length _ hs hown s hx (by unfold maxLen; omega) hb hbase fun v' w' h1 h2 _ => h v' w' ?_ h2
  unfold Own
  rw [cellsOf_append, cells_str, List.length_append]
  have e : s.data.toList.length = s.size := Array.length_toList
  rw [e]; exact h1

set_option maxHeartbeats 1000000 in
set_option maxRecDepth 100000 in
theorem text_c (B g : Nat) (l : List UInt8) (s : ByteArray) (w : World) (h : BufAt B w g l) (hs : s.size ≤ 1000000) (hl : l.length ≤ 100000000) (hB : B ≤ w.heap.size) :
    Calls Tryz.prog 50 #[.pointer (some ⟨g, 0, none⟩), .string s] w (NumPost w.heap.size w g (l ++ vb s.size ++ s.data.toList)) := by
  have H := Lib.hid (h.same (World.grownBy_alloc w (.cells #[.int .u64 s.size] 25) none))
  have H2 := Lib.hid h
  have hgB := h.lt
  have hss : (s.size : Int) ≤ 1000000 := by omega
  have hR := Blk.one (Blk.new w #[.int .u64 s.size] 25) natF_len s.size rfl
  have hwz : w.heap.size < (w.alloc (.cells #[.int .u64 s.size] 25)).heap.size := by simp
  have hc := number_c B g l _ [s.size] _ H.out hR (fun a n c e => by cases e; simp; omega) (by simp; omega) (by simp; omega) (by omega)
  rw [show vbs [s.size] = vb s.size by simp [vbs], baseK_s _ _ (by simp)] at hc
  have Hc := Lib.hid hc
  have hvl := vb_ten (show s.size < 18446744073709551616 by omega)
  have G0 : w.grownBy (w.alloc (.cells #[.int .u64 s.size] 25)) none := World.grownBy_alloc w _ none
  clear h hR hc
  go_enter Tryz.func50, Tryz.ntmps50
  go_upto_region 1 with (go_at_call 49; refine Hc.out.mono ?_; rintro e w2 ⟨rfl, b2, g2⟩)
  have K2 := grownBy_trans (grownBy_some G0 (some g)) g2
  clear Hc H G0
  obtain ⟨v, h1, h2⟩ := b2.ex
  obtain ⟨va, vc, rfl⟩ := h2.shape
  have c1 := h1.cell
  have f1 := h1.free
  have hBs := Nat.le_of_lt (Nat.lt_of_lt_of_le hwz g2.size)
  have hb9 : (l ++ vb s.size).length + s.size ≤ 140737488355328 := by rw [List.length_append]; omega
  have hne : ∀ q, (Value.slice va (l ++ vb s.size).length vc).ownBlock = some q → w.heap.size < q := fun q hq => Nat.lt_of_lt_of_le hwz (h2.lt q hq).1
  have HB1 := Lib.hid h1
  generalize l ++ vb s.size = L at *
  go_wp2_with (at_builtin; refine app_str h2 s hb9 g2.size (by rfl) _ _ (by rfl) (by rfl) (by rfl) ?_; intro v3 w3 o3 g3; obtain ⟨a3, c3, rfl⟩ := o3.shape; have b3 := HB1.out.kept g3 (fun e => by have := hne _ e; omega); have d3 := b3.cell; have e3 := b3.free)
  go_end0
  have hgB := H2.out.lt
  have e9 : (L ++ s.data.toList).length = L.length + s.size := by rw [List.length_append]; congr 1
  have o4 := o3.kept (grownBy_set (grownBy_refl w3 (some g)) 0 (.slice a3 (L ++ s.data.toList).length c3)) (fun q hq e => by cases e; have := (o3.lt _ hq).1; omega)
  have K3 : w.grownBy w3 (some g) := by
    cases hq : (Value.slice va L.length vc).ownBlock with
    | none => rw [hq] at g3; exact grownBy_trans K2 (grownBy_some g3 _)
    | some q => rw [hq] at g3; exact grownBy_new K2 g3 (by have := hne q hq; omega)
  rw [e9] at o4
  exact ⟨rfl, ⟨⟨_, b3.set_ 0 _ rfl, o4.base fun q hq => Nat.le_trans (Nat.le_of_lt hwz) (o4.lt q hq).1⟩, by omega⟩, grownBy_set K3 _ _⟩
end Go.Proofs.YtiagjiaahnkefaaGreat

/- Reports as bytes: Encode. -/
namespace Go.Proofs.YtiagjiaahnkefaaGreat
open Go.RowKit Go.Sort

theorem Blk.many {α : Type} {f : α → List Value} {size : Nat} {w : World} {g : Nat} {cs : Array Value} (h : Blk w g cs) (hf : ∀ x, (f x).length = size) (l : List α) (hcs : cs.toList = cellsOf f l) (hl : l.length ≤ 9223372036854775807) : RdL f size w (.slice (some ⟨g, 0, none⟩) l.length l.length) l := by
  refine ⟨length_cellsOf f size hf l, hl, .inr ⟨g, 0, l.length, rfl, h.lt, fun j u hu => ?_⟩⟩
  rw [Nat.zero_add, h.cell j]
  rw [← hcs] at hu
  simpa using hu
theorem rd_nat {w : World} {v : Value} {l : List Int} (h : RdL wordF 1 w v l) (h0 : ∀ x ∈ l, 0 ≤ x) : RdL natF 1 w v (l.map Int.toNat) := by
  have e : ∀ l : List Int, (∀ x ∈ l, 0 ≤ x) → cellsOf natF (l.map Int.toNat) = cellsOf wordF l := by
    intro l
    induction l with
    | nil => intro _; rfl
    | cons x l ih =>
      intro h
      have h1 := ih fun y hy => h y (List.mem_cons_of_mem _ hy)
      have h2 := h x (by simp)
      simp only [cellsOf, List.map_cons, List.flatMap_cons] at *
      rw [h1]
      simp only [natF, wordF]
      rw [Int.toNat_of_nonneg h2]
  unfold RdL
  rw [e l h0, List.length_map]
  exact h
/-- The bytes of a line. -/
def lnB (x : Ln) : List UInt8 := vb x.key.size ++ x.key.data.toList ++ vbs [x.lo.toNat, (x.hi - x.lo).toNat]
def linesB (ls : List Ln) : List UInt8 := ls.flatMap lnB
theorem linesB_snoc (ls : List Ln) (x : Ln) : linesB (ls ++ [x]) = linesB ls ++ lnB x := by simp [linesB]
def headB (r : Rep) : List UInt8 := vbs [r.win.toNat, r.tot.toNat, r.over.toNat, r.trk.toNat, r.rest.toNat] ++ vbs ((r.rej.drop 1).map Int.toNat) ++ vb r.lines.length
def encF (r : Rep) : List UInt8 := headB r ++ linesB r.lines
def encR (r : Rep) : List UInt8 := if repErr r = 0 then encF r else []
def EncPost (r : Rep) (w : World) (e : Ending) (w' : World) : Prop := ∃ v, e = .returned (.tuple #[v, .int .i64 (repErr r)]) ∧ Own byF 1 5 w.heap.size w' v (encR r) ∧ w.grownBy w' none

set_option maxHeartbeats 2000000 in
set_option maxRecDepth 100000 in
theorem encode_c (r : Rep) (w : World) (hR : RepRd w r) (hW : RepW r) : Calls Tryz.prog 15 #[repV r.win r.tot r.vl r.over r.trk r.rest r.vr] w (EncPost r w) := by
  have HR := Lib.hid hR
  have HW := Lib.hid hW
  obtain ⟨la, lc, e1⟩ := hR.lines.shape
  obtain ⟨ra, rc, e2⟩ := hR.rej.shape
  have hlm := hR.lines.2.1
  have hrm := hR.rej.2.1
  have hcc := fun w' (h : World.grownBy w w' none) => repcheck_c r w' (hR.same h) hW
  clear hR hW
  rw [e1, e2] at hcc
  rw [e1, e2]
  have E1 := Lib.hid e1
  have E2 := Lib.hid e2
  have Hcc := Lib.hid hcc
  have HER := Lib.hid (show encR r = if repErr r = 0 then encF r else [] from rfl)
  clear e1 e2 hcc
  go_enter Tryz.func15, Tryz.ntmps15
  go_upto_region 1 with fail
  have B1 := Blk.new w #[.int .i64 r.win, .int .u64 r.tot, .slice la r.lines.length lc, .int .u64 r.over, .int .i64 r.trk, .int .u64 r.rest, .slice ra r.rej.length rc] 32
  have G1 := grownBy_new_block (grownBy_refl w none) (.cells #[.int .i64 r.win, .int .u64 r.tot, .slice la r.lines.length lc, .int .u64 r.over, .int .i64 r.trk, .int .u64 r.rest, .slice ra r.rej.length rc] 32)
  generalize w.alloc (.cells #[.int .i64 r.win, .int .u64 r.tot, .slice la r.lines.length lc, .int .u64 r.over, .int .i64 r.trk, .int .u64 r.rest, .slice ra r.rej.length rc] 32) = w1 at *
  have hb1 := B1.lt
  obtain ⟨b, hb⟩ : ∃ b, w.heap.size = b := ⟨_, rfl⟩
  rw [hb] at B1 hb1 ⊢
  have Hb := Lib.hid hb
  clear hb
  have b1 := B1.cell
  go_upto_region 2 with (go_at_call 11; refine (Hcc.out _ G1).mono ?_; rintro e w2 ⟨rfl, g2⟩)
  clear b1
  have B2 := B1.same g2
  have G2 := grownBy_trans G1 g2
  obtain ⟨er, her⟩ : ∃ er, repErr r = er := ⟨_, rfl⟩
  have Her := Lib.hid her
  rw [her] at HER ⊢
  by_cases he : er = 0
  · subst he
    have HOK := Lib.hid (rep_ok her)
    clear her
    have h7 : r.rej.length = 7 := HOK.out.rej
    obtain ⟨gr, orr, cr, hvr, hgr, -⟩ := HR.out.rej.at_ (fun _ => rfl) (show 0 < r.rej.length by omega)
    obtain ⟨rfl, rfl⟩ : ra = some ⟨gr, orr, none⟩ ∧ rc = cr := by
      have := E2.out.symm.trans hvr
      simp only [Value.slice.injEq] at this
      exact ⟨this.1, this.2.2⟩
    have hrc : r.rej.length ≤ rc := HR.out.rcap _ _ _ E2.out
    have HE2 := Lib.hid (HER.out.trans (if_pos rfl))
    clear HER hvr
    go_upto_region 5 with fail
    have E3 := Blk.new w2 #[.slice none 0 0] 95
    have F3 : BufAt (w2.heap.size + 1) (w2.alloc (.cells #[.slice none 0 0] 95)) w2.heap.size [] := ⟨⟨_, E3, Own.nil _ _ _ _ _⟩, by omega⟩
    have B3 := B2.same (World.grownBy_alloc w2 (.cells #[.slice none 0 0] 95) none)
    have G3 := grownBy_new_block G2 (.cells #[.slice none 0 0] 95)
    have hwg : w.heap.size ≤ w2.heap.size := G2.size
    have hbg := B2.lt
    have hz3 : w2.heap.size + 1 ≤ (w2.alloc (.cells #[.slice none 0 0] 95)).heap.size := by simp
    generalize w2.alloc (.cells #[.slice none 0 0] 95) = w3 at *
    generalize w2.heap.size = g at *
    clear E3 B2 G2 Hcc g2 G1 hb1 B1
    obtain ⟨p1, p2⟩ := HOK.out.win
    obtain ⟨p3, p4⟩ := HOK.out.trk
    have hw1 : IntKind.u64.wrap r.win = r.win := IntWalk.u64_in _ (by omega)
    have hw2 : IntKind.u64.wrap r.trk = r.trk := IntWalk.u64_in _ (by omega)
    have rb := B3.re
    refine wp_region_any (by kernel_rfl) ?_
    (refine Tail.take_put 0 15 (.pointer (some ⟨g, 0, none⟩)) rfl rfl (by kernel_rfl) (by kernel_rfl) (by kernel_rfl) (fun _ _ _ h => h) (Or.inl ⟨by rfl, fun w => ?_⟩) ?_; · go_simp); simp only [List.setIfInBounds_toArray, List.set_cons_zero, List.set_cons_succ]
    (refine Tail.take_put 1 16 (.pointer (some ⟨g, 0, none⟩)) rfl rfl (by kernel_rfl) (by kernel_rfl) (by kernel_rfl) (fun _ _ _ h => h) (Or.inl ⟨by rfl, fun w => ?_⟩) ?_; · go_simp); simp only [List.setIfInBounds_toArray, List.set_cons_zero, List.set_cons_succ]
    (refine Tail.take_put 2 17 (.pointer (some ⟨g, 0, none⟩)) rfl rfl (by kernel_rfl) (by kernel_rfl) (by kernel_rfl) (fun _ _ _ h => h) (Or.inl ⟨by rfl, fun w => ?_⟩) ?_; · go_simp); simp only [List.setIfInBounds_toArray, List.set_cons_zero, List.set_cons_succ]
    (refine Tail.wpAny_tail_grown 15 [false, false, false, true, true, true, true, true, true, true, true, true, true, true, true] (by kernel_rfl) ?_; simp only [Tail.pickL, List.take, List.drop]; (repeat (go_big_quiet_step (fail))); refine wpQuiet_nil ?_; rintro _ ⟨⟨d5, os5⟩, rfl⟩)
    have F4 := F3.same (grown_re w3 d5 os5)
    have K4 := grown_re w3 d5 os5
    generalize grow (redrawn w3 d5) os5 = w4 at *
    clear rb hw1 hw2
    have hz4 : g + 1 ≤ w4.heap.size := Nat.le_trans hz3 K4.size
    have t1 := HW.out.tot
    have t2 := HW.out.over
    have t3 := HW.out.rest
    unfold W64 at t1 t2 t3
    have L5 := (Blk.new w4 #[.int .u64 r.win, .int .u64 r.tot, .int .u64 r.over, .int .u64 r.trk, .int .u64 r.rest] 25).many natF_len [r.win.toNat, r.tot.toNat, r.over.toNat, r.trk.toNat, r.rest.toNat] (by simp only [cellsOf, natF, List.flatMap_cons, List.flatMap_nil, List.singleton_append, List.append_nil]; rw [Int.toNat_of_nonneg (by omega), Int.toNat_of_nonneg (by omega), Int.toNat_of_nonneg (by omega), Int.toNat_of_nonneg (by omega), Int.toNat_of_nonneg (by omega)]) (by simp)
    have hc5 := number_c (g + 1) g [] _ _ _ (F4.same (World.grownBy_alloc w4 (.cells #[.int .u64 r.win, .int .u64 r.tot, .int .u64 r.over, .int .u64 r.trk, .int .u64 r.rest] 25) none)) L5 (fun a n c e => by cases e; show w4.heap.size ≠ g; omega) (by intro n hn; simp at hn; omega) (by simp) (by simp; omega)
    rw [baseK_s _ _ (by simp)] at hc5
    have Hc5 := Lib.hid hc5
    clear hc5 L5 t1 t2 t3
    have G4' : w4.grownBy (w4.alloc (.cells #[.int .u64 r.win, .int .u64 r.tot, .int .u64 r.over, .int .u64 r.trk, .int .u64 r.rest] 25)) none := World.grownBy_alloc w4 _ none
    go_upto_region 6 with (go_at_call 49; refine Hc5.out.mono ?_; rintro e w5 ⟨rfl, F5, g5⟩)
    have K5 : w3.grownBy w5 (some g) := grownBy_trans (grownBy_some (grownBy_trans K4 G4') (some g)) g5
    have B5 := B3.kept K5 (by simp; omega)
    have F5' := F5.base (B' := g + 1) (by simp; omega) (by omega)
    have hz5 : g + 1 ≤ w5.heap.size := Nat.le_trans hz3 K5.size
    clear F5 g5 Hc5 G4' F4 K4 hz4
    have hl5 : (vbs [r.win.toNat, r.tot.toNat, r.over.toNat, r.trk.toNat, r.rest.toNat]).length ≤ 50 := by
      have t1 := HW.out.tot
      have t2 := HW.out.over
      have t3 := HW.out.rest
      unfold W64 at t1 t2 t3
      exact vbs_len (by intro n hn; simp at hn; omega)
    have HHB := Lib.hid (show headB r = vbs [r.win.toNat, r.tot.toNat, r.over.toNat, r.trk.toNat, r.rest.toNat] ++ vbs ((r.rej.drop 1).map Int.toNat) ++ vb r.lines.length from rfl)
    rw [List.nil_append] at F5'
    generalize vbs [r.win.toNat, r.tot.toNat, r.over.toNat, r.trk.toNat, r.rest.toNat] = L5 at *
    have hrc7 : 7 ≤ rc := by omega
    have hrc1 : ¬ rc = 1 := by omega
    have hrc2 : (7 : Int) ≤ (rc : Int) := by omega
    have rb := B5.re
    (refine Tail.wp_region_tail_grown 6 (by kernel_rfl) (by kernel_rfl) ?_; simp only [List.take, List.drop]; (repeat (go_big_quiet_step (fail))); refine wpQuiet_nil ?_; rintro _ ⟨⟨d5, os5⟩, rfl⟩)
    have K6 := grownBy_trans K5 (grownBy_some (grown_re w5 d5 os5) (some g))
    have F6 := F5'.same (grown_re w5 d5 os5)
    have B6 := B5.same (grown_re w5 d5 os5)
    generalize grow (redrawn w5 d5) os5 = w6 at *
    clear rb
    have hz6 : g + 1 ≤ w6.heap.size := Nat.le_trans hz3 K6.size
    have RR6 := HR.out.same (grownBy_new G3 K6 hwg)
    have R6 : RdL wordF 1 w6 (.slice (some ⟨gr, orr + 1, none⟩) 6 (rc - 1)) (r.rej.drop 1) := by
      have h0 := RR6.rej
      rw [E2.out] at h0
      have h1 := RdL.drop1 (fun _ => rfl) h0 (k := 1) (by omega) hrc (rc - 1)
      rw [if_neg hrc1, h7] at h1
      exact h1
    have hrl : ((r.rej.drop 1).map Int.toNat).length = 6 := by rw [List.length_map, List.length_drop, h7]
    have hr64 : ∀ n ∈ (r.rej.drop 1).map Int.toNat, n < 18446744073709551616 := by
      intro n hn
      obtain ⟨x, hx, rfl⟩ := List.mem_map.1 hn
      have := HW.out.rej x (List.mem_of_mem_drop hx)
      unfold W64 at this
      omega
    have hvl6 := vbs_len hr64
    rw [hrl] at hvl6
    have hc6 := number_c (g + 1) g L5 _ _ w6 F6 (rd_nat R6 fun x hx => (HW.out.rej x (List.mem_of_mem_drop hx)).1) (fun a n c e => by cases e; show gr ≠ g; omega) hr64 (by rw [hrl]; omega) hz6
    rw [baseK_s _ _ (by omega)] at hc6
    have Hc6 := Lib.hid hc6
    clear hc6 R6 RR6 hr64 hrl F6 F5' B5
    generalize vbs ((r.rej.drop 1).map Int.toNat) = L6 at *
    go_upto_region 7 with (go_at_call 49; refine Hc6.out.mono ?_; rintro e w7 ⟨rfl, F7, g7⟩)
    have K7 := grownBy_trans K6 g7
    have F7' := F7.base (B' := g + 1) hz6 (by omega)
    have B7 := B6.kept g7 (by simp; omega)
    clear F7 g7 Hc6 K6 B6 hz6
    have hw3 : IntKind.u64.wrap (r.lines.length : Int) = (r.lines.length : Int) := IntWalk.u64_in _ (by omega)
    have rb := B7.re
    refine wp_region_any (by kernel_rfl) ?_
    (refine Tail.take_put 0 39 (.pointer (some ⟨g, 0, none⟩)) rfl rfl (by kernel_rfl) (by kernel_rfl) (by kernel_rfl) (fun _ _ _ h => h) (Or.inl ⟨by rfl, fun w => ?_⟩) ?_; · go_simp); simp only [List.setIfInBounds_toArray, List.set_cons_zero, List.set_cons_succ]
    (refine Tail.take_put 1 40 (.pointer (some ⟨g, 0, none⟩)) rfl rfl (by kernel_rfl) (by kernel_rfl) (by kernel_rfl) (fun _ _ _ h => h) (Or.inl ⟨by rfl, fun w => ?_⟩) ?_; · go_simp); simp only [List.setIfInBounds_toArray, List.set_cons_zero, List.set_cons_succ]
    (refine Tail.take_put 2 41 (.pointer (some ⟨g, 0, none⟩)) rfl rfl (by kernel_rfl) (by kernel_rfl) (by kernel_rfl) (fun _ _ _ h => h) (Or.inl ⟨by rfl, fun w => ?_⟩) ?_; · go_simp); simp only [List.setIfInBounds_toArray, List.set_cons_zero, List.set_cons_succ]
    (refine Tail.take_put 3 42 (.pointer (some ⟨b, 2, none⟩)) rfl rfl (by kernel_rfl) (by kernel_rfl) (by kernel_rfl) (fun _ _ _ h => h) (Or.inl ⟨by rfl, fun w => ?_⟩) ?_; · go_simp); simp only [List.setIfInBounds_toArray, List.set_cons_zero, List.set_cons_succ]
    (refine Tail.wpAny_tail_grown 7 [false, false, false, false, true, true, true] (by kernel_rfl) ?_; simp only [Tail.pickL, List.take, List.drop]; (repeat (go_big_quiet_step (fail))); refine wpQuiet_nil ?_; rintro _ ⟨⟨d5, os5⟩, rfl⟩)
    have K8 := grownBy_trans K7 (grownBy_some (grown_re w7 d5 os5) (some g))
    have F8 := F7'.same (grown_re w7 d5 os5)
    have B8 := B7.same (grown_re w7 d5 os5)
    generalize grow (redrawn w7 d5) os5 = w8 at *
    clear rb hw3 F7' B7
    have hz8 : g + 1 ≤ w8.heap.size := Nat.le_trans hz3 K8.size
    have L8 := Blk.one (Blk.new w8 #[.int .u64 r.lines.length] 25) natF_len r.lines.length rfl
    have hc8 := number_c (g + 1) g (L5 ++ L6) _ [r.lines.length] _ (F8.same (World.grownBy_alloc w8 (.cells #[.int .u64 r.lines.length] 25) none)) L8 (fun a n c e => by cases e; show w8.heap.size ≠ g; omega) (by have := HOK.out.few; intro n hn; simp at hn; omega) (by rw [List.length_append]; simp; omega) (by simp; omega)
    rw [baseK_s _ _ (by simp), show vbs [r.lines.length] = vb r.lines.length by simp [vbs], ← HHB.out] at hc8
    have Hc8 := Lib.hid hc8
    have g8' : w8.grownBy (w8.alloc (.cells #[.int .u64 r.lines.length] 25)) none := World.grownBy_alloc w8 _ none
    clear hc8 L8 F8
    have hhl : (headB r).length ≤ 120 := by rw [HHB.out, List.length_append, List.length_append]; have := vb_ten (show r.lines.length < 18446744073709551616 by have := HOK.out.few; omega); omega
    go_upto_region 8 with (go_at_call 49; refine Hc8.out.mono ?_; rintro e w9 ⟨rfl, F9, g9⟩)
    have K9 := grownBy_trans K8 (grownBy_trans (grownBy_some g8' (some g)) g9)
    have F9' := F9.base (B' := g + 1) (by simp; omega) (by omega)
    have B9 := (B3.kept K9 (by simp; omega)).cell
    clear F9 g9 Hc8 K8 B8 hz8 g8' K7 HHB hl5 hvl6 hrc1 hrc2 hrc7
    go_wp2_with fail
    clear B9
    go_loopw [51] (fun s51 wk => ∃ k : Nat, k ≤ r.lines.length ∧ s51 = .int .i64 k ∧ BufAt (g + 1) wk g (headB r ++ linesB (r.lines.take k)) ∧ w3.grownBy wk (some g)) (fun s51 _ => r.lines.length - (intOf s51).toNat)
    case atStart => exact ⟨0, Nat.zero_le _, rfl, by simpa [linesB] using F9', K9⟩
    case round =>
      clear F9' K9
      obtain ⟨k, hk, rfl, hF, hg⟩ := hrel
      by_cases hlt : k < r.lines.length
      · have KW := grownBy_new G3 hg hwg
        obtain ⟨gx, ox, cx, hv, hgx, hcx⟩ := (HR.out.same KW).lines.at_ lnF_len hlt
        rw [E1.out] at hv
        cases hv
        have c0 := hcx 0 _ rfl
        have c1 := hcx 1 _ rfl
        have c2 := hcx 2 _ rfl
        rw [Nat.add_zero] at c0
        obtain ⟨-, hk255, hlh, -⟩ := HOK.out.ln hlt
        have hlw := HW.out.lines _ (List.getElem_mem hlt)
        have hlo := hlw.lo
        have hhi := hlw.hi
        have HS := Lib.hid (show headB r ++ linesB (r.lines.take (k + 1)) = (headB r ++ linesB (r.lines.take k)) ++ lnB r.lines[k] by rw [List.take_succ_eq_append_getElem hlt, linesB_snoc, List.append_assoc])
        have hll : (linesB (r.lines.take k)).length ≤ 285 * k := by
          have : ∀ m, m ≤ r.lines.length → (linesB (r.lines.take m)).length ≤ 285 * m := by
            intro m
            induction m with
            | zero => intro _; simp [linesB]
            | succ m ih =>
              intro hm
              have h1 := ih (by omega)
              obtain ⟨-, q1, q2, -⟩ := HOK.out.ln (show m < r.lines.length by omega)
              have q3 := HW.out.lines _ (List.getElem_mem (show m < r.lines.length by omega))
              have q4 := q3.lo
              have q5 := q3.hi
              unfold W64 at q4 q5
              rw [List.take_succ_eq_append_getElem (by omega), linesB_snoc, List.length_append]
              have h2 : (lnB r.lines[m]).length ≤ 285 := by
                unfold lnB
                have e1 := vb_ten (show r.lines[m].key.size < 18446744073709551616 by omega)
                have e2 : (vbs [r.lines[m].lo.toNat, (r.lines[m].hi - r.lines[m].lo).toNat]).length ≤ 20 := vbs_len (by intro n hn; simp at hn; omega)
                have e3 : r.lines[m].key.data.toList.length = r.lines[m].key.size := Array.length_toList
                rw [List.length_append, List.length_append, e3]
                omega
              omega
          exact this k hk
        have hLl : (headB r ++ linesB (r.lines.take k)).length ≤ 100000 := by rw [List.length_append]; have := HOK.out.few; omega
        clear hll hcx hlw
        generalize headB r ++ linesB (r.lines.take k) = L at *
        have hlnB := Lib.hid (show lnB r.lines[k] = vb r.lines[k].key.size ++ r.lines[k].key.data.toList ++ vbs [r.lines[k].lo.toNat, (r.lines[k].hi - r.lines[k].lo).toNat] from rfl)
        generalize r.lines[k] = x at *
        go_upto_region 11 with fail
        have A10 := Blk.new wr #[.string x.key, .int .u64 x.lo, .int .u64 x.hi] 40
        have F10 := hF.same (World.grownBy_alloc wr (.cells #[.string x.key, .int .u64 x.lo, .int .u64 x.hi] 40) none)
        have K10 := grownBy_trans hg (grownBy_some (World.grownBy_alloc wr (.cells #[.string x.key, .int .u64 x.lo, .int .u64 x.hi] 40) none) (some g))
        have hgw : g < wr.heap.size := Nat.lt_of_lt_of_le (Nat.lt_of_lt_of_le (Nat.lt_succ_self g) hz3) hg.size
        generalize wr.alloc (.cells #[.string x.key, .int .u64 x.lo, .int .u64 x.hi] 40) = w10 at *
        generalize wr.heap.size = gl at *
        clear hF hg c0 c1 c2
        have ra := A10.re
        (refine Tail.wp_region_tail_grown 5 (by kernel_rfl) (by kernel_rfl) ?_; simp only [List.take, List.drop]; (repeat (go_big_quiet_step (fail))); refine wpQuiet_nil ?_; rintro _ ⟨⟨d5, os5⟩, rfl⟩)
        have F11 := F10.same (grown_re w10 d5 os5)
        have K11 := grownBy_trans K10 (grownBy_some (grown_re w10 d5 os5) (some g))
        have A11 := A10.same (grown_re w10 d5 os5)
        generalize grow (redrawn w10 d5) os5 = w11 at *
        clear ra F10 A10 K10
        have hz11 : g + 1 ≤ w11.heap.size := Nat.le_trans hz3 K11.size
        have Hc11 := Lib.hid (text_c (g + 1) g L x.key w11 F11 (by omega) (by omega) hz11)
        clear F11
        go_upto_region 12 with (go_at_call 50; refine Hc11.out.mono ?_; rintro e w12 ⟨rfl, F12, g12⟩)
        have K12 := grownBy_trans K11 g12
        have F12' := F12.base (B' := g + 1) hz11 (by omega)
        have A12 := A11.kept g12 (by simp; omega)
        clear F12 g12 Hc11 A11 K11
        have hv1 := vb_ten (show x.key.size < 18446744073709551616 by omega)
        have hv2 : x.key.data.toList.length = x.key.size := Array.length_toList
        have hLl2 : (L ++ vb x.key.size ++ x.key.data.toList).length ≤ 200000 := by rw [List.length_append, List.length_append, hv2]; omega
        have HS2 := Lib.hid (show (L ++ vb x.key.size ++ x.key.data.toList) ++ vbs [x.lo.toNat, (x.hi - x.lo).toNat] = L ++ lnB x by rw [hlnB.out]; simp only [List.append_assoc])
        clear hv1 hv2
        generalize L ++ vb x.key.size ++ x.key.data.toList = L2 at *
        unfold W64 at hlo hhi
        have hws : IntKind.u64.wrap (x.hi - x.lo) = x.hi - x.lo := IntWalk.u64_in _ (by omega)
        have ra := A12.re
        refine wp_region_any (by kernel_rfl) ?_
        (refine Tail.take_put 0 61 (.pointer (some ⟨g, 0, none⟩)) rfl rfl (by kernel_rfl) (by kernel_rfl) (by kernel_rfl) (fun _ _ _ h => h) (Or.inl ⟨by rfl, fun w => ?_⟩) ?_; · go_simp); simp only [List.setIfInBounds_toArray, List.set_cons_zero, List.set_cons_succ]
        (refine Tail.take_put 1 62 (.pointer (some ⟨g, 0, none⟩)) rfl rfl (by kernel_rfl) (by kernel_rfl) (by kernel_rfl) (fun _ _ _ h => h) (Or.inl ⟨by rfl, fun w => ?_⟩) ?_; · go_simp); simp only [List.setIfInBounds_toArray, List.set_cons_zero, List.set_cons_succ]
        (refine Tail.take_put 2 63 (.pointer (some ⟨g, 0, none⟩)) rfl rfl (by kernel_rfl) (by kernel_rfl) (by kernel_rfl) (fun _ _ _ h => h) (Or.inl ⟨by rfl, fun w => ?_⟩) ?_; · go_simp); simp only [List.setIfInBounds_toArray, List.set_cons_zero, List.set_cons_succ]
        (refine Tail.wpAny_tail_grown 10 [false, false, false, true, true, true, true, true, true, true] (by kernel_rfl) ?_; simp only [Tail.pickL, List.take, List.drop]; (repeat (go_big_quiet_step (fail))); refine wpQuiet_nil ?_; rintro _ ⟨⟨d5, os5⟩, rfl⟩)
        have F13 := F12'.same (grown_re w12 d5 os5)
        have K13 := grownBy_trans K12 (grownBy_some (grown_re w12 d5 os5) (some g))
        generalize grow (redrawn w12 d5) os5 = w13 at *
        clear ra hws F12' K12 A12
        have hz13 : g + 1 ≤ w13.heap.size := Nat.le_trans hz3 K13.size
        have L13 := (Blk.new w13 #[.int .u64 x.lo, .int .u64 (x.hi - x.lo)] 25).many natF_len [x.lo.toNat, (x.hi - x.lo).toNat] (by simp only [cellsOf, natF, List.flatMap_cons, List.flatMap_nil, List.singleton_append, List.append_nil]; rw [Int.toNat_of_nonneg (by omega), Int.toNat_of_nonneg (by omega)]) (by simp)
        have hc13 := number_c (g + 1) g L2 _ _ _ (F13.same (World.grownBy_alloc w13 (.cells #[.int .u64 x.lo, .int .u64 (x.hi - x.lo)] 25) none)) L13 (fun a n c e => by cases e; show w13.heap.size ≠ g; omega) (by intro n hn; simp at hn; omega) (by simp; omega) (by simp; omega)
        rw [baseK_s _ _ (by simp), HS2.out] at hc13
        have Hc13 := Lib.hid hc13
        have g13 : w13.grownBy (w13.alloc (.cells #[.int .u64 x.lo, .int .u64 (x.hi - x.lo)] 25)) none := World.grownBy_alloc w13 _ none
        clear hc13 L13 F13
        go_wp2_with (go_at_call 49; refine Hc13.out.mono ?_; rintro e w14 ⟨rfl, F14, g14⟩; have F14' := F14.base (B' := g + 1) (by simp; omega) (by omega); have K14 := grownBy_trans K13 (grownBy_trans (grownBy_some g13 (some g)) g14))
        exact ⟨⟨k + 1, by omega, by go_num, by rw [HS.out]; exact F14', K14⟩, by simp [intOf]; omega⟩
      · have hke : r.lines.take k = r.lines := List.take_of_length_le (by omega)
        rw [hke, show headB r ++ linesB r.lines = encF r from rfl, ← HE2.out] at hF
        obtain ⟨v, h1, h2⟩ := hF.ex
        obtain ⟨va, vc, rfl⟩ := h2.shape
        have c1 := h1.cell
        have KW := grownBy_new G3 hg hwg
        have h3 := Lib.hid h2
        obtain ⟨EE, hEE⟩ : ∃ EE, encR r = EE := ⟨_, rfl⟩
        have HEE := Lib.hid hEE
        rw [hEE] at h3 h2 h1 c1
        clear hEE
        go_wp2_with fail
        refine bodyPost_ret (v := .tuple #[.slice va EE.length vc, .int .i64 0]) (by simp [results, Tryz.results15, go_sem]) rfl ?_
        exact ⟨.slice va EE.length vc, by rw [Her.out], by rw [HEE.out]; exact h3.out.base fun q hq => by have := (h3.out.lt q hq).1; omega, KW⟩
  · have heb : (er != 0) = true := by simp [he]
    have HE2 := Lib.hid (HER.out.trans (if_neg he))
    clear he her
    go_wp2_with fail
    refine bodyPost_ret (v := .tuple #[.slice none 0 0, .int .i64 er]) (by simp [results, Tryz.results15, go_sem]) rfl ?_
    exact ⟨.slice none 0 0, by rw [Her.out], by rw [HE2.out]; exact Own.nil _ _ _ _ _, G2⟩
end Go.Proofs.YtiagjiaahnkefaaGreat

/- Bytes compared; the example of chapter 24. -/
namespace Go.Proofs.YtiagjiaahnkefaaGreat
open Go.RowKit Go.Sort

set_option maxHeartbeats 400000 in
theorem sameBy_c (v v' : Value) (L : List UInt8) (w : World) (h : RdL byF 1 w v L) (h' : RdL byF 1 w v' L) : Calls Tryz.prog 16 #[v, v'] w (RetBool true w) := by
  obtain ⟨a, c, rfl⟩ := h.shape
  obtain ⟨a', c', rfl⟩ := h'.shape
  have hm := h.2.1
  have hne : ((L.length : Int) != (L.length : Int)) = false := by simp
  have H := Lib.hid h
  have H' := Lib.hid h'
  clear h h'
  go_enter Tryz.func16, Tryz.ntmps16
  go_wp2_with fail
  go_loopw [13] (fun s13 wr => ∃ k : Nat, k ≤ L.length ∧ s13 = .int .i64 k ∧ w.grownBy wr none) (fun s13 _ => L.length - (intOf s13).toNat)
  case atStart => exact ⟨0, Nat.zero_le _, rfl, grownBy_refl _ _⟩
  case round =>
    obtain ⟨k, hk, rfl, hg⟩ := hrel
    by_cases hlt : k < L.length
    · obtain ⟨g, off, cap, hv, hgl, hc⟩ := (RdL.same H.out hg).one by_one hlt
      obtain ⟨g', off', cap', hv', hgl', hc'⟩ := (RdL.same H'.out hg).one by_one hlt
      cases hv
      cases hv'
      generalize L[k] = x at *
      have hx : ((x.toNat : Int) != (x.toNat : Int)) = false := by simp
      have hk0 : (0 : Int) ≤ (k : Int) := by omega
      have hk1 : (k : Int) < (L.length : Int) := by omega
      go_wp2_with fail
      go_quiet (fail)
      go_wp2_with fail
      exact ⟨⟨k + 1, by omega, by go_num, grownBy_drewN hg _⟩, by simp [intOf]; omega⟩
    · go_wp2_with fail
      go_ret
      exact retBool rfl hg

def awkR (vl vr : Value) : Rep := ⟨2, 5, vl, 0, 1, 0, vr, [⟨⟨#[97]⟩, 5, 5⟩], [0, 0, 0, 0, 0, 0, 0]⟩
theorem awk_err (vl vr : Value) : repErr (awkR vl vr) = 0 := by rfl
def awkB : List UInt8 := [2, 5, 0, 1, 0, 0, 0, 0, 0, 0, 0, 1, 1, 97, 5, 0]
theorem awk_enc (vl vr : Value) : encR (awkR vl vr) = awkB := by
  unfold encR
  rw [if_pos (awk_err vl vr)]
  simp [encF, headB, linesB, lnB, vbs, awkR, awkB, vb_small, ByteArray.size]
theorem awk_w (vl vr : Value) : RepW (awkR vl vr) := by
  refine ⟨by unfold I64 awkR; simp, by unfold W64 awkR; simp, by unfold W64 awkR; simp, by unfold I64 awkR; simp, by unfold W64 awkR; simp, fun x hx => ?_, fun n hn => ?_⟩
  · simp only [awkR, List.mem_singleton] at hx
    subst hx
    exact ⟨by unfold W64; simp, by unfold W64; simp, by show (1 : Nat) ≤ _; omega⟩
  · simp only [awkR, List.mem_cons, List.not_mem_nil, or_false, or_self] at hn
    subst hn
    exact w64_0

set_option maxHeartbeats 1000000 in
set_option maxRecDepth 100000 in
theorem awake24_c (w : World) : Calls Tryz.prog 6 #[] w (RetBool true w) := by
  have hmk : ∀ w, (Instr.makeSlice 23 (.int .i64 7) (.int .i64 7)).run Tryz.prog w = .ok (.slice (some ⟨w.heap.size, 0, none⟩) 7 7) (w.alloc (.cells #[.int .u64 0, .int .u64 0, .int .u64 0, .int .u64 0, .int .u64 0, .int .u64 0, .int .u64 0] 25)) := fun _ => by kernel_rfl
  have A1 := (Blk.new w #[.string ⟨#[97]⟩, .int .u64 5, .int .u64 5] 40).same (World.grownBy_alloc _ (.cells #[.int .u64 0, .int .u64 0, .int .u64 0, .int .u64 0, .int .u64 0, .int .u64 0, .int .u64 0] 25) none)
  have A2 := Blk.new' (w.alloc (.cells #[.string ⟨#[97]⟩, .int .u64 5, .int .u64 5] 40)) #[.int .u64 0, .int .u64 0, .int .u64 0, .int .u64 0, .int .u64 0, .int .u64 0, .int .u64 0] 25 (g := w.heap.size + 1) (by simp)
  have R1 := A1.one lnF_len ⟨⟨#[97]⟩, 5, 5⟩ rfl
  have R2 := A2.many (f := wordF) (size := 1) (fun _ => rfl) [0, 0, 0, 0, 0, 0, 0] rfl (by simp)
  have hR : RepRd ((w.alloc (.cells #[.string ⟨#[97]⟩, .int .u64 5, .int .u64 5] 40)).alloc (.cells #[.int .u64 0, .int .u64 0, .int .u64 0, .int .u64 0, .int .u64 0, .int .u64 0, .int .u64 0] 25)) (awkR (.slice (some ⟨w.heap.size, 0, none⟩) 1 1) (.slice (some ⟨w.heap.size + 1, 0, none⟩) 7 7)) := ⟨R1, R2, fun a n c e => by cases e; omega, fun a n c e => by cases e; omega⟩
  have hc := encode_c _ _ hR (awk_w _ _)
  have HP := Lib.hid (p := ∀ e w', EncPost (awkR (.slice (some ⟨w.heap.size, 0, none⟩) 1 1) (.slice (some ⟨w.heap.size + 1, 0, none⟩) 7 7)) ((w.alloc (.cells #[.string ⟨#[97]⟩, .int .u64 5, .int .u64 5] 40)).alloc (.cells #[.int .u64 0, .int .u64 0, .int .u64 0, .int .u64 0, .int .u64 0, .int .u64 0, .int .u64 0] 25)) e w' → ∃ v, e = .returned (.tuple #[v, .int .i64 0]) ∧ RdL byF 1 w' v awkB ∧ w.grownBy w' none) (fun e w' ⟨v, h1, h2, h3⟩ => ⟨v, by rw [h1, awk_err], by rw [awk_enc] at h2; exact h2.rd, grownBy_trans (grownBy_new_block (grownBy_new_block (grownBy_refl _ _) _) _) h3⟩)
  have Hc := Lib.hid hc
  clear hc hR R1 R2 A1 A2
  go_enter Tryz.func6, Tryz.ntmps6
  go_upto_region 2 with (go_at_call 15; refine Hc.out.mono ?_; intro e w2 he; obtain ⟨v, rfl, R3, g3⟩ := HP.out e w2 he; clear he)
  have R4 := RdL.same R3 (World.grownBy_alloc w2 (.cells #[.int .u8 2, .int .u8 5, .int .u8 0, .int .u8 1, .int .u8 0, .int .u8 0, .int .u8 0, .int .u8 0, .int .u8 0, .int .u8 0, .int .u8 0, .int .u8 1, .int .u8 1, .int .u8 97, .int .u8 5, .int .u8 0] 5) none)
  have L4 := (Blk.new w2 #[.int .u8 2, .int .u8 5, .int .u8 0, .int .u8 1, .int .u8 0, .int .u8 0, .int .u8 0, .int .u8 0, .int .u8 0, .int .u8 0, .int .u8 0, .int .u8 1, .int .u8 1, .int .u8 97, .int .u8 5, .int .u8 0] 5).many byF_len awkB rfl (by decide)
  have Hs := Lib.hid (sameBy_c _ _ awkB _ R4 L4)
  have g4 := grownBy_new_block g3 (.cells #[.int .u8 2, .int .u8 5, .int .u8 0, .int .u8 1, .int .u8 0, .int .u8 0, .int .u8 0, .int .u8 0, .int .u8 0, .int .u8 0, .int .u8 0, .int .u8 1, .int .u8 1, .int .u8 97, .int .u8 5, .int .u8 0] 5)
  clear R4 L4 R3 Hc HP
  go_wp2_with (go_at_call 16; refine Hs.out.mono ?_; rintro e w5 ⟨rfl, g5⟩)
  go_ret
  exact retBool rfl (grownBy_trans g4 g5)
end Go.Proofs.YtiagjiaahnkefaaGreat

/- The walk of the law ReportBuild. -/
namespace Go.Proofs.YtiagjiaahnkefaaGreat
open Go.RowKit Go.Sort
attribute [local go_sem ↓] exec_load_cfg
attribute [local go_sem] run_loadCfgS

set_option maxHeartbeats 1600000 in
set_option maxRecDepth 100000 in
theorem build_w (sv pv rv : Value) (xs P rej : List Int) (n : Nat) (win : Int) (w : World) (hsv : Rd w 1 sv n (xs.map (fun x => Value.int .i64 x))) (hpv : RdL intF 1 w pv P) (hrv : RdL wordF 1 w rv rej) :
    Calls Tryz.prog 3 #[sv, pv, rv, .int .i64 win] w (RetBool true w) := by
  have HS := Lib.hid hsv
  have HP := Lib.hid hpv
  have HR := Lib.hid hrv
  have hrm := hrv.2.1
  obtain ⟨sa, sc, rfl⟩ := hsv.shape
  obtain ⟨pa, pc, rfl⟩ := hpv.shape
  obtain ⟨ra, rc, rfl⟩ := hrv.shape
  clear hsv hpv hrv
  by_cases hk : 30 < rej.length
  · go_enter Tryz.func3, Tryz.ntmps3
    go_wp2_with (go_at_call 6; refine (awake24_c _).mono ?_; rintro e w6 ⟨rfl, G6⟩)
    go_ret
    exact retBool rfl G6
  · have hk2 : (rej.length : Int) ≤ 30 := by omega
    have hk3 : rej.length ≤ 1000000 := by omega
    go_enter Tryz.func3, Tryz.ntmps3
    go_upto_region 4 with (first | (go_at_call 7; refine (few24_c _ xs _ _ HS.out).mono ?_; rintro e w1 ⟨c, lc, t, lv, l, win0, rej0, vl0, vr0, rfl, F1, P1, P2, P3, P4, P5, P6, P7, P8, G1⟩; (obtain ⟨la, lcp, rfl⟩ := F1.sums.rd.shape); (obtain ⟨a0, k0, rfl⟩ := P1.shape); (obtain ⟨b0, j0, rfl⟩ := P2.shape); have oc1 := F1.mem.one1; have oc2 := F1.mem.one2) | (refine alloc_cfg rfl rfl ?_; intro w2 B2 G2 z2) | (refine alloc_rep rfl rfl ?_; intro w3 A3 G3 z3; have B3 := B2.same G3) | (refine store_cfg rfl _ _ rfl _ rfl c rfl oc1 oc2 Cfg.zero (by assumption) ?_; intro w4 B4 G4; have A4 := A3.kept G4 (by simp; omega)) | (refine store_rep rfl _ _ rfl _ rfl rfl rfl rfl _ rfl (by assumption) ?_; intro w5 A5 G5; have B5 := B4.kept G5 (by simp; omega); have K5 := grownBy_new (grownBy_new (grownBy_trans G2 G3) G4 (Nat.le_refl _)) G5 (Nat.le_of_lt z2)))
    simp only [Act.put, List.setIfInBounds_toArray, List.set_cons_zero, List.set_cons_succ]
    clear P1 P2 P3 P4 P5 P6 P7 P8
    have KW := grownBy_trans G1 K5
    have F5 := Lib.hid (F1.same K5)
    have PV := Lib.hid (RdL.same HP.out KW)
    have RV := Lib.hid (RdL.same HR.out KW)
    clear A5 G5 A4 G4 A3 G3 z3 B4 B3 B2 G2 z2 F1 HS HP HR
    have Hc1 := Lib.hid (p := ∀ w', World.grownBy w5 w' none → Calls Tryz.prog 9 #[c.val, .int .i64 win, .slice la l.length lcp, .slice ra rej.length rc, .slice pa P.length pc] w' (fun e w2 => ∃ vl vr, e = .returned (repV win (totalF l) vl (bOver c t l) ((keysF l).length : Int) (bRest c t l) vr) ∧ RdL lnF 3 w2 vl (bLs c t l) ∧ RdL wordF 1 w2 vr rej ∧ w'.grownBy w2 none)) (fun w' h => (build_c c lc t _ l _ P _ rej win w' (F5.out.same h) (RdL.same PV.out h) (RdL.same RV.out h) hk3).mono fun e w2 ⟨vl, vr, h1, h2, h3, _, _, _, _, h4⟩ => ⟨vl, vr, h1, h2, h3, h4⟩)
    have Hc2 := Lib.hid (p := ∀ w', World.grownBy w5 w' none → Calls Tryz.prog 10 #[c.val, .int .i64 win, .slice la l.length lcp, .slice ra rej.length rc] w' (fun e w2 => ∃ vl vr, e = .returned (repV win (totalF l) vl (bOver c t l) ((keysF l).length : Int) (bRest c t l) vr) ∧ RdL lnF 3 w2 vl (bLs c t l) ∧ RdL wordF 1 w2 vr rej ∧ w'.grownBy w2 none)) (fun w' h => (rbuild_c c lc t _ l _ rej win w' (F5.out.same h) (RdL.same RV.out h) hk3).mono fun e w2 ⟨vl, vr, h1, h2, h3, _, _, _, _, h4⟩ => ⟨vl, vr, h1, h2, h3, h4⟩)
    generalize bLs c t l = Ls at *
    generalize bOver c t l = ov at *
    generalize bRest c t l = rst at *
    generalize totalF l = tot at *
    generalize ((keysF l).length : Int) = kn at *
    have B6 := B5.same (w' := w5.drew) (by (repeat (first | exact grownBy_refl _ _ | assumption | refine grownBy_new_block ?_ _ | refine grownBy_drew ?_ | refine grownBy_drewN ?_ _ | refine grownBy_setNew ?_ (by first | (simp; done) | omega | (simp; omega)) _)))
    have K6 : World.grownBy w5 w5.drew none := (by (repeat (first | exact grownBy_refl _ _ | assumption | refine grownBy_new_block ?_ _ | refine grownBy_drew ?_ | refine grownBy_drewN ?_ _ | refine grownBy_setNew ?_ (by first | (simp; done) | omega | (simp; omega)) _)))
    (refine Rg.wp_region_rgZ 16 #[] (fun w w' => World.grownBy w w' none) (fun k _ w v w' => match k with | 5 => (∃ vl vr, v = repV win tot vl ov kn rst vr ∧ RdL lnF 3 w' vl Ls ∧ RdL wordF 1 w' vr rej) ∧ World.grownBy w w' none | 10 => (∃ vl vr, v = repV win tot vl ov kn rst vr ∧ RdL lnF 3 w' vl Ls ∧ RdL wordF 1 w' vr rej) ∧ World.grownBy w w' none | 11 => v = .bool true ∧ World.grownBy w w' none | 13 => v = .bool true ∧ World.grownBy w w' none | _ => False) (by kernel_rfl) (by kernel_rfl) (fun w => grownBy_refl w none) (fun _ _ _ h k => grownBy_trans h k) (fun _ _ _ _ _ h => h) ?_; simp only [List.take, List.drop])
    generalize w5.drew = w6 at *
    ((refine Rg.tree_op rfl rfl ?_; intro x0 mx0 dx0); clear dx0; have BX := B6.same mx0; go_wp2_with (refine load_cfg rfl _ rfl _ rfl c (by assumption) ?_); refine ⟨grownBy_refl _ _, ?_⟩; clear BX)
    (refine Rg.tree_quiet 4 rfl (by first | exact Or.inl rfl | exact Or.inr rfl) ?_; simp only [List.take, List.drop, List.length_cons, List.length_nil, List.replicate, Nat.reduceAdd]; (try simp only [List.cons_append]); (try simp only [List.nil_append]); (repeat (go_big_quiet_step (fail))); refine wpQuiet_nil ?_)
    (refine Rg.tree_call rfl rfl rfl ?_; intro x5 mx5 dx5; refine ⟨?_, ?_⟩; · (unfold Rg.callSpec; go_simp; (refine (Hc1.out x5 (grownBy_trans K6 mx5)).mono ?_; rintro e w' ⟨vl, vr, rfl, h1, h2, g⟩; exact ⟨_, rfl, ⟨vl, vr, rfl, h1, h2⟩, g⟩)))
    clear dx5
    rintro v5 y5 ⟨⟨vl5, vr5, rfl, L5, R5⟩, g5⟩
    refine ⟨g5, ?_⟩
    simp only [Act.put, List.setIfInBounds_toArray, List.set_cons_zero, List.set_cons_succ]
    ((refine Rg.tree_op rfl rfl ?_; intro x6 mx6 dx6); clear dx6; have BX := B6.same mx6; go_wp2_with (refine load_cfg rfl _ rfl _ rfl c (by assumption) ?_); refine ⟨grownBy_refl _ _, ?_⟩; clear BX)
    (refine Rg.tree_quiet 3 rfl (by first | exact Or.inl rfl | exact Or.inr rfl) ?_; simp only [List.take, List.drop, List.length_cons, List.length_nil, List.replicate, Nat.reduceAdd]; (try simp only [List.cons_append]); (try simp only [List.nil_append]); (repeat (go_big_quiet_step (fail))); refine wpQuiet_nil ?_)
    (refine Rg.tree_call rfl rfl rfl ?_; intro x10 mx10 dx10; refine ⟨?_, ?_⟩; · (unfold Rg.callSpec; go_simp; (refine (Hc2.out x10 (grownBy_trans K6 mx10)).mono ?_; rintro e w' ⟨vl, vr, rfl, h1, h2, g⟩; exact ⟨_, rfl, ⟨vl, vr, rfl, h1, h2⟩, g⟩)))
    clear dx10
    rintro v10 y10 ⟨⟨vl10, vr10, rfl, L10, R10⟩, g10⟩
    refine ⟨g10, ?_⟩
    simp only [Act.put, List.setIfInBounds_toArray, List.set_cons_zero, List.set_cons_succ]
    (refine Rg.tree_call rfl rfl rfl ?_; intro x11 mx11 dx11; refine ⟨?_, ?_⟩; · (unfold Rg.callSpec; go_simp; (refine (sameRep_c win tot ov kn rst vl5 vr5 vl10 vr10 Ls rej x11 (RdL.same L5 (dx11.out 5 (by omega) (by kernel_rfl))) (RdL.same R5 (dx11.out 5 (by omega) (by kernel_rfl))) (RdL.same L10 (dx11.out 10 (by omega) (by kernel_rfl))) (RdL.same R10 (dx11.out 10 (by omega) (by kernel_rfl)))).mono ?_; rintro e w' ⟨rfl, g⟩; exact ⟨_, rfl, rfl, g⟩)))
    clear dx11
    rintro v11 y11 ⟨rfl, g11⟩
    refine ⟨g11, ?_⟩
    simp only [Act.put, List.setIfInBounds_toArray, List.set_cons_zero, List.set_cons_succ]
    (refine Rg.tree_quiet 1 rfl (by first | exact Or.inl rfl | exact Or.inr rfl) ?_; simp only [List.take, List.drop, List.length_cons, List.length_nil, List.replicate, Nat.reduceAdd]; (try simp only [List.cons_append]); (try simp only [List.nil_append]); (repeat (go_big_quiet_step (fail))); refine wpQuiet_nil ?_)
    (refine Rg.tree_callG rfl rfl rfl ?_; intro x13 mx13 dx13; refine ⟨?_, ?_⟩; · (unfold Rg.callSpec; go_simp; (refine (awake24_c x13).mono ?_; rintro e w' ⟨rfl, g⟩; exact ⟨_, rfl, rfl, g⟩)))
    clear dx13
    rintro v13 y13 ⟨rfl, g13⟩
    refine ⟨g13, ?_⟩
    simp only [Act.put, List.setIfInBounds_toArray, List.set_cons_zero, List.set_cons_succ]
    (refine Rg.tree_quiet 2 rfl (by first | exact Or.inl rfl | exact Or.inr rfl) ?_; simp only [List.take, List.drop, List.length_cons, List.length_nil, List.replicate, Nat.reduceAdd]; (try simp only [List.cons_append]); (try simp only [List.nil_append]); (repeat (go_big_quiet_step (fail))); refine wpQuiet_nil ?_)
    (refine Rg.tree_nil ?_; intro x15 mx15 dx15 cx15)
    have K15 := grownBy_trans KW (grownBy_trans K6 mx15)
    clear dx15 cx15 B6 B5 Hc1 Hc2
    go_wp2_with fail
    go_ret
    exact retBool rfl K15
end Go.Proofs.YtiagjiaahnkefaaGreat

/- The built report is accepted: plain laws. The lower bounds of all lines add up to the total at most; the listed lines stand in their order. -/
namespace Go.Proofs.YtiagjiaahnkefaaGreat
open Go.RowKit Go.Sort

/-! ### The order -/
theorem bef_trans {x y z : Ln} (h1 : befB x y = true) (h2 : befB y z = true) : befB x z = true := by
  simp only [befB, Bool.or_eq_true, Bool.and_eq_true, decide_eq_true_eq] at h1 h2 ⊢
  rcases h1 with h1 | ⟨h1, k1⟩ <;> rcases h2 with h2 | ⟨h2, k2⟩
  · left; omega
  · left; omega
  · left; omega
  · exact .inr ⟨by omega, List.lt_trans k1 k2⟩
theorem bef_total {x y : Ln} (hk : x.key.data.toList ≠ y.key.data.toList) (h : befB x y = false) : befB y x = true := by
  by_cases e : x.hi < y.hi
  · simp [befB, e]
  · by_cases e2 : y.hi < x.hi
    · simp [befB, e2] at h
    · have e3 : x.hi = y.hi := by omega
      by_cases e4 : x.key.data.toList < y.key.data.toList
      · simp [befB, e3, e4] at h
      · have e5 : y.key.data.toList < x.key.data.toList := by
          by_cases e6 : y.key.data.toList < x.key.data.toList
          · exact e6
          · exact absurd (List.le_antisymm (List.not_lt.1 e6) (List.not_lt.1 e4)) hk
        simp [befB, e3, e5]
theorem insK_spec (x : Ln) (L : List Ln) : ∀ k, k ≤ L.length → (∀ j (hj : j < L.length), insK x L k ≤ j → j < k → befB x L[j] = true) ∧ ∀ m (hm : m < L.length), insK x L k = m + 1 → befB x L[m] = false
  | 0, _ => ⟨fun j _ _ h => absurd h (by omega), fun m _ h => by simp [insK] at h⟩
  | k + 1, hk => by
    have hlt : k < L.length := by omega
    obtain ⟨h1, h2⟩ := insK_spec x L k (by omega)
    have e : insK x L (k + 1) = if befB x L[k] = true then insK x L k else k + 1 := by
      rw [insK, List.getElem?_eq_getElem hlt]; rfl
    by_cases hb : befB x L[k] = true
    · rw [e, if_pos hb]
      refine ⟨fun j hj ha hjk => ?_, h2⟩
      by_cases hjk2 : j < k
      · exact h1 j hj ha hjk2
      · obtain rfl : j = k := by omega
        exact hb
    · rw [e, if_neg hb]
      refine ⟨fun j hj ha hjk => absurd ha (by omega), fun m hm hme => ?_⟩
      obtain rfl : m = k := by omega
      simpa using hb
theorem insL_sorted {L : List Ln} {x : Ln} (h : L.Pairwise fun a b => befB a b = true) (hk : ∀ y ∈ L, x.key.data.toList ≠ y.key.data.toList) : (insL L x).Pairwise fun a b => befB a b = true := by
  obtain ⟨h1, h2⟩ := insK_spec x L L.length (Nat.le_refl _)
  have hle := insK_le x L L.length
  unfold insL
  generalize insK x L L.length = p at *
  have hpre : ∀ j (hj : j < L.length), j < p → befB L[j] x = true := by
    intro j hj hjp
    obtain ⟨m, rfl⟩ : ∃ m, p = m + 1 := ⟨p - 1, by omega⟩
    have hm : m < L.length := by omega
    have hx := bef_total (hk _ (List.getElem_mem hm)) (h2 m hm rfl)
    by_cases e : j = m
    · subst e; exact hx
    · exact bef_trans (List.pairwise_iff_getElem.1 h j m hj hm (by omega)) hx
  have htd : L.take p ++ L.drop p = L := List.take_append_drop p L
  have h' := h
  rw [← htd, List.pairwise_append] at h'
  obtain ⟨a1, a2, a3⟩ := h'
  rw [List.append_assoc, List.pairwise_append]
  refine ⟨a1, ?_, ?_⟩
  · rw [List.singleton_append, List.pairwise_cons]
    refine ⟨fun y hy => ?_, a2⟩
    obtain ⟨i, hi, rfl⟩ := List.getElem_of_mem hy
    rw [List.getElem_drop]
    rw [List.length_drop] at hi
    exact h1 (p + i) (by omega) (by omega) (by omega)
  · intro a ha b hb
    rw [List.singleton_append, List.mem_cons] at hb
    rcases hb with rfl | hb
    · obtain ⟨i, hi, rfl⟩ := List.getElem_of_mem ha
      rw [List.getElem_take]
      rw [List.length_take] at hi
      exact hpre i (by omega) (by omega)
    · exact a3 a ha b hb
theorem sortLn_sorted {l : List Ln} (h : (keysN l).Nodup) : (sortLn l).Pairwise fun a b => befB a b = true := by
  have : ∀ (l a : List Ln), (a.Pairwise fun x y => befB x y = true) → (keysN (a ++ l)).Nodup → ((l.foldl insL a).Pairwise fun x y => befB x y = true) := by
    intro l
    induction l with
    | nil => intro a ha _; exact ha
    | cons x l ih =>
      intro a ha hn
      simp only [List.foldl_cons]
      refine ih _ (insL_sorted ha fun y hy e => ?_) ?_
      · unfold keysN at hn
        rw [List.map_append, List.nodup_append] at hn
        exact hn.2.2 _ (List.mem_map.2 ⟨y, hy, rfl⟩) _ (List.mem_map.2 ⟨x, by simp, rfl⟩) e.symm
      · have hp : (keysN (insL a x ++ l)).Perm (keysN (a ++ x :: l)) := by
          unfold keysN
          refine List.Perm.map _ ?_
          have := (insL_perm a x).append_right l
          simpa using this
        exact hp.nodup_iff.2 hn
  exact this l [] (by simp) (by simpa using h)

/-! ### The sums -/
def sumB (g : Bytes → Int) (K : List Bytes) : Int := (K.map g).foldl (· + ·) 0
theorem sumB_cons (g : Bytes → Int) (b : Bytes) (K : List Bytes) : sumB g (b :: K) = g b + sumB g K := by
  have : ∀ (l : List Int) (a : Int), l.foldl (· + ·) a = a + l.foldl (· + ·) 0 := by
    intro l
    induction l with
    | nil => intro a; simp
    | cons x l ih => intro a; simp only [List.foldl_cons]; rw [ih (a + x), ih (0 + x)]; omega
  unfold sumB
  simp only [List.map_cons, List.foldl_cons]
  rw [this]; omega
theorem sumB_nil (g : Bytes → Int) : sumB g [] = 0 := rfl
theorem sumB_le {f g : Bytes → Int} : ∀ {K : List Bytes}, (∀ b ∈ K, f b ≤ g b) → sumB f K ≤ sumB g K
  | [], _ => Int.le_refl _
  | b :: K, h => by
    rw [sumB_cons, sumB_cons]
    have := sumB_le fun x hx => h x (List.mem_cons_of_mem b hx)
    have := h b (by simp)
    omega
theorem sumB_add (f g : Bytes → Int) : ∀ K : List Bytes, sumB (fun b => f b + g b) K = sumB f K + sumB g K
  | [] => rfl
  | b :: K => by rw [sumB_cons, sumB_cons, sumB_cons, sumB_add f g K]; omega
theorem sumI_add (f g : Int → Int) : ∀ is : List Int, sumI (fun i => f i + g i) is = sumI f is + sumI g is
  | [] => rfl
  | i :: is => by rw [sumI_cons, sumI_cons, sumI_cons, sumI_add f g is]; omega
theorem sumI_zero : ∀ is : List Int, sumI (fun _ => 0) is = 0
  | [] => rfl
  | i :: is => by rw [sumI_cons, sumI_zero is]; omega
theorem sum_swap (f : Bytes → Int → Int) (is : List Int) : ∀ K : List Bytes, sumB (fun b => sumI (f b) is) K = sumI (fun i => sumB (fun b => f b i) K) is
  | [] => (sumI_zero is).symm
  | b :: K => by
    rw [sumB_cons, sum_swap f is K, ← sumI_add]
    congr 1
    funext i
    rw [sumB_cons]
theorem sumB_zero {g : Bytes → Int} : ∀ {K : List Bytes}, (∀ b ∈ K, g b = 0) → sumB g K = 0
  | [], _ => rfl
  | b :: K, h => by rw [sumB_cons, sumB_zero fun x hx => h x (List.mem_cons_of_mem b hx), h b (by simp)]; rfl
theorem loSum_all (c : Cfg) (t : List Int) (l : List Summ) : ∀ K : List Bytes, loSum (K.map (lnOf c t l)) = sumB (fun b => (lineF c t l (bA b)).1) K
  | [] => rfl
  | b :: K => by rw [List.map_cons, loSum_cons, loSum_all c t l K, sumB_cons]; rfl
theorem loSum_perm {l l' : List Ln} (h : l.Perm l') : loSum l = loSum l' := by
  induction h with
  | nil => rfl
  | cons x _ ih => rw [loSum_cons, loSum_cons, ih]
  | swap x y l => rw [loSum_cons, loSum_cons, loSum_cons, loSum_cons]; omega
  | trans _ _ ih1 ih2 => exact ih1.trans ih2

def ownSum (es : List Ent) : Int := es.foldl (fun a e => a + e.own) 0
theorem ownSum_from : ∀ (es : List Ent) (a : Int), es.foldl (fun a e => a + e.own) a = a + ownSum es
  | [], a => by simp [ownSum]
  | e :: es, a => by
    unfold ownSum
    simp only [List.foldl_cons]
    rw [ownSum_from es (a + e.own), ownSum_from es (0 + e.own)]
    omega
theorem ownSum_cons (e : Ent) (es : List Ent) : ownSum (e :: es) = e.own + ownSum es := by
  show (e :: es).foldl (fun a e => a + e.own) 0 = _
  simp only [List.foldl_cons]
  rw [ownSum_from]; omega
theorem ownF_min : ∀ (es : List Ent) (a : Int), (∀ e ∈ es, 0 ≤ e.own) → a ≤ 18446744073709551615 → es.foldl (fun n e => satA n e.own) a = min (a + ownSum es) 18446744073709551615
  | [], a, _, ha => by simp [ownSum]; omega
  | e :: es, a, h, ha => by
    have h0 := h e (by simp)
    simp only [List.foldl_cons]
    have hs : 0 ≤ ownSum es := by
      have : ∀ es : List Ent, (∀ e ∈ es, 0 ≤ e.own) → 0 ≤ ownSum es := by
        intro es
        induction es with
        | nil => intro _; simp [ownSum]
        | cons x es ih =>
          intro h
          rw [ownSum_cons]
          have := ih fun y hy => h y (List.mem_cons_of_mem x hy)
          have := h x (by simp)
          omega
      exact this es fun y hy => h y (List.mem_cons_of_mem e hy)
    rw [ownF_min es _ (fun y hy => h y (List.mem_cons_of_mem e hy)) (by unfold satA; split <;> omega), ownSum_cons]
    unfold satA
    split <;> omega
theorem keyEq_iff (b : Bytes) (e : Ent) : keyEq (bA b) e = true ↔ b = entK e := by
  unfold keyEq entK bA
  rw [beq_iff_eq, ByteArray.toList_eq, ByteArray.toList_eq]
  exact eq_comm
/-- Over different keys, each entry counts once at most. -/
theorem own_once (un : Int) : ∀ (es : List Ent) (K : List Bytes), K.Nodup → (∀ e ∈ es, 0 ≤ e.own) → sumB (fun b => (bndE es un (bA b)).1) K ≤ ownSum es
  | [], K, _, _ => by
    exact Int.le_of_eq ((sumB_zero fun b _ => rfl).trans rfl)
  | e :: es, K, hK, h => by
    have h0 := h e (by simp)
    have hr := own_once un es K hK fun y hy => h y (List.mem_cons_of_mem e hy)
    have hp : ∀ k, 0 ≤ (bndE es un k).1 := by
      intro k
      unfold bndE
      split
      · rename_i x hx
        exact h x (List.mem_cons_of_mem e (List.mem_of_find?_eq_some hx))
      · exact Int.le_refl _
    have h1 : sumB (fun b => (bndE (e :: es) un (bA b)).1) K ≤ sumB (fun b => (if b = entK e then e.own else 0) + (bndE es un (bA b)).1) K := by
      refine sumB_le fun b _ => ?_
      by_cases hb : b = entK e
      · rw [if_pos hb]
        have : (bndE (e :: es) un (bA b)).1 = e.own := by
          unfold bndE
          rw [List.find?_cons_of_pos ((keyEq_iff b e).2 hb)]
        have := hp (bA b)
        omega
      · rw [if_neg hb]
        have : (bndE (e :: es) un (bA b)).1 = (bndE es un (bA b)).1 := by
          unfold bndE
          rw [List.find?_cons_of_neg (fun hq => hb ((keyEq_iff b e).1 hq))]
        omega
    rw [sumB_add] at h1
    have h2 : sumB (fun b => if b = entK e then e.own else 0) K ≤ e.own := by
      have : ∀ K : List Bytes, K.Nodup → sumB (fun b => if b = entK e then e.own else 0) K ≤ e.own := by
        intro K
        induction K with
        | nil => intro _; exact h0
        | cons b K ih =>
          intro hn
          rw [List.nodup_cons] at hn
          rw [sumB_cons]
          by_cases hb : b = entK e
          · rw [if_pos hb, sumB_zero fun x hx => if_neg fun he => hn.1 (by rw [hb, ← he]; exact hx)]
            omega
          · rw [if_neg hb]
            have := ih hn.2
            omega
      exact this K hK
    rw [ownSum_cons]
    omega

section
variable {c : Cfg} {lc : List (Int × Int)} {t : List Int} {lv : Value} {l : List Summ} {w : World}
def ownAt (l : List Summ) (k : ByteArray) (i : Int) : Int := match l[i.toNat]? with
  | some s => (bndE s.es s.untr k).1
  | none => 0
theorem own_tot {s : Summ} (h : SummG c s) : ownSum s.es ≤ s.total ∧ ∀ e ∈ s.es, 0 ≤ e.own := by
  have h1 : ∀ e ∈ s.es, 0 ≤ e.own := fun e he => (h.num.es e he).1.1
  refine ⟨?_, h1⟩
  have h2 : ownF s.es ≤ s.total := by
    have he := h.err
    unfold sumErr at he
    by_cases a1 : 9223372036854775808 < s.total ∨ s.total < s.untr
    · rw [if_pos a1] at he; cases he
    rw [if_neg a1] at he
    by_cases a2 : 96 < s.es.length
    · rw [if_pos a2] at he; cases he
    rw [if_neg a2] at he
    by_cases a3 : entsErr s.total s.es ≠ 0
    · rw [if_pos a3] at he; exact absurd he a3
    rw [if_neg a3] at he
    by_cases a4 : s.total < ownF s.es
    · rw [if_pos a4] at he; cases he
    · omega
  have h3 : s.total ≤ 9223372036854775808 := by
    have he := h.err
    unfold sumErr at he
    by_cases a1 : 9223372036854775808 < s.total ∨ s.total < s.untr
    · rw [if_pos a1] at he; cases he
    · omega
  have h4 : ownF s.es = min (0 + ownSum s.es) 18446744073709551615 := ownF_min s.es 0 h1 (by omega)
  omega
theorem bP_12 (h : Few c lc t lv l w) (k : ByteArray) (i : Int) : (bP c t l k i).1 ≤ (bP c t l k i).2 ∧ (bP c t l k i).1 ≤ ownAt l k i := by
  have e : bP c t l k i = bP c t l k (i.toNat : Int) := by unfold bP; rw [Int.toNat_natCast]
  have e2 : ownAt l k i = ownAt l k (i.toNat : Int) := by unfold ownAt; rw [Int.toNat_natCast]
  rw [e, e2]
  by_cases hi : i.toNat < l.length
  · refine ⟨(bP_cap (t := t) (k := k) hi (h.good _ (List.getElem_mem hi)) h.nums.shards.1).1, ?_⟩
    rw [bP_get hi]
    unfold ownAt
    rw [Int.toNat_natCast, List.getElem?_eq_getElem hi]
    exact Int.min_le_left _ _
  · have hn : l[i.toNat]? = none := by simp; omega
    unfold bP ownAt
    rw [Int.toNat_natCast, hn]
    exact ⟨Int.le_refl _, Int.le_refl _⟩
theorem ownAt_pos (h : Few c lc t lv l w) (k : ByteArray) (i : Int) : 0 ≤ ownAt l k i := by
  have := (bP_w (c := c) (t := t) h.ok k i).1.1
  have := (bP_12 (t := t) h k i).2
  omega
theorem line_own (h : Few c lc t lv l w) (k : ByteArray) : (lineF c t l k).1 ≤ sumI (ownAt l k) (rangeI l.length) := by
  have hs := h.nums.shards
  have hp := h.nums.spread
  have hl := h.len
  obtain ⟨h1, h2⟩ := homeF_bd c t k hs.1
  rw [lineF_all hs.1 h.len, (foldB_2 k _).1]
  have hb : ∀ i, 0 ≤ (bP c t l k i).1 := fun i => (bP_w (c := c) (t := t) h.ok k i).1.1
  obtain ⟨h3, _⟩ := few_set h (f := fun i => (bP c t l k i).1) (fun i => ⟨hb i, Int.le_trans (bP_12 (t := t) h k i).1 (bP_tot (t := t) h k i).2⟩) h1 h2
  have h3' : (setF c t k).foldl (fun a i => satA a (bP c t l k i).1) 0 = sumI (fun i => (bP c t l k i).1) (setN (homeF c t k) c.Shards c.Spread.toNat) := h3
  rw [h3']
  have hn : (setN (homeF c t k) c.Shards c.Spread.toNat).Nodup := setN_nodup h1 h2 (by omega) (by omega)
  refine Int.le_trans (sumI_le (n := l.length) hn (fun i hi => by have := setN_in hs.1 i hi; omega) fun i _ => hb i) ?_
  exact sumI_mono fun i _ => (bP_12 (t := t) h k i).2
/-- The lower bounds of all lines. -/
theorem lo_total (h : Few c lc t lv l w) : loSum (allF c t l) ≤ totalF l := by
  unfold allF
  rw [loSum_all]
  refine Int.le_trans (sumB_le fun b _ => line_own h (bA b)) ?_
  rw [sum_swap (fun b => ownAt l (bA b)), (few_sum h).1]
  refine sumI_mono fun i _ => ?_
  unfold ownAt totAt
  cases e : l[i.toNat]? with
  | none =>
    show sumB (fun _ => 0) _ ≤ _
    rw [sumB_zero fun _ _ => rfl]
    exact Int.le_refl _
  | some s =>
    have hg := h.good s (List.mem_of_getElem? e)
    obtain ⟨h1, h2⟩ := own_tot hg
    exact Int.le_trans (own_once s.untr s.es (keysF l) (keysF_nodup l) h2) h1
theorem keysN_all (c : Cfg) (t : List Int) (l : List Summ) : keysN (allF c t l) = keysF l := by
  unfold keysN allF
  rw [List.map_map]
  exact List.map_id'' (fun b => rfl) _
theorem keys_sorted (c : Cfg) (t : List Int) (l : List Summ) : (keysN (sortLn (allF c t l))).Nodup := by
  have : (keysN (sortLn (allF c t l))).Perm (keysN (allF c t l)) := (sortLn_perm _).map _
  rw [this.nodup_iff, keysN_all]
  exact keysF_nodup l
theorem mem_all (h : Few c lc t lv l w) {x : Ln} (hx : x ∈ allF c t l) : x.key.size = 1 ∧ x.lo ≤ x.hi ∧ x.hi ≤ totalF l ∧ 0 ≤ x.lo := by
  obtain ⟨b, hb, rfl⟩ := List.mem_map.1 hx
  refine ⟨?_, ?_, line_tot h (bA b), (allF_w h _ hx).lo.1⟩
  · obtain ⟨s, hs, e, he, rfl⟩ := mem_keysF hb
    obtain ⟨n, hn, _⟩ := (h.good s hs).keys e he
    show (entK e).toArray.size = 1
    unfold entK
    rw [hn]; rfl
  · have hs := h.nums.shards
    show (lineF c t l (bA b)).1 ≤ (lineF c t l (bA b)).2
    rw [lineF_all hs.1 h.len, (foldB_2 _ _).1, (foldB_2 _ _).2]
    have : ∀ (is : List Int) (a a' : Int), a ≤ a' → is.foldl (fun a i => satA a (bP c t l (bA b) i).1) a ≤ is.foldl (fun a i => satA a (bP c t l (bA b) i).2) a' := by
      intro is
      induction is with
      | nil => intro a a' h; exact h
      | cons i is ih =>
        intro a a' haa
        simp only [List.foldl_cons]
        refine ih _ _ ?_
        have := (bP_12 (t := t) h (bA b) i).1
        unfold satA
        split <;> split <;> omega
    exact this _ 0 0 (Int.le_refl _)
theorem hiMax_le {ls : List Ln} {un M : Int} (h : ∀ x ∈ ls, x.hi ≤ M) (hu : un ≤ M) : hiMax ls un ≤ M := by
  have : ∀ (ls : List Int) (a : Int), (∀ x ∈ ls, x ≤ M) → a ≤ M → ls.foldl max a ≤ M := by
    intro ls
    induction ls with
    | nil => intro a _ h; exact h
    | cons x ls ih => intro a h ha; simp only [List.foldl_cons]; exact ih _ (fun y hy => h y (List.mem_cons_of_mem x hy)) (by have := h x (by simp); omega)
  exact this _ _ (fun x hx => by obtain ⟨y, hy, rfl⟩ := List.mem_map.1 hx; exact h y hy) hu
theorem hiMax_ge (ls : List Ln) (un : Int) : un ≤ hiMax ls un ∧ ∀ x ∈ ls, x.hi ≤ hiMax ls un := by
  have : ∀ (ls : List Int) (a : Int), a ≤ ls.foldl max a ∧ ∀ x ∈ ls, x ≤ ls.foldl max a := by
    intro ls
    induction ls with
    | nil => intro a; exact ⟨Int.le_refl _, by simp⟩
    | cons x ls ih =>
      intro a
      simp only [List.foldl_cons]
      obtain ⟨h1, h2⟩ := ih (max a x)
      exact ⟨by omega, fun y hy => by
        rcases List.mem_cons.1 hy with rfl | hy
        · omega
        · exact h2 y hy⟩
  obtain ⟨h1, h2⟩ := this (ls.map (·.hi)) un
  exact ⟨h1, fun x hx => h2 _ (List.mem_map.2 ⟨x, hx, rfl⟩)⟩
theorem restI_pos (m : Int) (n : Nat) (l : List Summ) : ∀ k, 0 ≤ restI m n l k
  | 0 => Int.le_refl _
  | k + 1 => by rw [restI_succ]; have := restI_pos m n l k; omega
theorem rest_pos (h : Few c lc t lv l w) : 0 ≤ restF c l := by
  rw [few_rest h]
  exact restI_pos _ _ _ _
theorem mem_bLs {x : Ln} (h : x ∈ bLs c t l) : x ∈ allF c t l := mem_sortLn (List.mem_of_mem_take h)
theorem mem_bOm {x : Ln} (h : x ∈ bOm c t l) : x ∈ allF c t l := mem_sortLn (List.mem_of_mem_drop h)
theorem bRest_bd (h : Few c lc t lv l w) : 0 ≤ bRest c t l ∧ bRest c t l ≤ totalF l ∧ restF c l ≤ bRest c t l := by
  have h1 := hiMax_ge (bOm c t l) (restF c l)
  have h2 := rest_pos h
  refine ⟨by unfold bRest; omega, hiMax_le (fun x hx => (mem_all h (mem_bOm hx)).2.2.1) (rest_tot h), h1.1⟩
theorem bLs_len (h : Few c lc t lv l w) : ((bLs c t l).length : Int) = min c.Top (keysF l).length := by
  have := h.nums.top
  unfold bLs selN
  rw [List.length_take, sortLn_len, allF_len]
  omega
theorem bLs_lo (h : Few c lc t lv l w) : 0 ≤ loSum (bLs c t l) ∧ loSum (bLs c t l) ≤ totalF l := by
  have hp : ∀ x ∈ sortLn (allF c t l), 0 ≤ x.lo := fun x hx => (mem_all h (mem_sortLn hx)).2.2.2
  have h1 := loSum_take_le hp (selN c.Top (allF c t l))
  rw [loSum_perm (sortLn_perm (allF c t l))] at h1
  have h2 := lo_total (t := t) h
  exact ⟨loSum_pos fun x hx => (mem_all h (mem_bLs hx)).2.2.2, Int.le_trans h1 h2⟩
theorem bOver_eq (h : Few c lc t lv l w) : bOver c t l + loSum (bLs c t l) = totalF l ∧ 0 ≤ bOver c t l := by
  obtain ⟨h1, h2⟩ := bLs_lo (t := t) h
  have h3 := (few_sum h).2
  have e : satL (loSum (bLs c t l)) = loSum (bLs c t l) := by unfold satL; rw [if_pos (by omega)]
  unfold bOver
  rw [e]
  unfold subF
  rw [if_neg (by omega)]
  omega
/-- The built report passes the check. -/
theorem built_ok (h : Few c lc t lv l w) {win : Int} (hw : 0 ≤ win ∧ win ≤ 1099511627776) {rej : List Int} (hr : rej.length = 7) (hr0 : rej[0]? = some 0) (vl vr : Value) :
    repErr ⟨win, totalF l, vl, bOver c t l, (keysF l).length, bRest c t l, vr, bLs c t l, rej⟩ = 0 := by
  have ht := (few_sum h).2
  obtain ⟨hb0, hb1, _⟩ := bRest_bd (t := t) h
  have hl := bLs_len (t := t) h
  have hk := keysF_few h
  have htop := h.nums.top
  obtain ⟨ho, _⟩ := bOver_eq (t := t) h
  have hsort := sortLn_sorted (l := allF c t l) (by rw [keysN_all]; exact keysF_nodup l)
  have hs2 : (bLs c t l).Pairwise fun a b => befB a b = true := List.Pairwise.sublist (List.take_sublist _ _) hsort
  have hkn : (keysN (bLs c t l)).Nodup := by
    have := keys_sorted c t l
    unfold keysN bLs at *
    rw [List.map_take]
    exact List.Nodup.sublist (List.take_sublist _ _) this
  have hln : linesErr (totalF l) (bLs c t l) = 0 := by
    refine lines_no fun i hi => ?_
    unfold lnErrAt
    rw [List.getElem?_eq_getElem hi]
    obtain ⟨m1, m2, m3, m4⟩ := mem_all h (mem_bLs (List.getElem_mem hi))
    show lnErr (totalF l) (prevL (bLs c t l) i) (bLs c t l)[i] = 0
    unfold lnErr
    rw [if_neg (by omega), if_neg (by omega), if_neg (by omega)]
    cases i with
    | zero => rfl
    | succ m =>
      have hm : m < (bLs c t l).length := by omega
      have := List.pairwise_iff_getElem.1 hs2 m (m + 1) hm hi (by omega)
      simp [prevL, List.getElem?_eq_getElem hm, this]
  unfold repErr
  simp only
  rw [if_neg (by omega), if_neg (by omega), if_neg (by rw [hln]; simp), if_neg (by simpa using hkn), if_neg (by omega), if_neg (by rw [hr, hr0]; simp)]
/-- The numbers of the built report fit. -/
theorem built_w (h : Few c lc t lv l w) {win : Int} (hw : 0 ≤ win ∧ win ≤ 1099511627776) {rej : List Int} (hr : ∀ n ∈ rej, W64 n) (vl vr : Value) :
    RepW ⟨win, totalF l, vl, bOver c t l, (keysF l).length, bRest c t l, vr, bLs c t l, rej⟩ := by
  have ht := (few_sum h).2
  have ht0 := (totalF_w h).1
  obtain ⟨hb0, hb1, _⟩ := bRest_bd (t := t) h
  have hk := keysF_few h
  obtain ⟨ho, ho2⟩ := bOver_eq (t := t) h
  have := (bLs_lo (t := t) h).1
  exact ⟨show I64 win from ⟨by omega, by omega⟩, totalF_w h, show W64 (bOver c t l) from ⟨ho2, by omega⟩, show I64 ((keysF l).length : Int) from ⟨by omega, by omega⟩, show W64 (bRest c t l) from ⟨by omega, by omega⟩, bLs_w h, hr⟩
/-- A key that is not listed weighs at most the rest. -/
theorem rest_law (h : Few c lc t lv l w) {k : ByteArray} (hn : ∀ x ∈ bLs c t l, x.key ≠ k) : (lineF c t l k).2 ≤ bRest c t l := by
  by_cases hk : k.data.toList ∈ keysL l
  · have h1 : k.data.toList ∈ keysF l := ((ascF_ok _).2 _).2 hk
    have e : bA k.data.toList = k := by unfold bA; simp
    have h2 : lnOf c t l k.data.toList ∈ sortLn (allF c t l) := (sortLn_perm _).mem_iff.2 (List.mem_map.2 ⟨_, h1, rfl⟩)
    rw [← List.take_append_drop (selN c.Top (allF c t l)) (sortLn (allF c t l)), List.mem_append] at h2
    rcases h2 with h2 | h2
    · exact absurd e (hn _ h2)
    · have := (hiMax_ge (bOm c t l) (restF c l)).2 _ h2
      have e2 : (lnOf c t l k.data.toList).hi = (lineF c t l k).2 := by show (lineF c t l (bA k.data.toList)).2 = _; rw [e]
      rw [e2] at this
      exact this
  · exact Int.le_trans (line_rest h hk).2 (hiMax_ge (bOm c t l) (restF c l)).1
end
end Go.Proofs.YtiagjiaahnkefaaGreat
