/- The deck's lists of summaries. -/
import Derived.Test.YtiagjiaahnkefaaDsum
namespace Go.Proofs.Ytiagjiaahnkefaa
open Go.RowKit
attribute [local go_sem ↓] exec_load_cfg
attribute [local go_sem] run_loadCfgS

theorem elt_sum : Elt 33 68 (.agg #[.int .u64 0, .slice none 0 0, .int .u64 0, .slice none 0 0]) 4 64 := ⟨Try.underlying33, by kernel_rfl, rfl, by decide⟩
def Off (k : Nat) (s : Summ) : Prop := NotIn s.ve k ∧ NotIn s.vr k ∧ ∀ x ∈ s.vs, NotIn x k
theorem SumRd.off {w w' : World} {s : Summ} {r : Option Nat} (h : SumRd w s) (hg : w.grownBy w' r) (hr : ∀ k, r = some k → Off k s) : SumRd w' s :=
  ⟨Rd.kept h.es hg fun k e => (hr k e).1, Rd.kept h.vs hg fun k e => (hr k e).2.1, h.len, fun i v row hv hrow => Rd.kept (h.rows i v row hv hrow) hg fun k e => (hr k e).2.2 v (List.mem_of_getElem? hv)⟩
theorem SumIn.off {lo up k : Nat} {s : Summ} (h : SumIn lo up s) (hk : k < lo ∨ up ≤ k) : Off k s := ⟨h.ve.notIn hk, h.vr.notIn hk, fun x hx => (h.vs x hx).notIn hk⟩
/-- A list of summaries of the deck's, in blocks from lo on. -/
structure SumsG (lo : Nat) (c : Cfg) (w : World) (v : Value) (l : List Summ) : Prop where
  own : Own sumF 4 68 lo w v l
  all : ∀ s ∈ l, SumRd w s ∧ SumIn lo w.heap.size s ∧ SummG c s ∧ ∀ k, v.ownBlock = some k → Off k s
theorem SumsG.nil (lo : Nat) (c : Cfg) (w : World) : SumsG lo c w (.slice none 0 0) [] := ⟨Own.nil _ _ _ _ _, by simp⟩
theorem SumsG.rd {lo : Nat} {c : Cfg} {w : World} {v : Value} {l : List Summ} (h : SumsG lo c w v l) : SumsRd w v l := ⟨h.own.rd, fun s hs => (h.all s hs).1, fun s hs => (h.all s hs).2.2.1.num⟩
theorem SumIn.up {lo up up' : Nat} {s : Summ} (h : SumIn lo up s) (hl : up ≤ up') : SumIn lo up' s := ⟨h.ve.wide (Nat.le_refl _) hl, h.vr.wide (Nat.le_refl _) hl, fun v hv => (h.vs v hv).wide (Nat.le_refl _) hl⟩
theorem SumsG.kept {lo : Nat} {c : Cfg} {w w' : World} {v : Value} {l : List Summ} {r : Option Nat} (h : SumsG lo c w v l) (hg : w.grownBy w' r) (hr : ∀ k, r = some k → k < lo) : SumsG lo c w' v l := by
  refine ⟨h.own.kept hg (fun k hk e => by have := (h.own.lt k hk).1; have := hr k e; omega), fun s hs => ?_⟩
  obtain ⟨h1, h2, h3, h4⟩ := h.all s hs
  exact ⟨h1.off hg fun k e => h2.off (.inl (hr k e)), h2.up hg.size, h3, h4⟩
theorem SumsG.snoc {lo : Nat} {c : Cfg} {w w' : World} {v v' : Value} {l : List Summ} {s : Summ} {n : Nat} (h : SumsG lo c w v l) (h1 : SumRd w s) (h2 : SumIn n w.heap.size s) (h3 : SummG c s) (hn : lo ≤ n) (hv : ∀ k, v.ownBlock = some k → k < n)
    (ho : Own sumF 4 68 lo w' v' (l ++ [s])) (hg : w.grownBy w' v.ownBlock) (hL : Lies v v' w.heap.size) : SumsG lo c w' v' (l ++ [s]) := by
  have hnew : ∀ s, SumIn lo w.heap.size s → (∀ k, v.ownBlock = some k → Off k s) → ∀ k, v'.ownBlock = some k → Off k s := fun s hi hs k hk => by
    rcases hL with e | ⟨m, e1, e2⟩
    · exact hs k (e ▸ hk)
    · rw [e1] at hk; cases hk; exact hi.off (.inr e2)
  refine ⟨ho, fun x hx => ?_⟩
  rcases List.mem_append.1 hx with hx | hx
  · obtain ⟨a1, a2, a3, a4⟩ := h.all x hx
    exact ⟨a1.off hg a4, a2.up hg.size, a3, hnew x a2 a4⟩
  · obtain rfl := List.mem_singleton.1 hx
    have a4 : ∀ k, v.ownBlock = some k → Off k x := fun k hk => h2.off (.inl (hv k hk))
    exact ⟨h1.off hg a4, (h2.up hg.size).wide hn, h3, hnew x (h2.wide hn) a4⟩
def DsumsPost (B b : Nat) (c : Cfg) (w : World) (e : Ending) (w' : World) : Prop :=
  ∃ v l, e = .returned v ∧ SumsG w.heap.size c w' v l ∧ (l.length : Int) = c.Shards ∧ Deck B w' b ∧ w.grownBy w' (some b)

set_option maxHeartbeats 600000 in
set_option maxRecDepth 100000 in
theorem dsums_c {B : Nat} (b : Nat) (c : Cfg) (w : World) (hd : Deck B w b) (hB : B ≤ w.heap.size) (hs : 1 ≤ c.Shards ∧ c.Shards ≤ 8) (hdep : 0 ≤ c.Depth ∧ c.Depth ≤ 4) (hwid : 0 ≤ c.Width ∧ c.Width ≤ 256) :
    Calls Try.prog 30 #[.pointer (some ⟨b, 0, none⟩), c.val] w (DsumsPost B b c w) := by
  have hbB := hd.below
  go_enter Try.func30, Try.ntmps30
  go_upto_region 1 with (refine box_cfg rfl _ rfl c rfl ?_; intro w1 B1 G1 z1)
  have hd1 := hd.kept G1 (by simp)
  have K1 := grownBy_some G1 (some b)
  generalize hbc : w.heap.size = bc at *
  go_wp2_with fail
  go_loopw [5, 6] (fun s5 s6 wk => ∃ (v : Value) (i : Nat) (l : List Summ), s5 = v ∧ s6 = .int .i64 i ∧ l.length = i ∧ (i : Int) ≤ c.Shards ∧ SumsG w1.heap.size c wk v l ∧ BoxAt wk bc c ∧ Deck B wk b ∧ w.grownBy wk (some b) ∧ w1.heap.size ≤ wk.heap.size) (fun _ s6 _ => (c.Shards - intOf s6).toNat)
  case atStart => exact ⟨_, 0, [], rfl, rfl, rfl, by omega, SumsG.nil _ _ _, B1, hd1, K1, Nat.le_refl _⟩
  case round =>
    obtain ⟨v, i, l, rfl, rfl, hl, hi, hS, hBx, hD, hG, hsz⟩ := hrel
    obtain ⟨va, vc, rfl⟩ := hS.own.shape
    have bx := hBx.cell
    have HL := Lib.hid hl
    clear hl B1 G1 hd1 K1
    by_cases hlt : (i : Int) < c.Shards
    · have hb1 : (l.length + 1) * 64 ≤ 140737488355328 := by have := HL.out; omega
      have hb2 : l.length + 1 ≤ 9223372036854775807 := by have := HL.out; omega
      go_upto_region 4 with (first
        | (refine load_cfg rfl _ rfl _ rfl c (by assumption) ?_)
        | (go_at_call 70; refine (dsummary_c b c _ hD (by omega) hs hdep hwid).mono ?_; rintro e w2 ⟨s, rfl, g1, g2, g3, g4, g5⟩; have S2 := hS.kept g5 (fun k e => by cases e; omega); have B2 := hBx.kept g5 (by simp; omega); (obtain ⟨ea, ec, hve⟩ := g2.es.shape); (obtain ⟨ra, rc, hvr⟩ := g2.vs.shape); have hsz2 : w1.heap.size ≤ w2.heap.size := Nat.le_trans hsz g5.size; (have hcs : (#[Value.int .u64 s.total, .slice ea s.es.length ec, .int .u64 s.untr, .slice ra s.vs.length rc] : Array Value).toList = sumF s := by simp [sumF, hve, hvr]); (have h1c : ∀ u ∈ sumF s, u.oneCell' = true := by intro u hu; rw [← hcs] at hu; simp at hu; rcases hu with rfl | rfl | rfl | rfl <;> rfl); rw [hve, hvr]; have Hcs := Lib.hid hcs; have H1c := Lib.hid h1c; clear hcs h1c hve hvr)
        | (at_builtin; refine app_oneV elt_sum sumF_len S2.own s H1c.out hb1 hb2 hsz2 Hcs.out rfl (.tmp 13) (.tmp 17) rfl rfl rfl ?_; intro v3 w3 o3 g6 l3))
      have S3 := S2.snoc g2 g3 g1 hsz (fun k hk => (hS.own.lt k hk).2) o3 g6 l3
      have hne : ∀ k, (Value.slice va l.length vc).ownBlock = some k → w1.heap.size ≤ k := fun k hk => (hS.own.lt k hk).1
      have B3 := B2.kept g6 (fun e => by have := hne _ e; omega)
      have D3 := g4.kept g6 (fun k e => by have := hne _ e; omega)
      have G3 : w.grownBy w3 (some b) := by
        have h5 := grownBy_trans hG g5
        cases hv : (Value.slice va l.length vc).ownBlock with
        | none => rw [hv] at g6; exact grownBy_trans h5 (grownBy_some g6 _)
        | some k => rw [hv] at g6; exact grownBy_new h5 g6 (by have := hne k hv; omega)
      go_wp2_with fail
      exact ⟨⟨_, i + 1, _, rfl, by go_num, by simp [HL.out], by omega, S3, B3, D3, G3, Nat.le_trans hsz2 g6.size⟩, by simp [intOf]; omega⟩
    · go_wp2_with fail
      go_ret
      exact ⟨_, l, rfl, ⟨hS.own.base (fun k hk => by have := (hS.own.lt k hk).1; omega), fun s hs => by
        obtain ⟨a1, a2, a3, a4⟩ := hS.all s hs
        exact ⟨a1, a2.wide (by omega), a3, a4⟩⟩, by have := HL.out; omega, hD, hG⟩
end Go.Proofs.Ytiagjiaahnkefaa
