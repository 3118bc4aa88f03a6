/- Lists of operations of the call's own. -/
import Derived.Test.YtniokdflljchgaaScrS
namespace Go.Proofs.Ytniokdflljchgaa
open Go.RowKit Go.Sort

theorem elt_op : Elt 22 30 (.agg #[.int .i64 0, .slice none 0 0, .int .i64 0, .int .i64 0, .string ⟨#[]⟩, .slice none 0 0]) 6 88 := ⟨Try.underlying22, by kernel_rfl, rfl, by decide⟩
structure OpIn (lo hi : Nat) (o : OpR) : Prop where
  vd : InB lo hi o.vd
  vp : InB lo hi o.vp
theorem OpIn.wide {lo hi lo' hi' : Nat} {o : OpR} (h : OpIn lo hi o) (h1 : lo' ≤ lo) (h2 : hi ≤ hi') : OpIn lo' hi' o := ⟨h.vd.wide h1 h2, h.vp.wide h1 h2⟩
def OffO (k : Nat) (o : OpR) : Prop := NotIn o.vd k ∧ NotIn o.vp k
theorem OpIn.off {lo hi k : Nat} {o : OpR} (h : OpIn lo hi o) (hk : k < lo ∨ hi ≤ k) : OffO k o := ⟨h.vd.notIn hk, h.vp.notIn hk⟩
theorem OpRd.off {w w' : World} {o : OpR} {r : Option Nat} (h : OpRd w o) (hg : w.grownBy w' r) (hr : ∀ k, r = some k → OffO k o) : OpRd w' o :=
  ⟨Rd.kept h.data hg fun k e => (hr k e).1, Rd.kept h.picks hg fun k e => (hr k e).2, h.dcap, h.pcap⟩
structure OpsG (lo : Nat) (w : World) (v : Value) (l : List OpR) : Prop where
  own : Own opF 6 30 lo w v l
  all : ∀ o ∈ l, OpRd w o ∧ OpIn lo w.heap.size o ∧ ∀ k, v.ownBlock = some k → OffO k o
theorem OpsG.nil (lo : Nat) (w : World) : OpsG lo w (.slice none 0 0) [] := ⟨Own.nil _ _ _ _ _, by simp⟩
theorem OpsG.rd {lo : Nat} {w : World} {v : Value} {l : List OpR} (h : OpsG lo w v l) : OpsRd w v l := ⟨h.own.rd, fun o ho => (h.all o ho).1⟩
theorem OpsG.kept {lo : Nat} {w w' : World} {v : Value} {l : List OpR} {r : Option Nat} (h : OpsG lo w v l) (hg : w.grownBy w' r) (hr : ∀ k, r = some k → k < lo) : OpsG lo w' v l := by
  refine ⟨h.own.kept hg (fun k hk e => by have := (h.own.lt k hk).1; have := hr k e; omega), fun o ho => ?_⟩
  obtain ⟨h1, h2, h3⟩ := h.all o ho
  exact ⟨h1.off hg fun k e => h2.off (.inl (hr k e)), h2.wide (Nat.le_refl _) hg.size, h3⟩
theorem OpsG.same {lo : Nat} {w w' : World} {v : Value} {l : List OpR} (h : OpsG lo w v l) (hg : w.grownBy w' none) : OpsG lo w' v l := h.kept hg (by simp)
theorem OpsG.base {lo lo' : Nat} {w : World} {v : Value} {l : List OpR} (h : OpsG lo w v l) (hl : lo' ≤ lo) : OpsG lo' w v l :=
  ⟨h.own.base fun k hk => Nat.le_trans hl (h.own.lt k hk).1, fun o ho => ⟨(h.all o ho).1, (h.all o ho).2.1.wide hl (Nat.le_refl _), (h.all o ho).2.2⟩⟩
theorem OpsG.snoc {lo : Nat} {w w' : World} {v v' : Value} {l : List OpR} {o : OpR} {n : Nat} (h : OpsG lo w v l) (h1 : OpRd w o) (h2 : OpIn n w.heap.size o) (hn : lo ≤ n) (hv : ∀ k, v.ownBlock = some k → k < n)
    (ho : Own opF 6 30 lo w' v' (l ++ [o])) (hg : w.grownBy w' v.ownBlock) (hL : Lies v v' w.heap.size) : OpsG lo w' v' (l ++ [o]) := by
  have hnew : ∀ o, OpIn lo w.heap.size o → (∀ k, v.ownBlock = some k → OffO k o) → ∀ k, v'.ownBlock = some k → OffO k o := fun o hi hs k hk => by
    rcases hL with e | ⟨m, e1, e2⟩
    · exact hs k (e ▸ hk)
    · rw [e1] at hk; cases hk; exact hi.off (.inr e2)
  refine ⟨ho, fun x hx => ?_⟩
  rcases List.mem_append.1 hx with hx | hx
  · obtain ⟨a1, a2, a4⟩ := h.all x hx
    exact ⟨a1.off hg a4, a2.wide (Nat.le_refl _) hg.size, hnew x a2 a4⟩
  · obtain rfl := List.mem_singleton.1 hx
    have a4 : ∀ k, v.ownBlock = some k → OffO k x := fun k hk => h2.off (.inl (hv k hk))
    exact ⟨h1.off hg a4, (h2.wide hn hg.size), hnew x (h2.wide hn (Nat.le_refl _)) a4⟩
theorem one_op {k t s : Int} {y : ByteArray} {da pa : Option Addr} {dn dc pn pc : Nat} {d : List UInt8} {q : List Int} : ∀ u ∈ opF ⟨k, .slice da dn dc, t, s, y, .slice pa pn pc, d, q⟩, u.oneCell' = true := by
  intro u hu; simp [opF] at hu; rcases hu with rfl | rfl | rfl | rfl | rfl | rfl <;> rfl
/-- What a decoder leaves. -/
def DecOP (l : List UInt8) (w : World) (en : Ending) (w' : World) : Prop :=
  ∃ v L, en = .returned (.tuple #[v, .int .i64 (decOE l)]) ∧ OpsG w.heap.size w' v L ∧ L.map opC = (decO l).map opC ∧ w.grownBy w' none
theorem decOP_no {l : List UInt8} {w w' : World} {E : Int} (h : decOE l = E) (h0 : E ≠ 0) (hg : w.grownBy w' none) : DecOP l w (.returned (.tuple #[.slice none 0 0, .int .i64 E])) w' :=
  ⟨_, [], by rw [h], OpsG.nil _ _, by unfold decO; rw [if_neg (by omega)], hg⟩
end Go.Proofs.Ytniokdflljchgaa
