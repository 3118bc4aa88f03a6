/- Worlds that have changed in some blocks (S) and have grown. -/
import Derived.Test.YtniokdflljchgaaBlk
import Derived.Maps.OwnSet
namespace Go.Proofs.Ytniokdflljchgaa
open Go.RowKit

structure GrownS (S : Nat → Prop) (w w' : World) : Prop where
  os : w'.os = w.os
  tape : w'.tape = w.tape
  output : w'.output = w.output
  size : w.heap.size ≤ w'.heap.size
  block : ∀ i, i < w.heap.size → ¬ S i → w'.heap[i]? = w.heap[i]?
theorem GrownS.refl (S : Nat → Prop) (w : World) : GrownS S w w := ⟨rfl, rfl, rfl, Nat.le_refl _, fun _ _ _ => rfl⟩
/-- The second step may touch what the first has made. -/
theorem GrownS.trans {S T : Nat → Prop} {a b c : World} (h : GrownS S a b) (k : GrownS T b c) (hT : ∀ i, T i → i < a.heap.size → S i) : GrownS S a c :=
  ⟨k.os.trans h.os, k.tape.trans h.tape, k.output.trans h.output, Nat.le_trans h.size k.size, fun i hi hn => (k.block i (Nat.lt_of_lt_of_le hi h.size) (fun ht => hn (hT i ht hi))).trans (h.block i hi hn)⟩
theorem GrownS.mono {S T : Nat → Prop} {a b : World} (h : GrownS S a b) (hT : ∀ i, S i → i < a.heap.size → T i) : GrownS T a b := ⟨h.os, h.tape, h.output, h.size, fun i hi hn => h.block i hi (fun hs => hn (hT i hs hi))⟩
theorem GrownS.of {S : Nat → Prop} {w w' : World} {r : Option Nat} (h : w.grownBy w' r) (hr : ∀ k, r = some k → S k) : GrownS S w w' :=
  ⟨h.os, h.tape, h.output, h.size, fun i hi hn => h.block i hi (fun e => hn (hr i e.symm))⟩
theorem GrownS.none_ {S : Nat → Prop} {w w' : World} (h : w.grownBy w' none) : GrownS S w w' := GrownS.of h (by simp)
theorem GrownS.base {S : Nat → Prop} {w0 w w' : World} (h : w0.grownBy w none) (k : GrownS S w w') (hS : ∀ i, S i → w0.heap.size ≤ i) : w0.grownBy w' none :=
  ⟨k.os.trans h.os, k.tape.trans h.tape, k.output.trans h.output, Nat.le_trans h.size k.size, fun i hi hn => (k.block i (Nat.lt_of_lt_of_le hi h.size) (fun hs => by have := hS i hs; omega)).trans (h.block i hi hn)⟩
theorem GrownS.back {S : Nat → Prop} {w w' : World} (k : GrownS S w w') (hS : ∀ i, i < w.heap.size → ¬ S i) : w.grownBy w' none := ⟨k.os, k.tape, k.output, k.size, fun i hi _ => k.block i hi (hS i hi)⟩
theorem Blk.keptS {S : Nat → Prop} {w w' : World} {g : Nat} {cs : Array Value} (h : Blk w g cs) (k : GrownS S w w') (hS : ¬ S g) : Blk w' g cs := by
  have hl := h.lt
  obtain ⟨t, h⟩ := h.blk
  exact ⟨t, (k.block g hl hS).trans h⟩
theorem Own.keptS {α : Type} {f : α → List Value} {s : Nat} {e : TypeId} {B : Nat} {w w' : World} {v : Value} {l : List α} {S : Nat → Prop} (h : Own f s e B w v l) (k : GrownS S w w') (hS : ∀ g, v.ownBlock = some g → ¬ S g) : Own f s e B w' v l := by
  refine ⟨h.1, ?_⟩
  rcases h.2 with h0 | ⟨g, cap, cur, rfl, h1, h2, h3⟩
  · exact .inl h0
  · exact .inr ⟨g, cap, cur, rfl, h1, (k.block g (Array.getElem?_eq_some_iff.1 h2).1 (hS g rfl)).trans h2, h3⟩
theorem Rd.keptS {w w' : World} {size : Nat} {v : Value} {n : Nat} {xs : List Value} {S : Nat → Prop} (h : Rd w size v n xs) (k : GrownS S w w') (hS : 0 < n → ∀ a n' c, v = .slice (some a) n' c → ¬ S a.block) : Rd w' size v n xs := by
  obtain ⟨h1, h0, h2⟩ := h
  refine ⟨h1, h0, ?_⟩
  rcases h2 with h2 | ⟨g, off, cap, hv, hlt, hc⟩
  · exact .inl h2
  · rcases Nat.eq_zero_or_pos n with hn | hn
    · exact .inl ⟨hn, some ⟨g, off, none⟩, cap, by rw [hv, hn]⟩
    · refine .inr ⟨g, off, cap, hv, Nat.lt_of_lt_of_le hlt k.size, fun j u hu => ?_⟩
      rw [World.cell?_of_block (a := ⟨g, off + j, none⟩) (k.block g hlt (hS hn _ _ _ hv))]
      exact hc j u hu
theorem RdL.keptS {α : Type} {f : α → List Value} {s : Nat} {w w' : World} {v : Value} {l : List α} {S : Nat → Prop} (h : RdL f s w v l) (k : GrownS S w w') (hS : 0 < l.length → ∀ a n' c, v = .slice (some a) n' c → ¬ S a.block) : RdL f s w' v l := Rd.keptS h k hS
theorem ownsMap_keptS {H : Type} {P : Program} {kt : TypeId} {R : Value → Option (DataW H × List MemPlace)} {w w' : World} {b n : Nat} {D : DataW H} {S : Nat → Prop} (h : w.ownsMap P kt R b n D) (k : GrownS S w w') (hS : ¬ S b) : w'.ownsMap P kt R b n D := by
  have hl := h.lt
  obtain ⟨es, clock, hb, h⟩ := h
  exact ⟨es, clock, (k.block b hl hS).trans hb, h⟩
end Go.Proofs.Ytniokdflljchgaa
