/- The ledger's windows, in ascending order: the program. -/
import Derived.Test.YtniokdflljchgaaLed2
import Derived.Test.YtniokdflljchgaaShelf
import Derived.Shelf.SlIterI.Keys
import Derived.Shelf.SlIterI.Sorted
import Derived.Shelf.AbstractIn
namespace Go.Proofs.Ytniokdflljchgaa
open Go.RowKit Go.Maps Go.Sort Go.Shelf

theorem sortsA (m : Nat) : AnyZI.SortsIn Try.prog Try.sortedA_ren Fence.wide m :=
  ⟨fun blk off cap ss W hH hblk hsz => callsIn_wide.2 (Try.slices_Sort_int blk off cap ss W hH hblk hsz),
   fun p cap W => callsIn_wide.2 (Try.slices_Sort_int_none p cap W)⟩
theorem grown_of_below {a b : World} (h : Below a.heap.size a b) : a.grownBy b none := ⟨h.os, h.tape, h.output, h.size, fun i hi _ => h.block i hi⟩

set_option maxHeartbeats 1000000 in
theorem ledWindows_c (b bm n : Nat) (L : List (Int × Int)) (acc : Int) (R : List Int) (w : World) (h : Led w b bm n L acc R) (hn : n ≤ 1000000) :
    Calls Try.prog 35 #[.pointer (some ⟨b, 0, none⟩)] w (RetOwn intF 1 3 (L.map (·.1)) w) := by
  obtain ⟨D, hown, hD⟩ := h.own
  have c0 : w.cell? ⟨b, 0, none⟩ = some (.map (some bm)) := by rw [h.blk.cell]; exact ledA0 _ _ _
  have HS := Lib.hid fun (ss : List Int) (hp : ss.Perm (intKeys D)) => hD.sorted h.asc hown Try.underlying3 hp
  have hsz := hown.size_le
  have hmax : Maps.size D ≤ maxLen := by unfold maxLen; omega
  have hbytes : Maps.size D * 8 ≤ 140737488355328 := by omega
  refine (callsIn_wide (n := 6)).1 ?_
  have hbl := hown.lt
  have hseq : SeqGives Fence.wide 2 Try.prog 79 #[.pointer (some ⟨w.heap.size, 0, none⟩)] encZ (fun ss => ss.Perm (intKeys D)) (Maps.size D) (w.alloc (.cells #[.map (some bm)] 91)) :=
    AnyZI.keys_gives (ρ := Try.keysA_ren) { Try.keysA with } Fence.wide _ trivial rfl (by omega) w.heap.size bm n D _ (by simp) (by simp) (by
      obtain ⟨es, clock, hb, Ft, hs, hD⟩ := hown
      exact ⟨es, clock, (Below.heap_alloc _ _ bm hbl).trans hb, Ft, hs, hD⟩)
  have cK : ∀ mb W, CallsIn Fence.wide 5 Try.prog 61 #[.map mb] W fun e w' => e = .returned (.func (.func 79) #[] #[.pointer (some ⟨W.heap.size, 0, none⟩)]) ∧ w' = W.alloc (.cells #[.map mb] 91) := fun mb W => AnyZI.keys_in Try.keysA Fence.wide 5 trivial rfl mb W
  have cS := AnyZI.sorted_in Try.sortedA Fence.wide 5 trivial trivial trivial trivial rfl (by omega) (sortsA _) (enters_of Try.func78 (by kernel_rfl) rfl) 79 #[.pointer (some ⟨w.heap.size, 0, none⟩)] trivial (enters_of Try.func79 (by kernel_rfl) rfl) _ _ hmax hbytes _ hseq
  change CallsIn _ _ Try.prog 60 _ _ _ at cS
  have hfK : Fence.wide.fn 61 := trivial
  have hfS : Fence.wide.fn 60 := trivial
  clear h hD hown hsz
  refine callsIn_of_wp Try.func35 rfl trivial ?_ rfl
  simp only [Try.ntmps35, List.size_toArray, List.length_cons, List.length_nil, Nat.reduceAdd, Nat.reduceSub, Array.replicate_succ, Array.replicate_zero, List.push_toArray, List.append_toArray, List.nil_append, List.cons_append]
  gi_wp2_with (first
    | (gi_at_call 61; refine (cK _ _).mono ?_; rintro e w' ⟨rfl, rfl⟩)
    | (gi_at_call 60; refine cS.mono ?_; rintro e w' ⟨v, ss, rfl, hS, hrow, hnil, hb⟩))
  go_ret
  have hss := HS.out ss hS
  rw [hss] at hrow
  have hl : ss.length = (L.map (·.1)).length := by rw [← hss, List.length_mergeSort]
  rw [hl] at hrow
  have hg := ((Below.refl _ w).alloc (Nat.le_refl _) (.cells #[.map (some bm)] 91)).trans (hb.mono (by simp))
  refine ⟨v, rfl, ?_, grown_of_below hg⟩
  unfold Own
  rw [show cellsOf intF (L.map (·.1)) = _ from cells_int _]
  exact ownsRow_base_a hrow (by simp)
end Go.Proofs.Ytniokdflljchgaa
