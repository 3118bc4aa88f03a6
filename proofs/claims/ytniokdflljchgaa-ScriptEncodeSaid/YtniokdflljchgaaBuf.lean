/- A buffer of bytes behind a pointer; texts that are appended. -/
import Derived.Test.YtniokdflljchgaaVar
import Derived.Test.YtniokdflljchgaaBlk
import Derived.Lib.AppendStr
namespace Go.Proofs.Ytniokdflljchgaa
open Go.RowKit Go.Sort

def natF (n : Nat) : List Value := [.int .u64 n]
theorem natF_len (n : Nat) : (natF n).length = 1 := rfl
theorem nat_one (n : Nat) : natF n = [Value.int .u64 n] := rfl
def vbs (ns : List Nat) : List UInt8 := ns.flatMap vb
theorem vbs_snoc (ns : List Nat) (n : Nat) : vbs (ns ++ [n]) = vbs ns ++ vb n := by simp [vbs]
theorem vbs_len {ns : List Nat} (h : ∀ n ∈ ns, n < 18446744073709551616) : (vbs ns).length ≤ 10 * ns.length := by
  induction ns with
  | nil => simp [vbs]
  | cons n ns ih =>
    have h1 := ih fun x hx => h x (List.mem_cons_of_mem _ hx)
    have h2 := vb_ten (h n (by simp))
    simp only [vbs, List.flatMap_cons, List.length_append, List.length_cons] at *
    omega
/-- The buffer at g. -/
structure BufAt (B : Nat) (w : World) (g : Nat) (l : List UInt8) : Prop where
  ex : ∃ v, Blk w g #[v] ∧ Own byF 1 5 B w v l
  lt : g < B
theorem BufAt.base {B B' : Nat} {w : World} {g : Nat} {l : List UInt8} (h : BufAt B w g l) (hB : B' ≤ B) (hg : g < B') : BufAt B' w g l := by
  obtain ⟨v, h1, h2⟩ := h.ex
  exact ⟨⟨v, h1, h2.base fun k hk => Nat.le_trans hB (h2.lt k hk).1⟩, hg⟩
theorem BufAt.same {B : Nat} {w w' : World} {g : Nat} {l : List UInt8} (h : BufAt B w g l) (hg : w.grownBy w' none) : BufAt B w' g l := by
  obtain ⟨v, h1, h2⟩ := h.ex
  exact ⟨⟨v, h1.same hg, h2.same hg⟩, h.lt⟩
def baseK (B h k : Nat) : Nat := if k = 0 then B else h
theorem baseK_0 (B h : Nat) : baseK B h 0 = B := rfl
theorem baseK_s (B h : Nat) {k : Nat} (hk : k ≠ 0) : baseK B h k = h := if_neg hk
def NumPost (B : Nat) (w : World) (g : Nat) (l : List UInt8) (e : Ending) (w' : World) : Prop := e = .returned (.tuple #[]) ∧ BufAt B w' g l ∧ w.grownBy w' (some g)

theorem cells_str (s : ByteArray) : cellsOf byF s.data.toList = Lib.strCells s := by
  have : ∀ l : List UInt8, cellsOf byF l = l.map fun b => Value.int .u8 b.toNat := by
    intro l
    induction l with
    | nil => rfl
    | cons x l ih => simp only [cellsOf, List.flatMap_cons, List.map_cons] at *; rw [ih]; rfl
  rw [this]; rfl
theorem info_by : (Try.prog.info? 5).map (fun i => (i.zero, i.size, i.bytes)) = some (some (.int .u8 0), 1, 1) := by kernel_rfl
theorem app_str {B : Nat} {w : World} {v : Value} {l : List UInt8} {o : Oper} {a : Act} {ops : Array Oper} {rest : List Oper} {Q : Exit → Act → World → Prop} (hown : Own byF 1 5 B w v l) (s : ByteArray) (hb : l.length + s.size ≤ 140737488355328) (hbase : B ≤ w.heap.size)
    (hgd : o.guard = none) (sl x : Operand) (ho : o.op = .call { callee := .builtin .append, args := #[sl, x], argTypes := #[28, 9] }) (hs : a.eval sl = v) (hx : a.eval x = .string s)
    (h : ∀ v' w', Own byF 1 5 B w' v' (l ++ s.data.toList) → w.grownBy w' v.ownBlock → wpList Try.prog ops Q rest (a.put o.dst v') w') : wpList Try.prog ops Q (o :: rest) a w := by
  obtain ⟨i, hi, hz0, hz1, hz2⟩ := info_parts info_by
  refine Lib.wpList_append_own_string w hgd sl x 28 9 ho B 5 i Try.underlying28 Try.underlying9 hi hz0 hz1 hz2 v l.length _ hs hown s hx (by unfold maxLen; omega) hb hbase fun v' w' h1 h2 _ => h v' w' ?_ h2
  unfold Own
  rw [cellsOf_append, cells_str, List.length_append]
  have e : s.data.toList.length = s.size := Array.length_toList
  rw [e]; exact h1

end Go.Proofs.Ytniokdflljchgaa
