/- What the deck makes: tags, keys, weights. -/
import Derived.Test.YtniokdflljchgaaTagK
import Derived.Test.YtniokdflljchgaaDeck
namespace Go.Proofs.Ytniokdflljchgaa
open Go.RowKit Go.Sort

theorem own_lit1 {α : Type} {f : α → List Value} {s : Nat} {e : TypeId} {B : Nat} {w : World} (hf : ∀ x, (f x).length = s) {cs : Array Value} {y : α} (hcs : cs.toList = f y) (hB : B ≤ w.heap.size) : Own f s e B (w.alloc (.cells cs e)) (.slice (some ⟨w.heap.size, 0, none⟩) 1 1) [y] := by
  have hl : cs.size = s := by rw [← hf y, ← hcs]; exact Array.length_toList.symm
  refine ⟨by simp [cellsOf, hf], .inr ⟨w.heap.size, 1, cs, rfl, hB, heap_alloc_new w _, by simp, by unfold maxLen; omega, by simp [hl], ?_⟩⟩
  simp only [cellsOf, List.flatMap_cons, List.flatMap_nil, List.append_nil, List.length_singleton, Nat.one_mul]
  rw [← hcs, List.take_of_length_le (by rw [Array.length_toList, hl]; exact Nat.le_refl _)]
section
variable {α : Type} {f : α → List Value} {st e : TypeId} {z : Value} {size bytes : Nat} {w : World} {B : Nat} {v : Value} {l : List α}
variable {o : Oper} {a : Act} {ops : Array Oper} {rest : List Oper} {Q : Exit → Act → World → Prop}
theorem app_oneG (E : Elt st e z size bytes) (h1 : OneF f) (hf : ∀ x, (f x).length = size) (hown : Own f size e B w v l) (y : α) (hb : (l.length + 1) * bytes ≤ 140737488355328) (h63 : l.length + 1 ≤ 9223372036854775807) (hbase : B ≤ w.heap.size) {te : TypeId} {cs : Array Value} (hcs : cs.toList = f y) {g : Nat} (hg : w.heap.size = g)
    (hgd : o.guard = none) (s x : Operand) (ho : o.op = .call { callee := .builtin .append, args := #[s, x], argTypes := #[st, st] }) (hs : a.eval s = v) (hx : a.eval x = .slice (some ⟨g, 0, none⟩) 1 1)
    (h : ∀ v' w', Own f size e B w' v' (l ++ [y]) → w.grownBy w' v.ownBlock → Lies v v' w.heap.size → wpList Try.prog ops Q rest (a.put o.dst v') w') : wpList Try.prog ops Q (o :: rest) a (w.alloc (.cells cs te)) := by
  subst hg
  exact app_one E h1 hf hown y hb h63 hbase hcs hgd s x ho hs hx h
end
def WordD (B b : Nat) (w : World) (e : Ending) (w' : World) : Prop := ∃ r, e = .returned (.int .u64 r) ∧ W64 r ∧ Deck B w' b ∧ w.grownBy w' (some b)
theorem wordD {B b : Nat} {w w' : World} {r : Int} (h : W64 r) (hd : Deck B w' b) (hg : w.grownBy w' (some b)) : WordD B b w (.returned (.int .u64 r)) w' := ⟨r, rfl, h, hd, hg⟩

set_option maxHeartbeats 400000 in
theorem small_c {B : Nat} (b : Nat) (w : World) (hd : Deck B w b) : Calls Try.prog 111 #[.pointer (some ⟨b, 0, none⟩)] w (WordD B b w) := by
  go_enter Try.func111, Try.ntmps111
  go_wp2_with fail
  refine (next_c b _ w hd (by omega) (by omega)).mono ?_
  rintro e w1 ⟨r1, rfl, ha1, hb1, hd1, hg1⟩
  have hw : IntKind.u64.wrap (1 + r1) = 1 + r1 := IntWalk.u64_in _ (by omega)
  go_wp2_with fail
  go_ret
  exact wordD ⟨by omega, by omega⟩ hd1 hg1
theorem w64_wrapT (x : Int) : W64 (IntKind.u64.wrap x) := by
  have := IntKind.wrap_u64 x
  unfold W64; rw [this]; omega
set_option maxHeartbeats 1000000 in
theorem weightD_c {B : Nat} (b : Nat) (w : World) (hd : Deck B w b) : Calls Try.prog 112 #[.pointer (some ⟨b, 0, none⟩)] w (WordD B b w) := by
  go_enter Try.func112, Try.ntmps112
  go_wp2_with fail
  refine (next_c b _ w hd (by omega) (by omega)).mono ?_
  rintro e w1 ⟨r1, rfl, ha1, hb1, hd1, hg1⟩
  have HN := Lib.hid fun m h0 h1 => next_c b m w1 hd1 h0 h1
  by_cases h0 : r1 = 0
  · subst h0
    go_wp2_with fail
    refine (HN.out _ (by omega) (by omega)).mono ?_
    rintro e w2 ⟨r2, rfl, ha2, hb2, hd2, hg2⟩
    have hw : IntKind.u64.wrap (1 + r2) = 1 + r2 := IntWalk.u64_in _ (by omega)
    go_wp2_with fail
    go_ret
    exact wordD ⟨by omega, by omega⟩ hd2 (grownBy_trans hg1 hg2)
  by_cases h1 : r1 = 1
  · subst h1
    go_wp2_with fail
    refine (HN.out _ (by omega) (by omega)).mono ?_
    rintro e w2 ⟨r2, rfl, ha2, hb2, hd2, hg2⟩
    have hw : IntKind.u64.wrap r2 = r2 := IntWalk.u64_in _ (by omega)
    have hw2 : IntKind.u64.wrap (9223372036854775808 - r2) = 9223372036854775808 - r2 := IntWalk.u64_in _ (by omega)
    go_wp2_with fail
    go_ret
    exact wordD ⟨by omega, by omega⟩ hd2 (grownBy_trans hg1 hg2)
  have f0 : ((r1 : Int) == 0) = false := by simpa using h0
  have f1 : ((r1 : Int) == 1) = false := by simpa using h1
  by_cases h2 : r1 = 2
  · subst h2
    clear h0 h1 f0 f1
    go_wp2_with fail
    refine (HN.out _ (by omega) (by omega)).mono ?_
    rintro e w2 ⟨r2, rfl, ha2, hb2, hd2, hg2⟩
    have hw : IntKind.u64.wrap (1 + r2) = 1 + r2 := IntWalk.u64_in _ (by omega)
    have HN2 := Lib.hid fun m h0 h1 => next_c b m w2 hd2 h0 h1
    go_wp2_with fail
    refine (HN2.out _ (by omega) (by omega)).mono ?_
    rintro e w3 ⟨r3, rfl, ha3, hb3, hd3, hg3⟩
    have hw3 : IntKind.u64.wrap r3 = r3 := IntWalk.u64_in _ (by omega)
    go_wp2_with fail
    go_ret
    exact wordD (w64_wrapT _) hd3 (grownBy_trans hg1 (grownBy_trans hg2 hg3))
  have f2 : ((r1 : Int) == 2) = false := by simpa using h2
  clear h0 h1 h2
  go_wp2_with fail
  refine (HN.out _ (by omega) (by omega)).mono ?_
  rintro e w2 ⟨r2, rfl, ha2, hb2, hd2, hg2⟩
  have hw : IntKind.u64.wrap (1 + r2) = 1 + r2 := IntWalk.u64_in _ (by omega)
  go_wp2_with fail
  go_ret
  exact wordD ⟨by omega, by omega⟩ hd2 (grownBy_trans hg1 hg2)

/-- What the deck's tags are. -/
structure TagsM (L : List TagR) : Prop where
  few : 1 ≤ L.length ∧ L.length ≤ 2
  ok : ∀ t ∈ L, tagE t = 0
  size : ∀ t ∈ L, t.name.size ≤ 6 ∧ t.value.size ≤ 10
  dif : Dif L
theorem nm_k (b : UInt8) : tagE ⟨⟨#[107]⟩, ⟨#[b]⟩⟩ = 0 := by
  simp [tagE, nmB, letB, ByteArray.size]
theorem nm_ab : tagE ⟨⟨#[97, 46, 98]⟩, ⟨#[]⟩⟩ = 0 := by
  simp [tagE, nmB, letB, ByteArray.size]
def hostN (b : UInt8) : ByteArray := ⟨#[104, 111, 115, 116, 45]⟩ ++ ⟨#[b]⟩
theorem hostN_data (b : UInt8) : (hostN b).data.toList = [104, 111, 115, 116, 45, b] := by
  unfold hostN; rw [ba_app]; rfl
theorem nm_host {b : UInt8} (h : 48 ≤ b.toNat ∧ b.toNat ≤ 50) (v : ByteArray) (hv : v.size = 10) : tagE ⟨hostN b, v⟩ = 0 := by
  have hs : (hostN b).size = 6 := by
    have : (hostN b).data.toList.length = 6 := by rw [hostN_data]; rfl
    exact this
  unfold tagE
  have hl : letB b = true := by simp [letB]; omega
  rw [if_neg (by unfold nmB; rw [hostN_data]; simp [hl]; simp [letB]), if_neg (by simp only [hs]; omega), if_neg (by simp only [hs, hv]; omega)]
theorem tagsM1 (b : UInt8) : TagsM [⟨⟨#[107]⟩, ⟨#[b]⟩⟩] := ⟨by simp, by intro t ht; rw [List.mem_singleton.1 ht]; exact nm_k b, by intro t ht; rw [List.mem_singleton.1 ht]; simp [ByteArray.size], by simp [Dif]⟩
theorem tagsM2 (b : UInt8) : TagsM ([⟨⟨#[107]⟩, ⟨#[b]⟩⟩] ++ [⟨⟨#[97, 46, 98]⟩, ⟨#[]⟩⟩]) :=
  ⟨by simp, by intro t ht; simp at ht; rcases ht with rfl | rfl; exact nm_k b; exact nm_ab, by intro t ht; simp at ht; rcases ht with rfl | rfl <;> simp [ByteArray.size], by simp [Dif, nmB]⟩
theorem tagsM3 (b c : UInt8) (h : 48 ≤ c.toNat ∧ c.toNat ≤ 50) : TagsM ([⟨⟨#[107]⟩, ⟨#[b]⟩⟩] ++ [⟨hostN c, ⟨#[48, 49, 50, 51, 52, 53, 54, 55, 56, 57]⟩⟩]) := by
  have hs : (hostN c).size = 6 := by
    have : (hostN c).data.toList.length = 6 := by rw [hostN_data]; rfl
    exact this
  refine ⟨by simp, ?_, ?_, ?_⟩
  · intro t ht; simp at ht; rcases ht with rfl | rfl
    · exact nm_k b
    · exact nm_host h _ rfl
  · intro t ht; simp at ht; rcases ht with rfl | rfl
    · simp [ByteArray.size]
    · exact ⟨by show (hostN c).size ≤ 6; omega, by show (10 : Nat) ≤ 10; omega⟩
  · simp [Dif, nmB, hostN_data]
def TagsD (B b : Nat) (w : World) (e : Ending) (w' : World) : Prop := ∃ v L, e = .returned v ∧ Own tagF 2 143 w.heap.size w' v L ∧ TagsM L ∧ Deck B w' b ∧ w.grownBy w' (some b)

set_option maxHeartbeats 1000000 in
set_option maxRecDepth 100000 in
theorem tagsD_c {B : Nat} (b : Nat) (w : World) (hd : Deck B w b) (hB : B ≤ w.heap.size) : Calls Try.prog 82 #[.pointer (some ⟨b, 0, none⟩)] w (TagsD B b w) := by
  have hbB := hd.below
  go_enter Try.func82, Try.ntmps82
  go_upto_region 2 with (go_at_call 62; refine (next_c b _ w hd (by omega) (by omega)).mono ?_; rintro e w1 ⟨r1, rfl, ha1, hb1, hd1, hg1⟩)
  obtain ⟨k, rfl⟩ := Int.eq_ofNat_of_zero_le ha1
  obtain ⟨b1, hb1e⟩ : ∃ b1 : UInt8, UInt8.ofNat (97 + k) = b1 := ⟨_, rfl⟩
  have hw1 : IntKind.u8.wrap (97 + (k : Int)) = (b1.toNat : Int) := by
    have := by_len (n := 97 + k)
    rw [hb1e] at this
    rw [← this]; congr 1
  have hc1 := fun w' g h => conv1b w' g b1 h
  clear hb1e
  go_upto_region 3 with fail
  have hz1 : w.heap.size ≤ (w1.alloc (.cells #[.int .u8 b1.toNat] 5)).heap.size := by have := hg1.size; simp; omega
  have O2 := own_lit1 (f := tagF) (s := 2) (e := 143) (w := w1.alloc (.cells #[.int .u8 b1.toNat] 5)) tagF_len (cs := #[.string ⟨#[107]⟩, .string ⟨#[b1]⟩]) (y := ⟨⟨#[107]⟩, ⟨#[b1]⟩⟩) rfl hz1
  have G2 : w1.grownBy ((w1.alloc (.cells #[.int .u8 b1.toNat] 5)).alloc (.cells #[.string ⟨#[107]⟩, .string ⟨#[b1]⟩] 143)) none := grownBy_new_block (World.grownBy_alloc _ _ _) _
  have hsz : (w1.alloc (.cells #[.int .u8 b1.toNat] 5)).heap.size = w1.heap.size + 1 := by simp
  have hgB : B ≤ (w1.alloc (.cells #[.int .u8 b1.toNat] 5)).heap.size := by omega
  rw [hsz] at O2 hgB
  clear hz1 hsz
  generalize (w1.alloc (.cells #[.int .u8 b1.toNat] 5)).alloc (.cells #[.string ⟨#[107]⟩, .string ⟨#[b1]⟩] 143) = w2 at *
  generalize w1.heap.size + 1 = g2 at *
  have D2 := hd1.kept G2 (by simp)
  have K2 := Lib.hid (grownBy_trans hg1 (grownBy_some G2 (some b)))
  have HO2 := Lib.hid O2
  clear hc1 hw1 O2 G2 hd1 hg1
  go_upto_region 4 with (go_at_call 62; refine (next_c b _ w2 D2 (by omega) (by omega)).mono ?_; rintro e w3 ⟨r2, rfl, ha2, hb2, hd3, hg3⟩)
  have K3 := Lib.hid (grownBy_trans K2.out hg3)
  have HO3 := Lib.hid (HO2.out.kept hg3 (fun k hk e => by cases e; have := (HO2.out.lt _ hk).1; omega))
  have hz3 := K3.out.size
  have hbs : (([⟨⟨#[107]⟩, ⟨#[b1]⟩⟩] : List TagR).length + 1) * 32 ≤ 140737488355328 := by simp
  have hbt : ([⟨⟨#[107]⟩, ⟨#[b1]⟩⟩] : List TagR).length + 1 ≤ 9223372036854775807 := by simp
  have fin : ∀ v' w' L, Own tagF 2 143 w.heap.size w' v' L → TagsM L → ∀ x, World.grownBy w3 x (some b) → Deck B x b → (x.grownBy w' (Value.ownBlock (.slice (some ⟨g2, 0, none⟩) 1 1))) → TagsD B b w (.returned v') w' := by
    intro v' w' L ho hm x hx hdx hg
    refine ⟨v', L, rfl, ho, hm, hdx.kept hg (by
      intro k e
      have : g2 = k := by simpa [Value.ownBlock] using e
      omega), ?_⟩
    have h1 := grownBy_trans K3.out hx
    exact grownBy_new h1 hg (HO2.out.lt g2 rfl).1
  have Hfin := Lib.hid fin
  clear HO2 K2 D2 fin
  by_cases h0 : r2 = 0
  · subst h0
    go_wp2_with (at_builtin; refine app_one elt_tag one_tag tagF_len HO3.out ⟨⟨#[97, 46, 98]⟩, ⟨#[]⟩⟩ hbs hbt hz3 (by rfl) rfl _ _ (by rfl) (by rfl) (by rfl) ?_; intro v5 w5 o5 g5 l5)
    go_ret
    exact Hfin.out _ _ _ o5 (tagsM2 b1) _ (grownBy_refl _ _) hd3 g5
  by_cases h1 : r2 = 1
  · subst h1
    clear h0
    have HN := Lib.hid fun m h0 h1 => next_c b m w3 hd3 h0 h1
    go_wp2_with fail
    refine (HN.out _ (by omega) (by omega)).mono ?_
    rintro e w4 ⟨r3, rfl, ha3, hb3, hd4, hg4⟩
    obtain ⟨q, rfl⟩ := Int.eq_ofNat_of_zero_le ha3
    obtain ⟨c1, hc1e⟩ : ∃ c1 : UInt8, UInt8.ofNat (48 + q) = c1 := ⟨_, rfl⟩
    have hcr : 48 ≤ c1.toNat ∧ c1.toNat ≤ 50 := by rw [← hc1e, UInt8.toNat_ofNat']; omega
    have hw1 : IntKind.u8.wrap (48 + (q : Int)) = (c1.toNat : Int) := by
      have := by_len (n := 48 + q)
      rw [hc1e] at this
      rw [← this]; congr 1
    have hc1 := fun w' g h => conv1b w' g c1 h
    have HM := Lib.hid (tagsM3 b1 c1 hcr)
    clear hc1e hcr
    have HO4 := Lib.hid (HO3.out.kept hg4 (by
      intro k hk e
      cases e
      have : g2 = b := by simpa [Value.ownBlock] using hk
      omega))
    have hz4 := Nat.le_trans hz3 hg4.size
    have O4 := HO4.out.same (World.grownBy_alloc w4 (.cells #[.int .u8 c1.toNat] 5) none)
    have hz5 : w.heap.size ≤ (w4.alloc (.cells #[.int .u8 c1.toNat] 5)).heap.size := by simp; omega
    have G4 := grownBy_trans hg4 (World.grownBy_alloc w4 (.cells #[.int .u8 c1.toNat] 5) (some b))
    have D4 := hd4.kept (World.grownBy_alloc w4 (.cells #[.int .u8 c1.toNat] 5) none) (by simp)
    have Hcs := Lib.hid (show (#[Value.string (⟨#[104, 111, 115, 116, 45]⟩ ++ ⟨#[c1]⟩), Value.string ⟨#[48, 49, 50, 51, 52, 53, 54, 55, 56, 57]⟩] : Array Value).toList = tagF ⟨hostN c1, ⟨#[48, 49, 50, 51, 52, 53, 54, 55, 56, 57]⟩⟩ from rfl)
    have hg6 : (w4.alloc (.cells #[.int .u8 c1.toNat] 5)).heap.size = w4.heap.size + 1 := by simp
    have Hg6 := Lib.hid hg6
    clear hg6
    go_wp2_with (at_builtin; refine app_oneG elt_tag one_tag tagF_len O4 ⟨hostN c1, ⟨#[48, 49, 50, 51, 52, 53, 54, 55, 56, 57]⟩⟩ hbs hbt hz5 Hcs.out Hg6.out rfl _ _ (by rfl) (by rfl) (by rfl) ?_; intro v5 w5 o5 g5 l5)
    go_ret
    exact Hfin.out _ _ _ o5 HM.out _ G4 D4 g5
  have f0 : ((r2 : Int) == 0) = false := by simpa using h0
  have f1 : ((r2 : Int) == 1) = false := by simpa using h1
  clear h0 h1
  go_wp2_with fail
  go_ret
  exact ⟨_, _, rfl, HO3.out, tagsM1 b1, hd3, K3.out⟩
end Go.Proofs.Ytniokdflljchgaa
