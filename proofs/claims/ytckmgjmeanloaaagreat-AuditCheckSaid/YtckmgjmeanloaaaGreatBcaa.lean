/- Contracts of functions, and laws. -/
import Derived.Test.YtckmgjmeanloaaaGreatRows
import Derived.WalkSpells
import Derived.WalkLawsBesides
import Derived.Deep.DeepCutAuto
import Derived.Lib.Hide
import Derived.OpenShut
import Derived.Deep.AppendLies
import Derived.Lib.QuietBelow
import Derived.Deep.RegionHeld3
import Derived.Test.YtckmgjmeanloaaaGreatBcSh
import Derived.Sort.OwnSortedInts
set_option maxHeartbeats 8000000
set_option maxRecDepth 100000
namespace Go.Proofs.YtckmgjmeanloaaaGreat
theorem hh_{p:Prop}(h:p):Go.RowKit.Hid p:=Go.Lib.hid h
theorem ga_ (w:World) (o:Obj) (r:Option Nat):w.grownBy (w.alloc o) r:=World.grownBy_alloc w o r
theorem gq_{α:Type}{l:List α}{i:Nat}(h:i<l.length):l[i]?=some l[i]:=List.getElem?_eq_getElem h
theorem gs_{α:Type}{l:List α}{i:Nat}{x:α}(h:l[i]?=some x):∃h:i<l.length,l[i]=x:=List.getElem?_eq_some_iff.1 h
theorem wn_{P:Program}{ops:Array Oper}{C:World→Prop}{Q:Act→Prop}{a:Act}(h:Q a):wpQuiet P ops C Q [] a:=wpQuiet_nil h
theorem df_{p:Prop}[Decidable p](h:¬p):decide p=false:=decide_eq_false h
theorem dt_{p:Prop}[Decidable p](h:p):decide p=true:=decide_eq_true h
theorem bf_{α:Type}[BEq α][LawfulBEq α]{a b:α}(h:a≠b):(a==b)=false:=beq_eq_false_iff_ne.2 h
theorem la_{α:Type}{a b:List α}:(a++b).length=a.length+b.length:=List.length_append
theorem le_(n:Nat):n≤n:=Nat.le_refl n
theorem zl_(n:Nat):0≤n:=Nat.zero_le n
theorem lk_{α:Type}{i:Nat}{l:List α}:(l.take i).length=min i l.length:=List.length_take
theorem ls_{α:Type}{a:α}:[a].length=1:=List.length_singleton
theorem lc_{α:Type}{a:α}{l:List α}:(a::l).length=l.length+1:=List.length_cons
theorem ll_{a b c:Nat}(h:a<b)(k:b≤c):a<c:=Nat.lt_of_lt_of_le h k
theorem lt_{a b c:Nat}(h:a≤b)(k:b≤c):a≤c:=Nat.le_trans h k
theorem ms_{α:Type}{a b:α}(h:a∈[b]):a=b:=List.mem_singleton.1 h
theorem ma_{α:Type}{a:α}{s t:List α}(h:a∈s++t):a∈s∨a∈t:=List.mem_append.1 h
theorem mg_{α:Type}{l:List α}{n:Nat}(h:n<l.length):l[n]∈l:=List.getElem_mem h
theorem mo_{α:Type}{l:List α}{i:Nat}{a:α}(h:l[i]?=some a):a∈l:=List.mem_of_getElem? h
theorem tk_{α:Type}{l:List α}{i:Nat}(h:l.length≤i):l.take i=l:=List.take_of_length_le h
theorem tg_{α:Type}{l:List α}{i:Nat}(h:i<l.length):l.take (i+1)=l.take i++[l[i]]:=List.take_succ_eq_append_getElem h
end Go.Proofs.YtckmgjmeanloaaaGreat
namespace Go.Proofs.YtckmgjmeanloaaaGreat
open Go.Proofs.Tryz
variable {w w':World} {t:List Int} {k:ByteArray} {Q:Exit→Act→World→Prop} {ops:Array Oper} {o:Oper} {a:Act} {cs:Array Value}
section
open Go.RowKit
theorem Ab_ (w:World) (r:Option Nat):w.grownBy w r:=⟨rfl,rfl,rfl,le_ _,fun _ _ _=>rfl⟩
theorem Aa_ {a b c:World} {r:Option Nat} (h:a.grownBy b r) (k:b.grownBy c r):a.grownBy c r:=
 ⟨k.os.trans h.os,k.tape.trans h.tape,k.output.trans h.output,lt_ h.size k.size,
  fun i hi hn=>(k.block i (ll_ hi h.size) hn).trans (h.block i hi hn)⟩
theorem Ak_ {a b:World} (h:a.grownBy b none) (r:Option Nat):a.grownBy b r:=
 ⟨h.os,h.tape,h.output,h.size,fun i hi _=>h.block i hi (by simp)⟩
theorem Af_ {a b c:World} {r:Option Nat} {g:Nat} (h:a.grownBy b r) (k:b.grownBy c (some g)) (hg:a.heap.size≤g):a.grownBy c r:=
 ⟨k.os.trans h.os,k.tape.trans h.tape,k.output.trans h.output,lt_ h.size k.size,
  fun i hi hn=>(k.block i (ll_ hi h.size) (by simp;omega)).trans (h.block i hi hn)⟩
theorem Al_ {a b:World} {r:Option Nat} (h:a.grownBy b r):a.grownBy b.drew r:=⟨h.os,h.tape,h.output,h.size,h.block⟩
theorem Ae_ {a b:World} {r:Option Nat} (h:a.grownBy b r) (n:Nat):a.grownBy (b.drewN n) r:=⟨h.os,h.tape,h.output,h.size,h.block⟩
theorem Ad_ {a b:World} {r:Option Nat} (h:a.grownBy b r) (o:Obj):a.grownBy (b.alloc o) r:=Aa_ h (ga_ b o r)
theorem Ac_ {a b:World} {g:Nat} (h:a.grownBy b (some g)) (o:Nat) (v:Value):a.grownBy (b.setCell ⟨g,o,none⟩ v) (some g):=
 Aa_ h ⟨rfl,rfl,rfl,by simp[World.setCell],fun i _ hn=>Below.heap_setCell _ _ _ _ (by simpa using hn)⟩
theorem Ai_ {a b:World} {r:Option Nat} (h:a.grownBy b r) {p:Addr} (hp:a.heap.size≤p.block) (v:Value):a.grownBy (b.setCell p v) r:=
 ⟨h.os,h.tape,h.output,by have:=h.size;simpa [World.setCell] using this,fun i hi hn=>(Below.heap_setCell _ _ _ _ (by omega)).trans (h.block i hi hn)⟩
theorem Jj_ {a b:World} (h:a.grownBy b none):Below a.heap.size a b:=⟨h.os,h.tape,h.output,h.size,fun i hi=>h.block i hi (by simp)⟩
theorem Am_ {a b:World} {r:Option Nat} (h:a.grownBy b r) :(∀k o,k<a.heap.size→some k≠r→b.cell? ⟨k,o,none⟩=a.cell? ⟨k,o,none⟩)∧(∀k o,k<a.heap.size→some k≠r→b.frozen? ⟨k,o,none⟩=a.frozen? ⟨k,o,none⟩):=
 ⟨fun k _ hk hn=>World.cell?_of_block (h.block k hk hn),fun k _ hk hn=>World.frozen?_of_block (h.block k hk hn)⟩
theorem Eq_ {b o:Nat} {c:Array Value} {t:TypeId} {f:Nat×Nat} (v:Value) (h:w.heap[b]?=some (.cells c t f)) :
  (w.setCell ⟨b,o,none⟩ v).heap[b]?=some (.cells (c.setIfInBounds o v) t f):=by
 simp[World.setCell,Array.getElem?_modify,h]
def Rd (w:World) (size:Nat) (v:Value) (n:Nat) (xs:List Value):Prop:=
 xs.length=n*size∧n≤9223372036854775807∧((n=0∧∃a cap,v=.slice a 0 cap) ∨
  ∃g off cap,v=.slice (some ⟨g,off,none⟩) n cap∧g<w.heap.size∧∀j u,xs[j]?=some u→w.cell? ⟨g,off+j,none⟩=some u)
def NotIn (v:Value) (b:Nat):Prop:=∀a n c,v=.slice (some a) n c→a.block≠b
theorem Rd.kept {size:Nat} {v:Value} {n:Nat} {xs:List Value} {r:Option Nat} (h:Rd w size v n xs) (hg:w.grownBy w' r) (hr:∀b,r=some b→NotIn v b):Rd w' size v n xs:=by
 obtain⟨h1,h0,h2⟩:=h;refine⟨h1,h0,?_⟩
 rcases h2 with h2 |⟨g,off,cap,hv,hlt,hc⟩
 ·exact .inl h2
 ·refine .inr ⟨g,off,cap,hv,ll_ hlt hg.size,fun j u hu=>?_⟩
  rw[World.cell?_of_block (a:=⟨g,off+j,none⟩) (hg.block g hlt ?_)]
  ·exact hc j u hu
  ·intro e;exact hr g e.symm _ _ _ hv rfl
theorem Rd.kept0 {size:Nat} {v:Value} {n:Nat} {xs:List Value} {r:Option Nat} (h:Rd w size v n xs) (hg:w.grownBy w' r) (hr:0<n→∀b,r=some b→NotIn v b):Rd w' size v n xs:=by
 rcases Nat.eq_zero_or_pos n with h0|h0
 ·rcases h.2.2 with⟨_,a,cap,rfl⟩ |⟨g,off,cap,rfl,_⟩
  ·exact⟨h.1,h.2.1,.inl ⟨h0,a,cap,rfl⟩⟩
  ·exact⟨h.1,h.2.1,.inl ⟨h0,some ⟨g,off,none⟩,cap,by rw[h0]⟩⟩
 ·exact h.kept hg (hr h0)
theorem Rd.same {size:Nat} {v:Value} {n:Nat} {xs:List Value} (h:Rd w size v n xs) (hg:w.grownBy w' none):Rd w' size v n xs:=
 h.kept hg (by simp)
theorem St_ (x n:Int) (h:0<n) :(x.tmod n+n)%n=x%n:=by
 have h1:x.tmod n=if 0≤x∨n ∣ x then x%n else x%n-n:=by
  rw[Int.tmod_eq_emod];split
  ·simp
  ·have :(n.natAbs:Int)=n:=by omega
   rw[this]
 rw[h1]
 split
 ·rw[Int.add_emod_right,Int.emod_emod]
 ·rw[show x%n-n+n=x%n from by omega,Int.emod_emod]
theorem Pe_ (x n:Int) (h:0<n):-n<x.tmod n∧x.tmod n<n:=by
 have h1:x.tmod n=if 0≤x∨n ∣ x then x%n else x%n-n:=by
  rw[Int.tmod_eq_emod];split
  ·simp
  ·have :(n.natAbs:Int)=n:=by omega
   rw[this]
 have a:=Int.emod_nonneg x (show n≠0 by omega);have b:=Int.emod_lt_of_pos x h;rw[h1];split <;> omega
theorem Zh_ (x n:Int) (w:World) (h0:0<n) (h1:n≤4611686018427387904) :
  Calls prog 74 #[.int .i64 x,.int .i64 n] w fun e w'=>e=.returned (.int .i64 (x%n))∧w=w':=by
 have H:=hh_ (St_ x n h0);obtain⟨ha,hb⟩:=Pe_ x n h0
 go_enter func74,ntmps74
 go_wp2
 go_ret
 exact⟨congrArg (fun i=>Ending.returned (Value.int IntKind.i64 i)) H.out,rfl⟩
def Deck (B:Nat) (w:World) (b:Nat):Prop:=
 ∃sv,∃xs:List Int,∃k n:Nat,w.heap[b]?=some (.cells #[sv,.int .i64 k] 94)∧k≤n∧Rd w 1 sv n (xs.map (fun x=>Value.int .i64 x))∧(0<n→NotIn sv b)∧b<B∧(0<n→∀a n c,sv=.slice (some a) n c→a.block<B)
theorem Deck.lt {B:Nat} {b:Nat} (h:Deck B w b):b<w.heap.size:=by
 obtain⟨_,_,_,_,h,_⟩:=h;exact(Array.getElem?_eq_some_iff.1 h).1
theorem Deck.below {B:Nat} {b:Nat} (h:Deck B w b):b<B:=by
 obtain⟨_,_,_,_,_,_,_,_,h,_⟩:=h;exact h
theorem Deck.kept {B:Nat} {b:Nat} {r:Option Nat} (h:Deck B w b) (hg:w.grownBy w' r) (hr:∀c,r=some c→B≤c):Deck B w' b:=by
 have hlt:=h.lt;obtain⟨sv,xs,k,n,h1,h3,h4,h5,h6,h7⟩:=h;refine⟨sv,xs,k,n,(hg.block b hlt (fun e=>by have:=hr _ e.symm;omega)).trans h1,h3,h4.kept0 hg ?_,h5,h6,h7⟩;intro h0 c hc a n' c' hv;have h8:=hr c hc;have h9:=h7 h0 _ _ _ hv
 omega
theorem Deck.alloc {B:Nat} {b:Nat} (h:Deck B w b) (o:Obj):Deck B (w.alloc o) b:=h.kept (ga_ w o none) (by simp)
def be_ (B b:Nat) (m:Int) (w:World) (e:Ending) (w':World):Prop:=
 ∃r,e=.returned (.int .i64 r)∧0≤r∧r<m∧Deck B w' b∧w.grownBy w' (some b)
theorem Ba_ {B:Nat} (b:Nat) (m:Int) (w:World) (hd:Deck B w b) (h0:0<m) (h1:m≤4611686018427387904) :
  Calls prog 37 #[.pointer (some ⟨b,0,none⟩),.int .i64 m] w (be_ B b m w):=by
 have Hd:=hh_ hd;obtain⟨sv,xs,k,n,hb,hk1,hr,hni,hbB,hnB⟩:=hd;have hn63:=hr.2.1
 have hsv:∃a cap,sv=.slice a n cap:=by
  rcases hr.2.2 with⟨rfl,a,cap,rfl⟩ |⟨g,off,cap,rfl,_⟩
  ·exact⟨_,_,rfl⟩
  ·exact⟨_,_,rfl⟩
 obtain⟨a,cap,rfl⟩:=hsv
 have c0:w.cell? ⟨b,0,none⟩=some (.slice a n cap):=by simp[World.cell?,hb]
 have c1:w.cell? ⟨b,1,none⟩=some (.int .i64 k):=by simp[World.cell?,hb]
 have f1:w.frozen? ⟨b,1,none⟩=false:=by simp[World.frozen?,hb]
 by_cases hlt:k<n
 ·rcases hr.2.2 with⟨h0,_⟩ |⟨g,off,cap',hv,hg,hc⟩
  ·omega
  cases hv;have hgb:g≠b:=hni (by omega) _ _ _ rfl
  have hlen:xs.length=n:=by simpa using hr.1
  have cx:w.cell? ⟨g,off+k,none⟩=some (.int .i64 (xs.getD k 0)):=by
   refine hc k _ ?_;rw[List.getElem?_map,gq_ (by omega)]
   simp[List.getD_eq_getElem?_getD,gq_ (show k<xs.length by omega)]
  generalize xs.getD k 0=x at cx;have hr0:=Int.emod_nonneg x (show m≠0 by omega);have hr1:=Int.emod_lt_of_pos x h0;have Hb:=hh_ hb;have Hr:=hh_ hr;have HnB:=hh_ hnB;clear hb hr hc hlen hni hnB
  go_enter func37,ntmps37
  go_wp2
  go_quiet (fail)
  obtain⟨n1,rfl⟩:∃n1,n1=nq:=⟨_,rfl⟩
  go_wp2
  have hwr:IntKind.i64.wrap (k:Int)=k:=IntWalk.i64_in _ (by omega)
  go_quiet ((go_at_call 74;exact Calls.quiet_of_same ((Zh_ _ _ _ h0 h1).mono fun _ _ ⟨he,hw⟩=>⟨he,hw.symm⟩)))
  clear hwr
  go_wp2
  go_ret
  have G:w.grownBy (((w.drewN n1).setCell ⟨b,1,none⟩ (.int .i64 ((k:Int)+1))).drewN nq) (some b):=Ae_ (Ac_ (Ae_ (Ab_ w _) _) _ _) _;refine⟨x%m,rfl,hr0,hr1,⟨_,xs,k+1,n,?_,hlt,Hr.out.kept G ?_,?_,hbB,HnB.out⟩,G⟩
  ·exact Eq_ _ Hb.out
  ·intro c hc;cases hc;intro a n' c' hv;cases hv;exact hgb
  ·intro _ a n' c' hv;cases hv;exact hgb
 ·have hle:n≤k:=by omega
  clear hlt;have Hb:=hh_ hb;have Hr:=hh_ hr;clear hb hr hnB
  go_enter func37,ntmps37
  go_wp2
  go_quiet (fail)
  go_wp2
  go_ret
  exact⟨0,rfl,Int.le_refl _,h0,Hd.out.kept (Ae_ (Ab_ w none) _) (by simp),Ae_ (Ab_ w _) _⟩
theorem gw_ {r:Option Nat} (h:World.grownBy w w' r:=by repeat(first|exact Ab_ _ _|assumption|refine Ad_ ?_ _|refine Al_ ?_|refine Ae_ ?_ _|refine Ai_ ?_ (by first |(simp;done)|omega |(simp;omega)) _)):World.grownBy w w' r:=h
theorem Rd.shape {size:Nat} {v:Value} {n:Nat} {xs:List Value} (h:Rd w size v n xs):∃a cap,v=.slice a n cap:=by
 rcases h.2.2 with⟨rfl,a,cap,rfl⟩ |⟨g,off,cap,rfl,_⟩
 ·exact⟨_,_,rfl⟩
 ·exact⟨_,_,rfl⟩
theorem Rd.blockLt {size:Nat} {v:Value} {n:Nat} {xs:List Value} (h:Rd w size v n xs) (h0:0<n):∀a n' c,v=.slice (some a) n' c→a.block<w.heap.size:=by
 intro a n' c hv
 rcases h.2.2 with⟨h,_⟩ |⟨g,off,cap,h,hg,_⟩
 ·omega
 ·rw[h] at hv;cases hv;exact hg
def cellsOf {α:Type} (f:α→List Value) (l:List α):List Value:=l.flatMap f
theorem As_ {α:Type} (f:α→List Value) (s:Nat) (hs:∀x,(f x).length=s) (l:List α) :(cellsOf f l).length=l.length*s:=by
 induction l with
 | nil=>simp[cellsOf]
 | cons x l ih=>simp only[cellsOf,List.flatMap_cons,la_,lc_] at *;rw[ih,hs,Nat.add_mul];omega
theorem Fe_ {α:Type} (f:α→List Value) (s:Nat) (hs:∀x,(f x).length=s) (l:List α) (i j:Nat) (hj:j<s) (x:α) (hx:l[i]?=some x) :
  (cellsOf f l)[i*s+j]? =(f x)[j]?:=by
 induction l generalizing i with
 | nil=>simp at hx
 | cons y l ih=>
  cases i with
  | zero=>
   simp at hx;subst hx
   simp only[cellsOf,List.flatMap_cons,Nat.zero_mul,Nat.zero_add];rw[List.getElem?_append_left (by rw[hs];exact hj)]
  | succ i=>
   simp only[List.getElem?_cons_succ] at hx
   have:=ih i hx
   simp only[cellsOf,List.flatMap_cons] at *;rw[List.getElem?_append_right (by rw[hs,Nat.add_mul];omega),hs,←this]
   congr 1
   rw[Nat.add_mul];omega
def RdL {α:Type} (f:α→List Value) (s:Nat) (w:World) (v:Value) (l:List α):Prop:=Rd w s v l.length (cellsOf f l)
theorem RdL.cell {α:Type} {f:α→List Value} {s:Nat} {v:Value} {l:List α} (h:RdL f s w v l) (hs:∀x,(f x).length=s) (hl:0<l.length) :
  ∃g off cap,v=.slice (some ⟨g,off,none⟩) l.length cap∧g<w.heap.size∧∀i x,l[i]?=some x→∀j u,(f x)[j]?=some u→w.cell? ⟨g,off+i*s+j,none⟩=some u:=by
 rcases h.2.2 with⟨h0,_⟩ |⟨g,off,cap,rfl,hg,hc⟩
 ·omega
 ·refine⟨g,off,cap,rfl,hg,fun i x hx j u hu=>?_⟩
  have hj:j<s:=by rw[←hs x];exact(gs_ hu).1
  rw[Nat.add_assoc];exact hc _ _ ((Fe_ f s hs l i j hj x hx).trans hu)
def clsF (p:Int×Int):List Value:=[.int .i64 p.1,.int .i64 p.2]
theorem Du_ (p:Int×Int) :(clsF p).length=2:=rfl
def fit (l:List (Int×Int)) (size:Int):Option Nat:=if 1≤size then l.findIdx? (fun p=>decide (size≤p.1)) else none
def fitI (l:List (Int×Int)) (size:Int):Nat:=(fit l size).getD 0
def fitE (l:List (Int×Int)) (size:Int):Int:=if (fit l size).isSome then 0 else 1
def fl_ (l:List (Int×Int)) (size:Int) (w:World) (e:Ending) (w':World):Prop:=
 e=.returned (.tuple #[.int .i64 (fitI l size:Nat),.int .i64 (fitE l size)])∧w.grownBy w' none
theorem L4_ {l:List (Int×Int)} (n:Int) (h:0<l.length):fitI l n<l.length:=by
 unfold fitI fit
 split
 ·cases hf:l.findIdx? _ with
  | none=>simpa using h
  | some k=>
   rw[List.findIdx?_eq_some_iff_getElem] at hf;obtain⟨h,_⟩:=hf
   simpa using h
 ·simpa using h
theorem Yx_ {l:List (Int×Int)} {size:Int} (h:∀(j:Nat) (p:Int×Int),l[j]?=some p→p.1<size):fit l size=none:=by
 unfold fit;split
 ·rw[List.findIdx?_eq_none_iff]
  intro x hx;obtain⟨i,hi⟩:=List.mem_iff_getElem?.1 hx
  have:=h i x hi
  simp;omega
 ·rfl
theorem Q1_ {l:List (Int×Int)} {size:Int} {k:Nat} {p:Int×Int} (hs:1≤size) (h:∀(j:Nat) (p:Int×Int),j<k→l[j]?=some p→p.1<size) (hk:l[k]?=some p) (hp:size≤p.1):fit l size=some k:=by
 unfold fit;rw[if_pos hs,List.findIdx?_eq_some_iff_getElem];obtain⟨hlt,rfl⟩:=gs_ hk;refine⟨hlt,by simpa using hp,fun j hj=>?_⟩
 have:=h j l[j] hj (gq_ _)
 simp;omega
theorem V1_ (v:Value) (l:List (Int×Int)) (size:Int) (w:World) (h:RdL clsF 2 w v l) :
  Calls prog 76 #[v,.int .i64 size] w (fl_ l size w):=by
 obtain⟨a,cap,rfl⟩:=h.shape;have hm:=h.2.1
 by_cases hs:1≤size
 ·go_enter func76,ntmps76
  go_wp2
  go_loopw [12] (fun i wr=>∃k:Nat,k≤l.length∧i=.int .i64 k∧(∀j (p:Int×Int),j<k→l[j]?=some p→p.1<size)∧w.grownBy wr none) (fun i _=>l.length-(RowKit.intOf i).toNat)
  case atStart=>exact⟨0,zl_ _,rfl,by simp,Ab_ _ _⟩
  case round=>
   obtain⟨k,hk,rfl,hall,hg⟩:=hrel
   by_cases hlt:k<l.length
   ·obtain⟨g,off,cap',hv,hgl,hc⟩:=h.cell Du_ (by omega)
    cases hv;obtain⟨p,hp⟩:∃p,l[k]?=some p:=⟨l[k],gq_ hlt⟩;have hcell:=Am_ hg
    have c0:wr.cell? ⟨g,off+k*2,none⟩=some (.int .i64 p.1):=by rw[hcell.1 _ _ hgl (by simp)];exact hc k p hp 0 _ rfl
    have c1:wr.cell? ⟨g,off+k*2+1,none⟩=some (.int .i64 p.2):=by rw[hcell.1 _ _ hgl (by simp)];exact hc k p hp 1 _ rfl
    clear hcell hc;have Hp:=hh_ hp;have Hall:=hh_ hall;clear hp hall
    by_cases hsz:size≤p.1
    ·go_wp2
     go_ret2
     have hf:=Q1_ hs Hall.out Hp.out hsz;exact⟨by simp[fitI,fitE,hf],Ad_ hg _⟩
    ·go_wp2
     refine⟨⟨k+1,by omega,by go_num,?_,Ad_ hg _⟩,?_⟩
     ·intro j q hj hq
      by_cases e:j=k
      ·subst e;rw[Hp.out] at hq;cases hq;omega
      ·exact Hall.out j q (by omega) hq
     ·simp[RowKit.intOf];omega
   ·have hk':k=l.length:=by omega
    have hn:fit l size=none:=Yx_ fun j p hp=>hall j p (by rw[hk'];exact(gs_ hp).1) hp
    have Hn:=hh_ hn;have Hk:=hh_ hk';clear hn hall hk'
    go_wp2
    go_ret2
    exact⟨by simp[fitI,fitE,Hn.out],hg⟩
 ·have hn:fit l size=none:=by unfold fit;rw[if_neg hs]
  go_enter func76,ntmps76
  have Hn:=hh_ hn;clear hn
  go_wp2
  go_ret2
  exact⟨by simp[fitI,fitE,Hn.out],Ab_ _ _⟩
structure Ow_ (l:List (Int×Int)):Prop where
 pos:0<l.length
 len:l.length≤8
 size:∀(i:Nat) (p:Int×Int),l[i]?=some p→1≤p.1∧p.1≤4096∧0≤p.2∧p.2≤65536
 asc:∀(i:Nat) (p q:Int×Int),l[i]?=some p→l[i+1]?=some q→p.1<q.1
theorem Un_ (v:Value) (l:List (Int×Int)) (w:World) (h:RdL clsF 2 w v l) (hok:Ow_ l) :
  Calls prog 111 #[v] w fun e w'=>e=.returned (.int .i64 0)∧w.grownBy w' none:=by
 obtain⟨a,cap,rfl⟩:=h.shape;have hm:=h.2.1;have hp0:0<l.length:=hok.pos;have hp8:l.length≤8:=hok.len
 have hz :((l.length:Int)==0)=false:=by rw[beq_eq_false_iff_ne];omega
 go_enter func111,ntmps111
 go_wp2
 go_loopw [15] (fun i wr=>∃k:Nat,k≤l.length∧i=.int .i64 k∧w.grownBy wr none) (fun i _=>l.length-(RowKit.intOf i).toNat)
 case atStart=>exact⟨0,zl_ _,rfl,Ab_ _ _⟩
 case round=>
  obtain⟨k,hk,rfl,hg⟩:=hrel
  by_cases hlt:k<l.length
  ·obtain⟨g,off,cap',hv,hgl,hc⟩:=h.cell Du_ (by omega)
   cases hv;obtain⟨p,hp⟩:∃p,l[k]?=some p:=⟨l[k],gq_ hlt⟩;have hcell:=Am_ hg
   have c0:wr.cell? ⟨g,off+k*2,none⟩=some (.int .i64 p.1):=by rw[hcell.1 _ _ hgl (by simp)];exact hc k p hp 0 _ rfl
   have c1:wr.cell? ⟨g,off+k*2+1,none⟩=some (.int .i64 p.2):=by rw[hcell.1 _ _ hgl (by simp)];exact hc k p hp 1 _ rfl
   obtain⟨b1,b2,b3,b4⟩:=hok.size k p hp
   by_cases hk0:k=0
   ·subst hk0
    simp only[Nat.zero_mul,Nat.add_zero] at c0 c1;clear hcell hc hp
    go_wp2
    go_quiet (fail)
    go_wp2
    refine⟨⟨1,by omega,by go_num,Ae_ (Ad_ hg _) _⟩,?_⟩
    simp[RowKit.intOf];omega
   ·obtain⟨q,hq⟩:∃q,l[k-1]?=some q:=⟨l[k-1],gq_ (by omega)⟩
    have d0:wr.cell? ⟨g,off+(k-1)*2,none⟩=some (.int .i64 q.1):=by rw[hcell.1 _ _ hgl (by simp)];exact hc (k-1) q hq 0 _ rfl
    have hlt':=hok.asc (k-1) q p hq (by rw[show k-1+1=k from by omega];exact hp)
    have hkp:0<k:=by omega
    have hgw:g<wr.heap.size:=ll_ hgl hg.size;clear hcell hc hp hq hk0
    go_wp2
    have hw1:IntKind.i64.wrap ((k:Int)-1) =(k:Int)-1:=IntWalk.i64_in _ (by omega)
    have hw2 :((k:Int)-1).toNat=k-1:=by omega
    have hw3 :(0:Int)≤(k:Int)-1:=by omega
    have hw4 :(1:Int)≤(k:Int):=by omega
    go_quiet (fail)
    clear hw1 hw2
    go_wp2
    refine⟨⟨k+1,by omega,by go_num,Ae_ (Ad_ hg _) _⟩,?_⟩
    simp[RowKit.intOf];omega
  ·go_wp2
   go_ret
   exact⟨rfl,hg⟩
def wordF (n:Int):List Value:=[.int .u64 n]
theorem Bf_ (n:Int) :(wordF n).length=1:=rfl
def intF (n:Int):List Value:=[.int .i64 n]
theorem Jt_ (l:List Int):cellsOf wordF l=l.map (fun x=>Value.int .u64 x):=by
 induction l with
 | nil=>rfl
 | cons x l ih=>simp only[cellsOf,List.flatMap_cons,List.map_cons] at *;rw[ih];rfl
theorem Ur_ (l:List Int):cellsOf (fun n:Int=>[Value.int .i64 n]) l=l.map (fun x=>Value.int .i64 x):=by
 induction l with
 | nil=>rfl
 | cons x l ih=>simp only[cellsOf,List.flatMap_cons,List.map_cons] at *;rw[ih];rfl
theorem Bc_ (n:Int) :(intF n).length=1:=rfl
theorem e8_ (v:Value) (l:List Int) (w:World) (h:RdL wordF 1 w v l) (hl:l.length=16) :
  Calls prog 147 #[v] w fun e w'=>e=.returned (.int .i64 0)∧w=w':=by
 obtain⟨a,cap,rfl⟩:=h.shape;rw[hl];clear h hl
 go_enter func147,ntmps147
 go_wp2
 go_ret
 exact⟨rfl,rfl⟩
def ab_ (B b:Nat) (w:World) (e:Ending) (w':World):Prop:=
 ∃r,e=.returned (.int .u64 r)∧0≤r∧r<18446744073709551616∧Deck B w' b∧w.grownBy w' (some b)
theorem b4_ {B:Nat} (b:Nat) (w:World) (hd:Deck B w b) :
  Calls prog 39 #[.pointer (some ⟨b,0,none⟩)] w (ab_ B b w):=by
 go_enter func39,ntmps39
 go_wp2_with fail
 refine(Ba_ b _ w hd (by omega) (by omega)).mono ?_;rintro e w1 ⟨r1,rfl,ha1,hb1,hd1,hg1⟩
 go_wp2_with fail
 refine(Ba_ b _ w1 hd1 (by omega) (by omega)).mono ?_;rintro e w2 ⟨r2,rfl,ha2,hb2,hd2,hg2⟩
 go_wp2_with fail
 go_ret
 have hb:=bounds_u64 (wf_bits BinOp.xor IntKind.u64 (r1*4294967296) r2);exact⟨_,rfl,hb.1,by omega,hd2,Aa_ hg1 hg2⟩
def L5_ (l:List Int):Prop:=∀x∈l,0≤x∧x<18446744073709551616
def Wk_ (B b:Nat) (w:World) (e:Ending) (w':World):Prop:=
 ∃v,∃l:List Int,e=.returned v∧RdL wordF 1 w' v l∧l.length=16∧L5_ l∧NotIn v b∧(∀a n c,v=.slice (some a) n c→w.heap.size≤a.block)∧Deck B w' b∧w.grownBy w' (some b)
def Yl_ (B b C:Nat) (w:World) (wr:World):Prop:=
 ∃ws:List Int,ws.length=16∧L5_ ws∧wr.heap[C]?=some (.cells (ws.map (fun x=>Value.int .u64 x)).toArray 22)∧Deck B wr b∧w.grownBy wr (some b)
def d5_:Array Value:=((List.replicate 16 0).map (fun x:Int=>Value.int .u64 x)).toArray
theorem hx_ (w:World) :(Instr.makeSlice 24 (.int .i64 16) (.int .i64 16)).run prog w=.ok (.slice (some ⟨w.heap.size,0,none⟩) 16 16) (w.alloc (.cells d5_ 22)):=by kernel_rfl
theorem a8_ {B:Nat} (b:Nat) (w:World) (hd:Deck B w b) (hB:B≤w.heap.size) :
  Calls prog 38 #[.pointer (some ⟨b,0,none⟩)] w (Wk_ B b w):=by
 have hb:=hd.lt;have hmk:=hx_
 go_enter func38,ntmps38
 go_wp2_with fail
 refine(Ba_ b _ _ (hd.alloc _) (by omega) (by omega)).mono ?_;rintro e w1 ⟨r1,rfl,ha1,hb1,hd1,hg1⟩;have HB:=hh_ (hg1.block w.heap.size (by simp) (by simp;omega));clear hmk
 go_wp2_with fail
 go_loopw [12] (fun i wr=>∃k:Nat,k≤16∧i=.int .i64 k∧Yl_ B b w.heap.size w wr) (fun i _=>16-(RowKit.intOf i).toNat)
 case atStart=>
  refine⟨0,by omega,rfl,List.replicate 16 0,rfl,?_,?_,hd1,Aa_ (ga_ w _ _) hg1⟩
  ·intro x hx;rw[List.eq_of_mem_replicate hx];omega
  ·rw[HB.out];exact heap_alloc_new w _
 case round=>
  obtain⟨k,hk,rfl,ws,hws,hok,hheap,hdr,hg⟩:=hrel
  by_cases hlt:k<16
  ·have hkk:k<ws.length:=by omega
   go_wp2_with fail
   ·refine(b4_ b wr hdr).mono ?_
    rintro e w2 ⟨r2,rfl,ha2,hb2,hd2,hg2⟩
    have hB2:w2.heap[w.heap.size]?=some (.cells (ws.map (fun x=>Value.int .u64 x)).toArray 22):=by
     rw[hg2.block _ (Array.getElem?_eq_some_iff.1 hheap).1 (by simp;omega)];exact hheap
    have hc2:w2.cell? ⟨w.heap.size,k,none⟩=some (.int .u64 ws[k]):=by
     simp[World.cell?,hB2,gq_ hkk]
    have hf2:w2.frozen? ⟨w.heap.size,k,none⟩=false:=by simp[World.frozen?,hB2]
    have HB2:=hh_ hB2;clear hB2 hheap
    go_wp2_with fail
    have G :(w2.setCell ⟨w.heap.size,k,none⟩ (.int .u64 r2)).heap[w.heap.size]?=some (.cells ((ws.set k r2).map (fun x=>Value.int .u64 x)).toArray 22):=by
     rw[Eq_ _ HB2.out];simp[List.map_set]
    refine⟨⟨k+1,by omega,by go_num,ws.set k r2,by simpa using hws,?_,G,?_,?_⟩,?_⟩
    ·intro x hx
     rcases List.mem_or_eq_of_mem_set hx with h|h
     ·exact hok x h
     ·subst h;exact⟨ha2,hb2⟩
    ·exact hd2.kept (Ac_ (Ab_ w2 _) _ _) (by intro c hc;cases hc;exact hB)
    ·exact Ai_ (Aa_ hg hg2) (le_ _) _
    ·simp[RowKit.intOf];omega
   ·exact⟨⟨k+1,by omega,by go_num,ws,hws,hok,hheap,hdr,hg⟩,by simp[RowKit.intOf];omega⟩
  ·have hk':k=16:=by omega
   go_wp2_with fail
   go_ret
   refine⟨_,ws,rfl,?_,hws,hok,?_,?_,hdr,hg⟩
   ·refine⟨?_,?_,.inr ⟨w.heap.size,0,16,?_,(Array.getElem?_eq_some_iff.1 hheap).1,?_⟩⟩
    ·rw[As_ _ 1 Bf_]
    ·omega
    ·rw[hws];rfl
    ·intro j u hu
     rw[Jt_] at hu;simp only[World.cell?,hheap,Nat.zero_add]
     simpa using hu
   ·intro a n c h;cases h;simp;omega
   ·intro a n c h;cases h;simp
end
section
open Go.RowKit
def Own {α:Type} (f:α→List Value) (s:Nat) (e:TypeId) (B:Nat) (w:World) (v:Value) (l:List α):Prop:=w.ownsRow B e s v l.length (cellsOf f l)
theorem Own.shape {α:Type} {f:α→List Value} {s:Nat} {e:TypeId} {B:Nat} {w:World} {v:Value} {l:List α} (h:Own f s e B w v l):∃a cap,v=.slice a l.length cap:=by
 rcases h.2 with⟨rfl,h0⟩ |⟨g,cap,cur,rfl,_⟩
 ·exact⟨_,_,by rw[h0]⟩
 ·exact⟨_,_,rfl⟩
theorem Own.nil {α:Type} (f:α→List Value) (s:Nat) (e:TypeId) (B:Nat) (w:World):Own f s e B w (.slice none 0 0) []:=World.ownsRow_nil w B e s
theorem Own.lt {α:Type} {f:α→List Value} {s:Nat} {e:TypeId} {B:Nat} {w:World} {v:Value} {l:List α} (h:Own f s e B w v l):∀k,v.ownBlock=some k→B≤k∧k<w.heap.size:=World.ownsRow.lt h
theorem Own.kept {α:Type} {f:α→List Value} {s:Nat} {e:TypeId} {B:Nat} {w w':World} {v:Value} {l:List α} {r:Option Nat} (h:Own f s e B w v l) (hg:w.grownBy w' r) (hne:∀k,v.ownBlock=some k→r≠some k):Own f s e B w' v l:=by
 refine World.ownsRow.kept h hg ?_
 cases hv:v.ownBlock with
 | none=>exact .inl rfl
 | some k=>exact .inr (fun e=>hne k hv e.symm)
theorem Own.same {α:Type} {f:α→List Value} {s:Nat} {e:TypeId} {B:Nat} {w w':World} {v:Value} {l:List α} (h:Own f s e B w v l) (hg:w.grownBy w' none):Own f s e B w' v l:=h.kept hg (by simp)
theorem Own.len {α:Type} {f:α→List Value} {s:Nat} {e:TypeId} {B:Nat} {w:World} {v:Value} {l:List α} (h:Own f s e B w v l):l.length≤9223372036854775807:=by
 rcases h.2 with⟨rfl,h0⟩ |⟨g,cap,cur,rfl,_,_,h1,h2,_⟩
 ·omega
 ·unfold maxLen at h2;omega
theorem Own.rd {α:Type} {f:α→List Value} {s:Nat} {e:TypeId} {B:Nat} {w:World} {v:Value} {l:List α} (h:Own f s e B w v l):RdL f s w v l:=by
 refine⟨h.1,h.len,?_⟩
 rcases h.2 with⟨rfl,h0⟩ |⟨g,cap,cur,rfl,_,hg,h1,h2,_⟩
 ·exact .inl ⟨h0,none,0,rfl⟩
 ·refine .inr ⟨g,0,cap,rfl,(Array.getElem?_eq_some_iff.1 hg).1,fun j u hu=>?_⟩
  have:=World.ownsRow.cells h (g:=g) rfl j u hu
  have e :(⟨g,0,none⟩:Addr).add j =⟨g,0+j,none⟩:=by unfold Addr.add;split <;> simp_all
  rw[e] at this;exact this
theorem Own.base {α:Type} {f:α→List Value} {s:Nat} {e:TypeId} {B B':Nat} {w:World} {v:Value} {l:List α} (h:Own f s e B w v l) (hb:∀k,v.ownBlock=some k→B'≤k):Own f s e B' w v l:=by
 refine⟨h.1,?_⟩
 rcases h.2 with h0 |⟨g,cap,cur,rfl,_,hh⟩
 ·exact .inl h0
 ·exact .inr ⟨g,cap,cur,rfl,hb g rfl,hh⟩
theorem Aq_ {α:Type} {f:α→List Value} {s:Nat} {e:TypeId} {w w0 w':World} {v:Value} {l:List α} {r:Option Nat} {B:Nat} (hg:w.grownBy w0 r) (h:Own f s e B w0 v l) (hB:w.heap.size≤B) (k:w0.grownBy w' v.ownBlock):w.grownBy w' r:=by
 cases hv:v.ownBlock with
 | none=>rw[hv] at k;exact Aa_ hg (Ak_ k _)
 | some g=>rw[hv] at k;exact Af_ hg k (by have:=h.lt g hv;omega)
def Gq_ (v u:Value):Prop:=∀g,v.ownBlock=some g→u.ownBlock≠some g
theorem Gq_.symm {v u:Value} (h:Gq_ v u):Gq_ u v:=fun g hg e=>h g e hg
theorem D8_ (u:Value):Gq_ (.slice none 0 0) u:=fun g hg=>by simp[Value.ownBlock] at hg
def Lies (v v':Value) (n:Nat):Prop:=v'.ownBlock=v.ownBlock∨∃g,v'.ownBlock=some g∧n≤g
theorem Gq_.app {v u v':Value} {n:Nat} (h:Gq_ v u) (hu:∀k,u.ownBlock=some k→k<n) (hl:Lies v v' n):Gq_ v' u:=by
 intro g hg e
 rcases hl with h1 |⟨k,h1,h2⟩
 ·exact h g (h1▸hg) e
 ·rw[h1] at hg;cases hg;have:=hu _ e;omega
theorem Lies.ge {v v':Value} {n m:Nat} (h:Lies v v' n) (hv:∀k,v.ownBlock=some k→m≤k) (hm:m≤n):∀k,v'.ownBlock=some k→m≤k:=by
 intro k hk
 rcases h with h |⟨g,h1,h2⟩
 ·exact hv k (h▸hk)
 ·rw[h1] at hk;cases hk;omega
theorem Rz_ (n a b:Nat):∀k,Value.ownBlock (.slice (some ⟨n,0,none⟩) a b)=some k→n≤k:=by
 intro k hk
 have:n=k:=by simpa [Value.ownBlock] using hk
 omega
structure Elt (st e:TypeId) (z:Value) (size bytes:Nat):Prop where
 ht:prog.underlying st=some (.slice e)
 info :(prog.info? e).map (fun i=>(i.zero,i.size,i.bytes))=some (some z,size,bytes)
 cells:z.cells.size=size
 pos:0<size
theorem Ff_ {w:World} {st e ty:TypeId} {z:Value} {size bytes:Nat} (E:Elt st e z size bytes) {base:Nat} {v:Value} {n:Nat} {xs:List Value} (hown:w.ownsRow base e size v n xs) (c:Nat) :
  (Builtin.append_ #[st,st] ty #[v,.slice none 0 c]).run prog w=.ok v w:=by
 obtain⟨i,hi,_⟩:=info_parts E.info
 rcases hown.2 with⟨rfl,rfl⟩ |⟨g,cap,cur,rfl,_,_,hnc,_⟩
 ·simp[Builtin.append_,run_underlying E.ht,sizeOf,typeInfo,hi,Builtin.lenOf,Builtin.firstCells]
 ·simp[Builtin.append_,run_underlying E.ht,sizeOf,typeInfo,hi,Builtin.lenOf,Builtin.firstCells,hnc,storeCells]
theorem Gu_ {w:World} {st e ty:TypeId} {z:Value} {size bytes:Nat} (E:Elt st e z size bytes) {base:Nat} {v:Value} {n:Nat} {xs:List Value} (hown:w.ownsRow base e size v n xs)
  {A:Option Addr} {m c:Nat} {news:List Value} (hr:Rd w size (.slice A m c) m news) (h1:∀u∈news,u.oneCell'=true) (h63:n+m≤maxLen) (hb :(n+m)*bytes≤140737488355328) (hbase:base≤w.heap.size) :
  ∃v' w',(Builtin.append_ #[st,st] ty #[v,.slice A m c]).run prog w=.ok v' w'∧w'.ownsRow base e size v' (n+m) (xs++news)∧w.grownBy w' v.ownBlock∧Lies v v' w.heap.size:=by
 obtain⟨i,hi,hz0,hz1,hz2⟩:=info_parts E.info
 have key:∀ad:Addr,(∀j u,news[j]?=some u→w.cell? (ad.add j)=some u)→∃v' w',(Builtin.append_ #[st,st] ty #[v,.slice (some ad) m c]).run prog w=.ok v' w'∧w'.ownsRow base e size v' (n+m) (xs++news)∧w.grownBy w' v.ownBlock∧Lies v v' w.heap.size:=by
  intro ad hc;obtain⟨v',w',hrun,h2,h3,_,h5⟩:=run_append_own_at (P:=prog) w base st ty e i z size bytes E.ht hi hz0 hz1 hz2 E.cells E.pos v n xs hown ad m c news hr.1 hc h1 h63 hb hbase;exact⟨v',w',hrun,h2,h3,h5.imp id fun h=>⟨_,h,le_ _⟩⟩
 rcases hr.2.2 with⟨rfl,a,cap,hv⟩ |⟨g,off,cap,hv,_,hc⟩
 ·have hn:news=[]:=List.eq_nil_of_length_eq_zero (by simpa using hr.1)
  subst hn
  cases A with
  | none=>exact⟨v,w,Ff_ E hown c,by simpa using hown,World.grownBy.refl w _,.inl rfl⟩
  | some ad=>exact key ad (by simp)
 ·cases hv
  refine key _ fun j u hu=>?_
  have e :(⟨g,off,none⟩:Addr).add j =⟨g,off+j,none⟩:=by unfold Addr.add;split <;> simp_all
  rw[e];exact hc j u hu
theorem Ar_ {α:Type} (f:α→List Value) (l l':List α):cellsOf f (l++l')=cellsOf f l++cellsOf f l':=by simp[cellsOf]
def OneF {α:Type} (f:α→List Value):Prop:=∀x,∀u∈f x,u.oneCell'=true
theorem OneF.cells {α:Type} {f:α→List Value} (h:OneF f) (l:List α):∀u∈cellsOf f l,u.oneCell'=true:=by
 intro u hu;obtain⟨x,_,hx⟩:=List.mem_flatMap.1 hu;exact h x u hx
section
variable {α:Type} {f:α→List Value} {st e:TypeId} {z:Value} {size bytes:Nat} {w:World} {B:Nat} {v:Value} {l l2:List α} {A:Option Addr} {m c:Nat}
variable {o:Oper} {a:Act} {ops:Array Oper} {rest:List Oper} {Q:Exit→Act→World→Prop}
theorem c5_ (E:Elt st e z size bytes) (h1:OneF f) (hown:Own f size e B w v l) (hr:RdL f size w (.slice A m c) l2) (hm:m=l2.length) (hb :(l.length+l2.length)*bytes≤140737488355328) (h63:l.length+l2.length≤9223372036854775807) (hbase:B≤w.heap.size)
  (s x:Operand) (ho:o.op=.call { callee:=.builtin .append,args:=#[s,x],argTypes:=#[st,st] }) (hs:a.eval s=v) (hx:a.eval x=.slice A m c) {K:Act→World→Prop}
  (h:∀v' w',Own f size e B w' v' (l++l2)→w.grownBy w' v.ownBlock→Lies v v' w.heap.size→K (a.put o.dst v') w'):o.wp prog a w K Q:=by
 subst hm;obtain⟨v',w',hrun,h2,h3,h4⟩:=Gu_ (ty:=o.type) E hown hr (h1.cells l2) (by unfold maxLen;exact h63) hb hbase;unfold Oper.wp execOp;simp only[ho,resolve,invoke,builtin,Sem.run_bind,Sem.run_pure,Result.andThen_ok,List.map_toArray,List.map_cons,List.map_nil,hs,hx,hrun];exact h v' w' (by unfold Own;rw[Ar_,la_];exact h2) h3 h4
theorem app (E:Elt st e z size bytes) (h1:OneF f) (hown:Own f size e B w v l) (hr:RdL f size w (.slice A m c) l2) (hm:m=l2.length) (hb :(l.length+l2.length)*bytes≤140737488355328) (h63:l.length+l2.length≤9223372036854775807) (hbase:B≤w.heap.size)
  {s x:Operand} (h:∀v' w',Own f size e B w' v' (l++l2)→w.grownBy w' v.ownBlock→Lies v v' w.heap.size→wpList prog ops Q rest (a.put o.dst v') w') (hgd:o.guard=none:=by rfl) (ho:o.op=.call { callee:=.builtin .append,args:=#[s,x],argTypes:=#[st,st] }:=by rfl) (hs:a.eval s=v:=by rfl) (hx:a.eval x=.slice A m c:=by rfl):wpList prog ops Q (o::rest) a w:=
 wpList_plain hgd fun _ hK=>c5_ E h1 hown hr hm hb h63 hbase s x ho hs hx fun v' w' h2 h3 h4=>hK _ _ (h v' w' h2 h3 h4)
theorem Hm_ (E:Elt st e z size bytes) (h1:OneF f) (hown:Own f size e B w v l) (hr:RdL f size w (.slice A m c) l2) (hm:m=l2.length) (hb :(l.length+l2.length)*bytes≤140737488355328) (h63:l.length+l2.length≤9223372036854775807) (hbase:B≤w.heap.size)
  (hgd:o.guard=none) (s x:Operand) (ho:o.op=.call { callee:=.builtin .append,args:=#[s,x],argTypes:=#[st,st] }) (hs:a.eval s=v) (hx:a.eval x=.slice A m c) {K:Act→World→Prop} {R:Prop}
  (h:∀v' w',Own f size e B w' v' (l++l2)→w.grownBy w' v.ownBlock→Lies v v' w.heap.size→K (a.put o.dst v') w'):if Region.wanted o (yielded ops a.tmps)=true then Oper.wp prog o a w K Q else R:=by
 have hw:Region.wanted o (yielded ops a.tmps)=true:=by simp[Region.wanted,hgd]
 rw[if_pos hw];exact c5_ E h1 hown hr hm hb h63 hbase s x ho hs hx h
theorem H8_ (hf:∀x,(f x).length=size) (w0:World) (y:α) (cs:Array Value) (te:TypeId) (hcs:cs.toList=f y):RdL f size (w0.alloc (.cells cs te)) (.slice (some ⟨w0.heap.size,0,none⟩) 1 1) [y]:=by
 refine⟨by simp[cellsOf,hf],by simp,.inr ⟨w0.heap.size,0,1,rfl,by simp,fun j u hu=>?_⟩⟩;simp only[cellsOf,List.flatMap_cons,List.flatMap_nil,List.append_nil,←hcs] at hu
 have:=heap_alloc_new w0 (.cells cs te)
 simp only[World.cell?,this,Nat.zero_add]
 simpa using hu
theorem A9_ (E:Elt st e z size bytes) (h1:OneF f) (hf:∀x,(f x).length=size) (hown:Own f size e B w v l) (y:α) (hb :(l.length+1)*bytes≤140737488355328) (h63:l.length+1≤9223372036854775807) (hbase:B≤w.heap.size) {te:TypeId} (hcs:cs.toList=f y)
  {s x:Operand} (h:∀v' w',Own f size e B w' v' (l++[y])→w.grownBy w' v.ownBlock→Lies v v' w.heap.size→wpList prog ops Q rest (a.put o.dst v') w') (hgd:o.guard=none:=by rfl) (ho:o.op=.call { callee:=.builtin .append,args:=#[s,x],argTypes:=#[st,st] }:=by rfl) (hs:a.eval s=v:=by rfl) (hx:a.eval x=.slice (some ⟨w.heap.size,0,none⟩) 1 1:=by rfl):wpList prog ops Q (o::rest) a (w.alloc (.cells cs te)):=
 app (l2:=[y]) E h1 (hown.same (ga_ w _ _)) (H8_ hf w y cs te hcs) rfl (by simpa using hb) (by simpa using h63) (by simp;omega) (fun v' w' h2 h3 h4=>h v' w' h2 (Aa_ (ga_ w _ _) h3) (h4.imp id fun⟨g,e1,e2⟩=>⟨g,e1,by simp at e2;omega⟩)) hgd ho hs hx
theorem N3_ (E:Elt st e z size bytes) (h1:OneF f) (hf:∀x,(f x).length=size) (hown:Own f size e B w v l) (y:α) (hb :(l.length+1)*bytes≤140737488355328) (h63:l.length+1≤9223372036854775807) (hbase:B≤w.heap.size) {te:TypeId} (hcs:cs.toList=f y)
  (hgd:o.guard=none) (s x:Operand) (ho:o.op=.call { callee:=.builtin .append,args:=#[s,x],argTypes:=#[st,st] }) (hs:a.eval s=v) (hx:a.eval x=.slice (some ⟨w.heap.size,0,none⟩) 1 1) {K:Act→World→Prop} {R:Prop}
  (h:∀v' w',Own f size e B w' v' (l++[y])→w.grownBy w' v.ownBlock→Lies v v' w.heap.size→K (a.put o.dst v') w'):if Region.wanted o (yielded ops a.tmps)=true then Oper.wp prog o a (w.alloc (.cells cs te)) K Q else R:=
 Hm_ (l2:=[y]) E h1 (hown.same (ga_ w _ _)) (H8_ hf w y cs te hcs) rfl (by simpa using hb) (by simpa using h63) (by simp;omega) hgd s x ho hs hx
  fun v' w' h2 h3 h4=>h v' w' h2 (Aa_ (ga_ w _ _) h3) (h4.imp id fun⟨g,e1,e2⟩=>⟨g,e1,by simp at e2;omega⟩)
end
theorem RdL.take {α:Type} {f:α→List Value} {s:Nat} {w:World} {A:Option Addr} {n cap:Nat} {l:List α} (hf:∀x,(f x).length=s) (h:RdL f s w (.slice A n cap) l) {k:Nat} (hk:k≤l.length) (c:Nat):RdL f s w (.slice A k c) (l.take k):=by
 have hl :(l.take k).length=k:=by simp;omega
 refine⟨As_ f s hf _,by have:=h.2.1;omega,?_⟩
 rcases h.2.2 with⟨h0,_⟩ |⟨g,off,cap',hv,hg,hc⟩
 ·obtain rfl:k=0:=by omega
  exact .inl ⟨by omega,A,c,rfl⟩
 ·cases hv
  refine .inr ⟨g,off,c,by rw[hl],hg,fun j u hu=>hc j u ?_⟩
  have e:cellsOf f l=cellsOf f (l.take k)++cellsOf f (l.drop k):=by rw[←Ar_,List.take_append_drop]
  rw[e,List.getElem?_append_left (gs_ hu).1];exact hu
theorem RdL.drop {α:Type} {f:α→List Value} {s:Nat} {w:World} {A:Option Addr} {n cap:Nat} {l:List α} (hf:∀x,(f x).length=s) (h:RdL f s w (.slice A n cap) l) {k:Nat} (hk:k≤l.length) (hcap:l.length≤cap) (c:Nat) :
  RdL f s w (.slice (if cap=k then A else A.map (·.add (k*s))) (l.length-k) c) (l.drop k):=by
 have hl :(l.drop k).length=l.length-k:=by simp
 refine⟨As_ f s hf _,by have:=h.2.1;omega,?_⟩
 rcases Nat.eq_zero_or_pos (l.length-k) with h0|h0
 ·exact .inl ⟨by omega,_,c,by rw[h0]⟩
 ·rcases h.2.2 with⟨h1,_⟩ |⟨g,off,cap',hv,hg,hc⟩
  ·omega
  ·cases hv
   rw[if_neg (by omega)];refine .inr ⟨g,off+k*s,c,?_,hg,fun j u hu=>?_⟩
   ·rw[hl];simp only[Option.map_some]
    unfold Addr.add;split <;> simp_all
   ·have e:cellsOf f l=cellsOf f (l.take k)++cellsOf f (l.drop k):=by rw[←Ar_,List.take_append_drop]
    have e2 :(cellsOf f (l.take k)).length=k*s:=by rw[As_ f s hf,lk_,Nat.min_eq_left hk]
    rw[Nat.add_assoc];refine hc _ u ?_;rw[e,List.getElem?_append_right (by omega),e2,show k*s+j-k*s=j by omega];exact hu
theorem RdL.dropS {α:Type} {f:α→List Value} {s:Nat} {w:World} {g off n cap:Nat} {l:List α} (hf:∀x,(f x).length=s) (h:RdL f s w (.slice (some ⟨g,off,none⟩) n cap) l) {k:Nat} (hk:k≤l.length) (hcap:l.length≤cap) (c:Nat) :
  RdL f s w (.slice (if cap=k then some ⟨g,off,none⟩ else some ⟨g,off+k*s,none⟩) (l.length-k) c) (l.drop k):=by
 have:=h.drop hf hk hcap c
 have e:Option.map (fun a=>Addr.add a (k*s)) (some (⟨g,off,none⟩:Addr))=some ⟨g,off+k*s,none⟩:=by
  simp only[Option.map_some];unfold Addr.add;split <;> simp_all
 rw[e] at this;exact this
theorem RdL.drop1 {α:Type} {f:α→List Value} {w:World} {g off n cap:Nat} {l:List α} (hf:∀x,(f x).length=1) (h:RdL f 1 w (.slice (some ⟨g,off,none⟩) n cap) l) {k:Nat} (hk:k≤l.length) (hcap:l.length≤cap) (c:Nat) :
  RdL f 1 w (.slice (if cap=k then some ⟨g,off,none⟩ else some ⟨g,off+k,none⟩) (l.length-k) c) (l.drop k):=by
 have:=h.dropS hf hk hcap c
 rwa [Nat.mul_one] at this
theorem RdL.same {α:Type} {f:α→List Value} {s:Nat} {w w':World} {v:Value} {l:List α} (h:RdL f s w v l) (hg:w.grownBy w' none):RdL f s w' v l:=Rd.same h hg
theorem RdL.at_ {α:Type} {f:α→List Value} {w:World} {v:Value} {l:List α} {s:Nat} (h:RdL f s w v l) (hf:∀x,(f x).length=s) {k:Nat} (hk:k<l.length) :
  ∃g off cap,v=.slice (some ⟨g,off,none⟩) l.length cap∧g<w.heap.size∧∀j u,(f l[k])[j]?=some u→w.cell? ⟨g,off+k*s+j,none⟩=some u:=by
 obtain⟨g,off,cap,hv,hg,hc⟩:=h.cell hf (by omega);exact⟨g,off,cap,hv,hg,fun j u hu=>hc k l[k] (gq_ hk) j u hu⟩
theorem RdL.one {α:Type} {f:α→List Value} {u:α→Value} (hu:∀x,f x=[u x]) {w:World} {v:Value} {l:List α} (h:RdL f 1 w v l) {k:Nat} (hk:k<l.length) :
  ∃g off cap,v=.slice (some ⟨g,off,none⟩) l.length cap∧g<w.heap.size∧w.cell? ⟨g,off+k,none⟩=some (u l[k]):=by
 obtain⟨g,off,cap,hv,hg,hc⟩:=h.at_ (fun x=>by rw[hu];rfl) hk;refine⟨g,off,cap,hv,hg,?_⟩
 have:=hc 0 (u l[k]) (by rw[hu];rfl)
 simpa using this
theorem A0_ {α:Type} (f:α→List Value) (s:Nat) {e:TypeId} {B:Nat} {w:World} (hB:B≤w.heap.size):Own f s e B (w.alloc (.cells #[] e)) (.slice (some ⟨w.heap.size,0,none⟩) 0 0) []:=
 ⟨by simp[cellsOf],.inr ⟨w.heap.size,0,#[],rfl,hB,heap_alloc_new w _,le_ _,zl_ _,by simp,by simp[cellsOf]⟩⟩
theorem Own.cap {α:Type} {f:α→List Value} {s:Nat} {e:TypeId} {B:Nat} {w:World} {a:Option Addr} {n c:Nat} {l:List α} (h:Own f s e B w (.slice a n c) l):l.length≤c:=by
 rcases h.2 with⟨hv,h0⟩ |⟨g,cap,cur,hv,_,_,h1,_⟩
 ·omega
 ·cases hv;exact h1
theorem Cs_ (x:Int):wordF x=[Value.int .u64 x]:=rfl
theorem O4_ (x:Int):intF x=[Value.int .i64 x]:=rfl
end
section
open Go.RowKit
def RetInt (k:Int) (w:World) (e:Ending) (w':World):Prop:=e=.returned (.int .i64 k)∧w.grownBy w' none
def Cm_ (b:Bool) (w:World) (e:Ending) (w':World):Prop:=e=.returned (.bool b)∧w.grownBy w' none
theorem Aj_ {k k':Int} (h:k=k') (hg:w.grownBy w' none):RetInt k w (.returned (.int .i64 k')) w':=⟨by rw[h],hg⟩
theorem Be_ {k k':Bool} (h:k=k') (hg:w.grownBy w' none):Cm_ k w (.returned (.bool k')) w':=⟨by rw[h],hg⟩
def RetWord (k:Int) (w:World) (e:Ending) (w':World):Prop:=e=.returned (.int .u64 k)∧w.grownBy w' none
theorem Cl_ {k k':Int} (h:k=k') (hg:w.grownBy w' none):RetWord k w (.returned (.int .u64 k')) w':=⟨by rw[h],hg⟩
def Cq_ (v:Value) (w:World) (e:Ending) (w':World):Prop:=e=.returned v∧w.grownBy w' none
theorem Bx_ {v v':Value} (h:v=v') (hg:w.grownBy w' none):Cq_ v w (.returned v') w':=⟨by rw[h],hg⟩
def W64 (n:Int):Prop:=0≤n∧n≤18446744073709551615
theorem Kl_ {n:Int} (h :(Lit.int .u64 n).wf=true):W64 n:=by have:=bounds_u64 h;unfold W64;omega
theorem b7_ {n:Int} (h0:0≤n) (h1:n≤18446744073709551615):W64 n:=⟨h0,h1⟩
def satA (a b:Int):Int:=if a+b≤18446744073709551615 then a+b else 18446744073709551615
def fitA (a b:Int):Bool:=decide (a+b≤18446744073709551615)
def D0_ (k:Int) (b:Bool) (w:World) (e:Ending) (w':World):Prop:=e=.returned (.tuple #[.int .u64 k,.bool b])∧w=w'
theorem Nt_ {k k':Int} {b b':Bool} (h:k=k') (hb:b=b'):D0_ k b w (.returned (.tuple #[.int .u64 k',.bool b'])) w:=⟨by rw[h,hb],rfl⟩
theorem Cr_ {a b:Int} (ha:W64 a) (hb:W64 b):W64 (satA a b):=by unfold W64 satA at *;split <;> omega
def sumA (a b:Int):Int:=(a+b+0)%18446744073709551616
def carA (a b:Int):Int:=(a+b+0)/18446744073709551616
theorem Rn_ {a b:Int} (ha:W64 a) (hb:W64 b) (h:fitA a b=true):sumA a b=satA a b∧(carA a b != 0)=false:=by
 unfold W64 fitA sumA satA carA at *;simp only[decide_eq_true_eq] at h;rw[if_pos h,bne_eq_false_iff_eq];omega
theorem Ro_ {a b:Int} (_:W64 a) (_:W64 b) (h:fitA a b=false):satA a b=18446744073709551615∧(carA a b != 0)=true:=by
 unfold W64 fitA satA carA at *;simp only[decide_eq_false_iff_not] at h;rw[if_neg h,bne_iff_ne];omega
theorem R3_ (a b:Int) (ha:W64 a) (hb:W64 b) (w:World) :(callFunc 67 #[.int .u64 a,.int .u64 b,.int .u64 0]).run prog w=.ok (.value (.tuple #[.int .u64 (sumA a b),.int .u64 (carA a b)])) w:=by
 rw[run_callFunc_extern (e:=add64Entry) func67 (by kernel_rfl) (by kernel_rfl) (by kernel_rfl) (by kernel_rfl),run_add64 a b 0 ha.1 hb.1 (by omega) (by omega)]
 rfl
theorem E2_ (a b:Int) (w:World) (ha:W64 a) (hb:W64 b):Calls prog 28 #[.int .u64 a,.int .u64 b] w (D0_ (satA a b) (fitA a b) w):=by
 have hc:=R3_ a b ha hb;cases hf:fitA a b
 ·obtain⟨h1,h2⟩:=Ro_ ha hb hf
  have H1:=hh_ h1;clear h1 hf ha hb
  go_enter func28,ntmps28
  go_wp2
  go_ret2
  exact Nt_ H1.out rfl
 ·obtain⟨h1,h2⟩:=Rn_ ha hb hf
  have H1:=hh_ h1;clear h1 hf ha hb
  go_enter func28,ntmps28
  go_wp2
  go_ret2
  exact Nt_ H1.out.symm rfl
theorem g8_ (a b:Int):decide (18446744073709551615-b<a)=!fitA a b:=by
 unfold fitA;rw[Bool.eq_iff_iff];simp;omega
theorem cp_ (a b:Int) (w:World) (ha:W64 a) (hb:W64 b):Calls prog 31 #[.int .u64 a,.int .u64 b] w (D0_ (satA a b) (fitA a b) w):=by
 have hw:IntKind.u64.wrap (18446744073709551615-b)=18446744073709551615-b:=IntWalk.u64_in _ (by unfold W64 at *;omega);have hl:=g8_ a b;cases hf:fitA a b
 ·obtain⟨h1,h2⟩:=Ro_ ha hb hf
  have H1:=hh_ h1;rw[hf] at hl;clear h1 h2 hf ha hb
  go_enter func31,ntmps31
  go_wp2
  go_ret2
  exact Nt_ H1.out rfl
 ·obtain⟨h1,h2⟩:=Rn_ ha hb hf
  have h3:satA a b=a+b:=by unfold satA;unfold fitA at hf;rw[if_pos (of_decide_eq_true hf)]
  have hw2:IntKind.u64.wrap (a+b)=a+b:=by rw[←h3];have:=Cr_ ha hb;exact IntWalk.u64_in _ (by unfold W64 at this;omega)
  have H3:=hh_ h3;rw[hf] at hl;clear h1 h2 h3 hf ha hb
  go_enter func31,ntmps31
  go_wp2
  go_ret2
  exact Nt_ H3.out rfl
theorem Ft_ (a b:Int) (w:World) (ha:W64 a) (hb:W64 b):Calls prog 68 #[.int .u64 a,.int .u64 b] w (fun e w'=>e=.returned (.int .u64 (satA a b))∧w=w'):=by
 go_enter func68,ntmps68
 go_wp2_with (go_at_call 31;refine(cp_ a b _ ha hb).mono ?_;rintro e w' ⟨rfl,rfl⟩)
 go_ret
 exact⟨rfl,rfl⟩
end
section
open Go.RowKit Go.Sort
structure Ln where
 (key:ByteArray) (lo hi:Int)
def lnF (x:Ln):List Value:=[.string x.key,.int .u64 x.lo,.int .u64 x.hi]
theorem Ay_ (x:Ln) :(lnF x).length=3:=rfl
theorem Ki_:OneF lnF:=by intro x u hu;simp[lnF] at hu;rcases hu with rfl|rfl|rfl <;> rfl
theorem J0_:Elt 23 46 (.agg #[.string ⟨#[]⟩,.int .u64 0,.int .u64 0]) 3 32:=⟨underlying23,by kernel_rfl,rfl,by decide⟩
abbrev lnV (x:Ln):Value:=.agg #[.string x.key,.int .u64 x.lo,.int .u64 x.hi]
def befB (x y:Ln):Bool:=decide (y.hi<x.hi)||(decide (x.hi=y.hi)&&decide (x.key.data.toList<y.key.data.toList))
theorem cb_ (a b:ByteArray):Op.bytesLess a.toList b.toList=decide (a.data.toList<b.data.toList):=by
 rw[ByteArray.toList_eq,ByteArray.toList_eq,bytesLess_eq]
theorem Y4_ (x y:Ln) (w:World):Calls prog 102 #[lnV x,lnV y] w (Cm_ (befB x y) w):=by
 have hb:=cb_ x.key y.key;obtain⟨b,hd⟩:∃b,decide (x.key.data.toList<y.key.data.toList)=b:=⟨_,rfl⟩;rw[hd] at hb
 by_cases h1:y.hi<x.hi
 ·have HB:=hh_ (show befB x y=true by simp[befB,h1])
  clear hd;generalize befB x y=q at *
  go_enter func102,ntmps102
  go_wp2
  go_ret
  exact Be_ HB.out (Ad_ (Ad_ (Ab_ _ _) _) _)
 ·have h1':decide (y.hi<x.hi)=false:=by simpa using h1
  by_cases h2:x.hi=y.hi
  ·have h2' :((x.hi:Int)==y.hi)=true:=by simp[h2]
   have HB:=hh_ (show befB x y=b by unfold befB;rw[h1',hd,dt_ h2];rfl);clear hd h2;generalize befB x y=q at *
   go_enter func102,ntmps102
   go_wp2
   go_ret
   exact Be_ HB.out (Ad_ (Ad_ (Ab_ _ _) _) _)
  ·have h2' :((x.hi:Int)==y.hi)=false:=by simp[h2]
   have HB:=hh_ (show befB x y=false by simp[befB,h1',h2]);clear hd h2;generalize befB x y=q at *
   go_enter func102,ntmps102
   go_wp2
   go_ret
   exact Be_ HB.out (Ad_ (Ad_ (Ab_ _ _) _) _)
end
section
namespace Tail
variable {n:Nat} {P:Program} {ops:Array Oper} {C:World→Prop} {Q:Exit→Act→World→Prop}
def waitsB (ops:Array Oper):Nat→Nat→Nat→Bool
 | 0,_,_=>false
 | f+1,j,i=>match ops[j]? with
  | none=>false
  | some o=>o.after.any fun e=>Region.binds .any e&&(e.on==i||waitsB ops f e.on i)
def okB (ops:Array Oper) (n:Nat):Bool:=
 (List.range ops.size).all fun j=>match ops[j]? with
  | none=>true
  | some o=>(o.after.all fun e=>!Region.binds .any e||decide (e.on<j)) &&
    (decide (j<n)||(List.range j).all fun i=>waitsB ops 4 j i)
theorem back (h:okB ops n=true) {j:Nat} (hj:ops[j]?=some o):∀e∈o.after,Region.binds .any e=true→e.on<j:=by
 intro e he hb;have h1:=List.all_eq_true.1 h j (List.mem_range.2 (Array.getElem?_eq_some_iff.1 hj).1);simp only[hj,Bool.and_eq_true] at h1;have h2:=Array.all_eq_true_iff_forall_mem.1 h1.1 e he
 simpa [hb] using h2
def Closed (ops:Array Oper) (listed:Array Bool):Prop:=∀(j:Nat) (o:Oper),ops[j]?=some o→listed.getD j true=true→∀e∈o.after,Region.binds .any e=true→listed.getD e.on false=true
theorem reach {listed:Array Bool} (hc:Closed ops listed):∀(f j i:Nat) (o:Oper),ops[j]?=some o→(∀e∈o.after,Region.binds .any e=true→listed.getD e.on false=true)→waitsB ops f j i=true→listed.getD i false=true
 | 0,_,_,_,_,_,h=>by simp[waitsB] at h
 | f+1,j,i,o,hj,hd,h=>by
  simp only[waitsB,hj] at h;obtain⟨e,he,h4⟩:=Array.any_eq_true'.1 h;simp only[Bool.and_eq_true,Bool.or_eq_true,beq_iff_eq] at h4;have h5:=hd e he h4.1
  rcases h4.2 with h6|h6
  ·rw[←h6];exact h5
  ·cases ho:ops[e.on]? with
   | none=>cases f <;> simp[waitsB,ho] at h6
   | some o'=>
    refine reach hc f e.on i o' ho (hc e.on o' ho ?_) h6
    have:e.on<listed.size:=by
     rcases Nat.lt_or_ge e.on listed.size with h'|h'
     ·exact h'
     ·simp[Array.getElem?_eq_none h'] at h5
    simp[this] at h5 ⊢;exact h5
theorem waits (h:okB ops n=true) {listed:Array Bool} (hc:Closed ops listed) {j:Nat} (hj:ops[j]?=some o) (hn:n≤j) {i:Nat} (hi:i<j)
  (hd:∀e∈o.after,Region.binds .any e=true→listed.getD e.on false=true):listed.getD i false=true:=by
 have h1:=List.all_eq_true.1 h j (List.mem_range.2 (Array.getElem?_eq_some_iff.1 hj).1);simp only[hj,Bool.and_eq_true,Bool.or_eq_true,decide_eq_true_eq] at h1
 rcases h1.2 with h2|h2
 ·omega
 ·exact reach hc 4 j i o hj hd (List.all_eq_true.1 h2 i (List.mem_range.2 hi))
def Upto (listed:Array Bool) (N m:Nat):Prop:=listed.size=N∧∀i,i<N→listed.getD i true=decide (i<m)
theorem Upto.getF {listed:Array Bool} {N m:Nat} (h:Upto listed N m) {i:Nat} (hi:i<N):listed.getD i false=decide (i<m):=by
 rw[←h.2 i hi]
 have:i<listed.size:=by rw[h.1];exact hi
 simp[this]
theorem Upto.closed {listed:Array Bool} {m:Nat} (hok:okB ops n=true) (h:Upto listed ops.size m):Closed ops listed:=by
 intro j o hj hl e he hb;have h1:=back hok hj e he hb;have h2:=(Array.getElem?_eq_some_iff.1 hj).1;rw[h.2 j h2] at hl;simp only[decide_eq_true_eq] at hl;rw[h.getF (by omega)]
 simp;omega
theorem Upto.next {listed:Array Bool} {N m:Nat} (h:Upto listed N m) (_:m<N):Upto (listed.setIfInBounds m true) N (m+1):=by
 refine⟨by simp[h.1],fun i hi=>?_⟩
 by_cases e:m=i
 ·subst e
  have:m<listed.size:=by rw[h.1];exact hi
  simp[this]
 ·rw[getD_set_ne true e,h.2 i hi]
  simp;omega
theorem tail_any (hok:okB ops n=true):∀(k m:Nat) (listed:Array Bool) (a:Act) (w:World) (fuel:Nat),n≤m→m+k=ops.size→k≤fuel→Upto listed ops.size m →
  wpList P ops Q (ops.toList.drop m) a w→wpAny P .any ops Q fuel listed a w:=by
 intro k
 induction k with
 | zero=>
  intro m listed a w fuel hn hm hf hu h
  have hr:Region.ready .any ops listed=[]:=by
   rw[List.eq_nil_iff_forall_not_mem];intro i hi;rw[mem_ready] at hi;obtain⟨h0,o,ho,_⟩:=hi;have hi':=(Array.getElem?_eq_some_iff.1 ho).1;rw[hu.2 i hi'] at h0
   simp at h0;omega
  have hd:ops.toList.drop m=[]:=List.drop_eq_nil_of_le (by simp;omega);rw[hd] at h
  cases fuel with
  | zero=>exact⟨hr,h⟩
  | succ f=>exact⟨fun _=>h,by rw[hr];simp⟩
 | succ k ih=>
  intro m listed a w fuel hn hm hf hu h
  have hlt:m<ops.size:=by omega
  have ho:ops[m]?=some ops[m]:=Array.getElem?_eq_getElem hlt
  have hin:m∈Region.ready .any ops listed:=by
   rw[mem_ready];refine⟨by rw[hu.2 m hlt];simp,_,ho,fun e he hb=>?_⟩
   have:=back hok ho e he hb
   rw[hu.getF (by omega)];simpa using this
  have hall:∀i∈Region.ready .any ops listed,i=m:=by
   intro i hi;rw[mem_ready] at hi;obtain⟨h0,o,hoi,hdep⟩:=hi;have hi':=(Array.getElem?_eq_some_iff.1 hoi).1;rw[hu.2 i hi'] at h0
   simp at h0
   by_cases e:i=m
   ·exact e
   ·exfalso
    have:=waits hok (hu.closed hok) hoi (by omega) (show m<i by omega) hdep
    rw[hu.getF hlt] at this
    simp at this
  cases fuel with
  | zero=>omega
  | succ f=>
   refine⟨fun h0=>(by rw[h0] at hin;cases hin),fun i hi=>?_⟩;rw[hall i hi]
   have hd:ops.toList.drop m=ops[m]::ops.toList.drop (m+1):=by
    rw[List.drop_eq_getElem_cons (by simpa using hlt)];simp
   rw[hd] at h
   have h':wpOp P ops Q m (wpList P ops Q (ops.toList.drop (m+1))) a w:=by
    unfold wpOp;simp only[ho];exact h
   exact wpOp_mono (fun a' w' hk=>ih (m+1) _ a' w' f (by omega) (by omega) (by omega) (hu.next hlt) hk) h'
def Pair (n N:Nat) (lt lf:Array Bool):Prop:=lt.size=N∧lf.size=N∧∀i,i<N→(i<n→lt.getD i true=lf.getD i true)∧(n≤i→lt.getD i true=true∧lf.getD i true=false)
theorem getF_of {l:Array Bool} {N i:Nat} (h:l.size=N) (hi:i<N):l.getD i false=l.getD i true:=by
 have:i<l.size:=by rw[h];exact hi
 simp[this]
theorem Closed.next {lf:Array Bool} (hc:Closed ops lf) (_:okB ops n=true) {i:Nat} (hi:i∈Region.ready .any ops lf):Closed ops (lf.setIfInBounds i true):=by
 obtain⟨_,o,ho,hd⟩:=mem_ready.1 hi;intro j o' hj hl e he hb;refine getD_set_true ?_
 by_cases h:i=j
 ·subst h;rw[ho] at hj;cases hj;exact hd e he hb
 ·rw[getD_set_ne true h] at hl;exact hc j o' hj hl e he hb
theorem head_any (hn:n≤ops.size) (hok:okB ops n=true) {QQ:Act→Prop} (hQ:∀a w,C w→QQ a→wpList P ops Q (ops.toList.drop n) a w) :
  ∀(fuel:Nat) (lt lf:Array Bool) (a:Act) (w:World) (fuel':Nat),fuel+(ops.size-n)≤fuel'→Pair n ops.size lt lf→Closed ops lf→C w→wpAnyQ P .any ops C QQ fuel lt a→wpAny P .any ops Q fuel' lf a w:=by
 intro fuel
 -- if nothing is ready in the quiet walk, all of the head has come up
 have done:∀(lt lf:Array Bool),Pair n ops.size lt lf→Region.ready .any ops lt=[]→Upto lf ops.size n:=by
  intro lt lf hp hr;refine⟨hp.2.1,?_⟩
  have key:∀i,i<n→lf.getD i true=true:=by
   intro i
   induction i using Nat.strongRecOn with
   | _ i ih=>
    intro hi
    have hlt:i<ops.size:=by omega
    cases hv:lf.getD i true with
    | true=>rfl
    | false=>
     exfalso
     have hin:i∈Region.ready .any ops lt:=by
      rw[mem_ready];refine⟨by rw[(hp.2.2 i hlt).1 hi,hv],_,Array.getElem?_eq_getElem hlt,fun e he hb=>?_⟩;have hb':=back hok (Array.getElem?_eq_getElem hlt) e he hb;rw[getF_of hp.1 (show e.on<ops.size by omega),(hp.2.2 e.on (by omega)).1 (by omega)];exact ih e.on hb' (by omega)
     rw[hr] at hin;cases hin
  intro i hi
  by_cases h:i<n
  ·rw[key i h];simpa using h
  ·rw[((hp.2.2 i hi).2 (by omega)).2];simpa using h
 induction fuel with
 | zero=>
  intro lt lf a w fuel' hf hp hcl hC h;exact tail_any hok (ops.size-n) n lf a w fuel' (le_ _) (by omega) (by omega) (done lt lf hp h.1) (hQ a w hC h.2)
 | succ fuel ih=>
  intro lt lf a w fuel' hf hp hcl hC h
  by_cases hr:Region.ready .any ops lt=[]
  ·exact tail_any hok (ops.size-n) n lf a w fuel' (le_ _) (by omega) (by omega) (done lt lf hp hr) (hQ a w hC (h.1 hr))
  ·obtain⟨i0,hi0⟩:=List.exists_mem_of_ne_nil _ hr
   have h0:=mem_ready.1 hi0;obtain⟨hun,o0,ho0,hd0⟩:=h0
   have hi0n:i0<n:=by
    rcases Nat.lt_or_ge i0 n with h'|h'
    ·exact h'
    ·have:=((hp.2.2 i0 (Array.getElem?_eq_some_iff.1 ho0).1).2 h').1
     rw[this] at hun;cases hun
   have hi0s:=(Array.getElem?_eq_some_iff.1 ho0).1
   -- what is ready in the one is ready in the other
   have hsub:∀i∈Region.ready .any ops lf,i<n∧i∈Region.ready .any ops lt:=by
    intro i hi;obtain⟨hu,o,ho,hd⟩:=mem_ready.1 hi;have his:=(Array.getElem?_eq_some_iff.1 ho).1
    rcases Nat.lt_or_ge i n with h'|h'
    ·refine⟨h',mem_ready.2 ⟨by rw[(hp.2.2 i his).1 h'];exact hu,o,ho,fun e he hb=>?_⟩⟩
     have hb':=back hok ho e he hb;rw[getF_of hp.1 (by omega),(hp.2.2 e.on (by omega)).1 (by omega),←getF_of hp.2.1 (by omega)];exact hd e he hb
    ·exfalso
     have:=waits hok hcl ho h' (show i0<i by omega) hd
     rw[getF_of hp.2.1 hi0s,←(hp.2.2 i0 hi0s).1 hi0n,hun] at this;cases this
   have hrf:i0∈Region.ready .any ops lf:=by
    refine mem_ready.2 ⟨by rw[←(hp.2.2 i0 hi0s).1 hi0n];exact hun,o0,ho0,fun e he hb=>?_⟩;have hb':=back hok ho0 e he hb;rw[getF_of hp.2.1 (by omega),←(hp.2.2 e.on (by omega)).1 (by omega),←getF_of hp.1 (by omega)];exact hd0 e he hb
   cases fuel' with
   | zero=>omega
   | succ f=>
    refine⟨fun h0=>(by rw[h0] at hrf;cases hrf),fun i hi=>?_⟩;obtain⟨hin,hil⟩:=hsub i hi;refine wpOp_of_qOp (C:=C) hC (fun a' w' hC' hk=>ih _ _ a' w' f (by omega) ?_ (hcl.next hok hi) hC' hk) (h.2 i hil);refine⟨by simp[hp.1],by simp[hp.2.1],fun j hj=>?_⟩
    by_cases e:i=j
    ·subst e
     have q1:i<lt.size:=by rw[hp.1];exact hj
     have q2:i<lf.size:=by rw[hp.2.1];exact hj
     exact⟨fun _=>by simp[q1,q2],fun h=>by omega⟩
    ·rw[getD_set_ne true e,getD_set_ne true e];exact hp.2.2 j hj
theorem lexH (hs:Region.noSelect ops=true) {QQ:Act→Prop}:∀(l:List Oper) (k:Nat) (listed:Array Bool) (a:Act),(∀j,j<l.length→l[j]?=ops[k+j]?) →
  Region.lexFrom .any ops l.length k listed=true→wpQuiet P ops C QQ l a→wpAnyQ P .any ops C QQ l.length listed a
 | [],_,_,_,_,hB,h=>⟨by simpa [Region.lexFrom] using hB,h⟩
 | o::l,k,listed,a,hl,hB,h=>by
  have h0:ops[k]?=some o:=by simpa using (hl 0 (by simp)).symm
  simp only[lc_,Region.lexFrom,Bool.and_eq_true] at hB;obtain⟨⟨hr,hf⟩,hB'⟩:=hB;obtain⟨v,hy,hK⟩:=yieldsIn_of_qOp h0 (show qOp P ops C k (wpQuiet P ops C QQ l) a by unfold qOp;simp only[h0];exact h)
  exact wpAnyQ_first h0 (Region.noSelect_spec hs) l.length listed a (Region.free_spec h0 hf) (by simpa using hr) hy
   (lexH hs l (k+1) _ _ (fun j hj=>by have:=hl (j+1) (by simpa using hj);simpa [Nat.add_assoc,Nat.add_comm 1 j] using this) hB' hK)
def tailB (ops:Array Oper) (n:Nat):Bool:=
 decide (n≤ops.size)&&okB ops n&&Region.noSelect ops&&Region.lexFrom .any ops n 0 (Array.replicate n false++Array.replicate (ops.size-n) true)
theorem wp_region_tail {id:Nat} {l:List Oper} (n:Nat) (hm:P.follows .mixedOrders=true) (hB:tailB l.toArray n=true) (hC:C { w with drawn:=w.drawn+1 })
  (h:wpQuiet P l.toArray C (fun a'=>∀w',C w'→wpList P l.toArray Q (l.drop n) a' w') (l.take n) a) :(Code.region id l.toArray true).wp P Q a w:=by
 simp only[tailB,Bool.and_eq_true,decide_eq_true_eq] at hB;obtain⟨⟨⟨hn,hok⟩,hs⟩,hlex⟩:=hB
 have hn':n≤l.length:=by simpa using hn
 have hl :(l.take n).length=n:=by simp;omega
 refine wp_region_any hm ?_
 refine head_any (C:=C) (QQ:=fun a'=>∀w',C w'→wpList P l.toArray Q (l.drop n) a' w') hn hok (fun a w hC h=>by simpa using h w hC) n
  (Array.replicate n false++Array.replicate (l.toArray.size-n) true) (Array.replicate l.toArray.size false) a _ l.toArray.size (by omega) ?_ ?_ hC ?_
 ·refine⟨by simp;omega,by simp,fun i hi=>⟨fun h=>?_,fun h=>?_⟩⟩
  ·have hi':i<l.length:=by simpa using hi
   simp[Array.getElem?_append,h,hi']
  ·have hi':i<l.length:=by simpa using hi
   have h1:¬i<n:=by omega
   have h2:i-n<l.length-n:=by omega
   simp[Array.getElem?_append,h1,h2,hi']
 ·intro j o hj hl
  have hj':=(Array.getElem?_eq_some_iff.1 hj).1
  have hj2:j<l.length:=by simpa using hj'
  have hf :(Array.replicate l.toArray.size false).getD j true=false:=by simp[hj2]
  rw[hf] at hl;cases hl
 ·have:=lexH (P:=P) (C:=C) hs (QQ:=fun a'=>∀w',C w'→wpList P l.toArray Q (l.drop n) a' w') (l.take n) 0 (Array.replicate n false++Array.replicate (l.toArray.size-n) true) a
   (fun j hj=>by rw[hl] at hj;simp[hj]) (by rw[hl];exact hlex) h
  rw[hl] at this;exact this
theorem Closed.next' {lf:Array Bool} (hc:Closed ops lf) {i:Nat} (hi:i∈Region.ready .any ops lf):Closed ops (lf.setIfInBounds i true):=by
 obtain⟨_,o,ho,hd⟩:=mem_ready.1 hi;intro j o' hj hl e he hb;refine getD_set_true ?_
 by_cases h:i=j
 ·subst h;rw[ho] at hj;cases hj;exact hd e he hb
 ·rw[getD_set_ne true h] at hl;exact hc j o' hj hl e he hb
def closedB (ops:Array Oper) (listed:Array Bool):Bool:=
 (List.range ops.size).all fun j=>match ops[j]? with
  | none=>true
  | some o=>!listed.getD j true||o.after.all fun e=>!Region.binds .any e||listed.getD e.on false
theorem closed_of {listed:Array Bool} (h:closedB ops listed=true):Closed ops listed:=by
 intro j o hj hl e he hb;have h1:=List.all_eq_true.1 h j (List.mem_range.2 (Array.getElem?_eq_some_iff.1 hj).1);simp only[hj,hl,Bool.not_true,Bool.false_or] at h1;have h2:=Array.all_eq_true_iff_forall_mem.1 h1 e he
 simpa [hb] using h2
theorem take_put {md:Region.Mode} (i d:Nat) (v:Value) {oi:Oper} {fuel:Nat} {listed:Array Bool} (hi:ops[i]?=some oi) (hd:oi.dst=some d)
  (hs:Region.noSelect ops=true) (hf:Region.free md ops listed i=true) (hr :(Region.ready md ops listed).contains i=true)
  (hQ:∀c a w,Q (.panic c) (a.put oi.dst v) w→Q (.panic c) a w) (hy:Yields P ops oi v a)
  (h:wpAny P md ops Q fuel (listed.setIfInBounds i true) ⟨a.tmps.setIfInBounds d v,a.defers⟩ w):wpAny P md ops Q (fuel+1) listed a w:=
 wpAny_take hi hs hf hr hQ hy (by unfold Act.put;rw[hd];exact h)
open Go.RowKit Go.Sort
theorem wp_region_tail_grown {id:Nat} {l:List Oper} (n:Nat) (hm:P.follows .mixedOrders=true) (hB:tailB l.toArray n=true)
  (h:wpQuiet P l.toArray (fun w'=>∃p:Regrown,w'=grow (redrawn w p.d) p.os) (fun a'=>∀w',(∃p:Regrown,w'=grow (redrawn w p.d) p.os)→wpList P l.toArray Q (l.drop n) a' w') (l.take n) a) :(Code.region id l.toArray true).wp P Q a w:=
 wp_region_tail (C:=fun w'=>∃p:Regrown,w'=grow (redrawn w p.d) p.os) n hm hB ⟨⟨w.drawn+1,#[]⟩,by rw[grow_empty];rfl⟩ h
theorem wp_region_tail_drawn {id:Nat} {l:List Oper} (n:Nat) (hm:P.follows .mixedOrders=true) (hB:tailB l.toArray n=true)
  (h:wpQuiet P l.toArray (fun w'=>∃k,w'=w.drewN k) (fun a'=>∀w',(∃k,w'=w.drewN k)→wpList P l.toArray Q (l.drop n) a' w') (l.take n) a) :(Code.region id l.toArray true).wp P Q a w:=
 wp_region_tail (C:=fun w'=>∃k,w'=w.drewN k) n hm hB ⟨1,rfl⟩ h
end Tail
theorem Iy_ {a b:World} (h:a.grownBy b none):Go.RowKit.Below a.heap.size a b:=⟨h.os,h.tape,h.output,h.size,fun i hi=>h.block i hi (by simp)⟩
open Go.Sort in
theorem A3_ (w:World) (d:Nat) (os:Array Obj):w.grownBy (grow (redrawn w d) os) none:=by
 have h:=below_regrown w d os;exact⟨h.os,h.tape,h.output,h.size,fun k hk _=>h.block k hk⟩
open Go.Sort in
theorem Bn_ {P:Program} {f:FuncId} {args:Array Value} {v:Value}
  (h:∀w',w.grownBy w' none→Calls P f args w' fun e w''=>e=.returned v∧w'.grownBy w'' none) (d:Nat) (os:Array Obj) :
  Calls P f args (grow (redrawn w d) os) fun e w''=>e=.returned v∧∃p:Regrown,w''=grow (redrawn w p.d) p.os:=
 Calls.regrown_of ((h _ (A3_ w d os)).mono fun _ _ ⟨he,hg⟩=>⟨he,Iy_ hg⟩)
theorem tp_ {P:Program} {ops:Array Oper} {Q:Exit→Act→World→Prop} {md:Region.Mode} (i d:Nat) (v:Value) {oi:Oper} {fuel:Nat} {listed:Array Bool}
  (h:wpAny P md ops Q fuel (listed.setIfInBounds i true) ⟨a.tmps.setIfInBounds d v,a.defers⟩ w) (hi:ops[i]?=some oi:=by rfl) (hd:oi.dst=some d:=by rfl)
  (hs:Region.noSelect ops=true:=by kernel_rfl) (hf:Region.free md ops listed i=true:=by kernel_rfl) (hr :(Region.ready md ops listed).contains i=true:=by kernel_rfl)
  (hQ:∀c a w,Q (.panic c) (a.put oi.dst v) w→Q (.panic c) a w:=by exact fun _ _ _ h=>h) (hy:Yields P ops oi v a:=by exact Or.inl ⟨by rfl,fun w=>by go_simp⟩):wpAny P md ops Q (fuel+1) listed a w:=Tail.take_put i d v hi hd hs hf hr hQ hy h
end
section
open Go.RowKit
abbrev bndV (lo hi:Int):Value:=.agg #[.int .u64 lo,.int .u64 hi]
abbrev entV (k:ByteArray) (own slack:Int):Value:=.agg #[.string k,.int .u64 own,.int .u64 slack]
theorem ij_ (k:ByteArray) (own slack:Int) (w:World) (h1:W64 own) (h2:W64 slack):Calls prog 187 #[entV k own slack] w (Cq_ (bndV own (satA own slack)) w):=by
 go_enter func187,ntmps187
 go_wp2_with fail
 (refine Tail.wp_region_tail_drawn 8 (by kernel_rfl) (by kernel_rfl) ?_;simp only[List.take,List.drop];(repeat(go_big_quiet_step ((go_at_call 68;exact Calls.quiet_of_same ((Ft_ own slack _ h1 h2).mono fun _ _ ⟨he,hw⟩=>⟨he,hw.symm⟩)))));refine wn_ ?_;rintro _ ⟨nq,rfl⟩)
 go_wp2_with fail
 refine bodyPost_ret (v:=bndV own (satA own slack)) (by simp[results,results187,go_sem]) rfl ?_;exact Bx_ rfl gw_
theorem ch_ (lo hi m:Int) (w:World):Calls prog 186 #[bndV lo hi,.int .u64 m] w (Cq_ (bndV (min lo m) (min hi m)) w):=by
 go_enter func186,ntmps186
 go_wp2
 refine bodyPost_ret (v:=bndV (min lo m) (min hi m)) (by simp[results,results186,go_sem]) rfl ?_;exact Bx_ rfl gw_
theorem gg_ (lo hi lo' hi':Int) (w:World) (h1:W64 lo) (h2:W64 hi) (h3:W64 lo') (h4:W64 hi'):Calls prog 168 #[bndV lo hi,bndV lo' hi'] w (Cq_ (bndV (satA lo lo') (satA hi hi')) w):=by
 go_enter func168,ntmps168
 go_wp2_with fail
 have r4:=fun w=>Ft_ lo lo' w h1 h3
 have r5:=fun w=>Ft_ hi hi' w h2 h4
 (refine Tail.wp_region_tail_drawn 11 (by kernel_rfl) (by kernel_rfl) ?_;simp only[List.take,List.drop];(repeat(go_big_quiet_step (first |(with_reducible exact Calls.quiet_of_same ((r4 _).mono fun _ _ ⟨he,hw⟩=>⟨he,hw.symm⟩)) |(with_reducible exact Calls.quiet_of_same ((r5 _).mono fun _ _ ⟨he,hw⟩=>⟨he,hw.symm⟩)))));refine wn_ ?_;rintro _ ⟨nq,rfl⟩)
 clear r4 r5
 go_wp2_with fail
 refine bodyPost_ret (v:=bndV (satA lo lo') (satA hi hi')) (by simp[results,results168,go_sem]) rfl ?_;exact Bx_ rfl gw_
def Hr_ (own slack m:Int):Bool:=decide (own+slack≤m)
theorem Rk_ (own slack m:Int) (w:World) (h1:W64 own) (h2:W64 slack) (h3:W64 m):Calls prog 185 #[.int .u64 own,.int .u64 slack,.int .u64 m] w (Cm_ (Hr_ own slack m) w):=by
 by_cases hle:own≤m
 ·have d1:decide (own≤m)=true:=dt_ hle
  have hw:IntKind.u64.wrap (m-own)=m-own:=IntWalk.u64_in _ (by unfold W64 at *;omega)
  have hx:Hr_ own slack m=decide (slack≤m-own):=by unfold Hr_;rw[Bool.eq_iff_iff];simp;omega
  have Hx:=hh_ hx;clear hx hle h1 h2 h3
  go_enter func185,ntmps185
  go_wp2
  go_ret
  exact Be_ Hx.out (Ab_ _ _)
 ·have d1:decide (own≤m)=false:=df_ hle
  have hx:Hr_ own slack m=false:=by unfold Hr_;unfold W64 at *;simp;omega
  have Hx:=hh_ hx;clear hx hle h1 h2 h3
  go_enter func185,ntmps185
  go_wp2
  go_ret
  exact Be_ Hx.out (Ab_ _ _)
abbrev hq_ (k:ByteArray) (lo hi:Int):Value:=.agg #[.string k,.int .u64 lo,.int .u64 hi]
structure Ent where
 (key:ByteArray) (own slack:Int)
def entF (e:Ent):List Value:=[.string e.key,.int .u64 e.own,.int .u64 e.slack]
theorem Az_ (e:Ent) :(entF e).length=3:=rfl
def valF (v:Value):List Value:=[v]
theorem O7_ (v:Value):valF v=[v]:=rfl
structure Summ where
 (total:Int) (ve:Value) (untr:Int) (vr:Value) (es:List Ent) (vs:List Value) (rows:List (List Int))
def sumF (s:Summ):List Value:=[.int .u64 s.total,s.ve,.int .u64 s.untr,s.vr]
theorem Qs_ (s:Summ) :(sumF s).length=4:=rfl
abbrev sumV (total:Int) (ve:Value) (untr:Int) (vr:Value):Value:=.agg #[.int .u64 total,ve,.int .u64 untr,vr]
structure SumRd (w:World) (s:Summ):Prop where
 es:RdL entF 3 w s.ve s.es
 vs:RdL valF 1 w s.vr s.vs
 len:s.vs.length=s.rows.length
 rows:∀(i:Nat) v row,s.vs[i]?=some v→s.rows[i]?=some row→RdL wordF 1 w v row
theorem SumRd.same {s:Summ} (h:SumRd w s) (hg:w.grownBy w' none):SumRd w' s:=
 ⟨h.es.same hg,h.vs.same hg,h.len,fun i v row hv hr=>(h.rows i v row hv hr).same hg⟩
structure SumW (s:Summ):Prop where
 total:W64 s.total
 untr:W64 s.untr
 es:∀e∈s.es,W64 e.own∧W64 e.slack
 rows:∀row∈s.rows,∀x∈row,W64 x
structure C4_ (w:World) (v:Value) (l:List Summ):Prop where
 rd:RdL sumF 4 w v l
 all:∀s∈l,SumRd w s
 wf:∀s∈l,SumW s
theorem C4_.same {v:Value} {l:List Summ} (h:C4_ w v l) (hg:w.grownBy w' none):C4_ w' v l:=
 ⟨h.rd.same hg,fun s hs=>(h.all s hs).same hg,h.wf⟩
theorem C4_.at_ {v:Value} {l:List Summ} (h:C4_ w v l) {k:Nat} (hk:k<l.length) :
  ∃g off cap,v=.slice (some ⟨g,off,none⟩) l.length cap∧g<w.heap.size∧w.cell? ⟨g,off+k*4,none⟩=some (.int .u64 l[k].total)∧w.cell? ⟨g,off+k*4+1,none⟩=some l[k].ve ∧
   w.cell? ⟨g,off+k*4+2,none⟩=some (.int .u64 l[k].untr)∧w.cell? ⟨g,off+k*4+3,none⟩=some l[k].vr∧SumRd w l[k]∧SumW l[k]:=by
 obtain⟨g,off,cap,hv,hg,hc⟩:=h.rd.at_ Qs_ hk;exact⟨g,off,cap,hv,hg,hc 0 _ rfl,hc 1 _ rfl,hc 2 _ rfl,hc 3 _ rfl,h.all _ (mg_ hk),h.wf _ (mg_ hk)⟩
theorem B2_ {α:Type} {l:List α} {k:Nat} (h:k<l.length):l.take (k+1)=l.take k++[l[k]]:=tg_ h
def totalF (l:List Summ):Int:=l.foldl (fun n s=>satA n s.total) 0
theorem I4_ (l:List Summ) (s:Summ):totalF (l++[s])=satA (totalF l) s.total:=by simp[totalF]
theorem D3_:W64 0:=⟨by omega,by omega⟩
theorem Qe_ (v:Value) (l:List Summ) (w:World) (h:C4_ w v l):Calls prog 97 #[v] w (RetWord (totalF l) w):=by
 obtain⟨a,c,rfl⟩:=h.rd.shape;have hm:=h.rd.2.1;have H:=hh_ h;clear h
 go_enter func97,ntmps97
 go_wp2_with fail
 go_loopw [3,8] (fun s3 s8 wr=>∃k:Nat,k≤l.length∧s8=.int .i64 k∧s3=.int .u64 (totalF (l.take k))∧W64 (totalF (l.take k))∧w.grownBy wr none) (fun _ s8 _=>l.length-(RowKit.intOf s8).toNat)
 case atStart=>exact⟨0,zl_ _,rfl,rfl,D3_,Ab_ _ _⟩
 case round=>
  obtain⟨k,hk,rfl,rfl,hT,hg⟩:=hrel
  by_cases hlt:k<l.length
  ·obtain⟨g,off,cap,hv,hgl,c0,c1,c2,c3,hR,hW⟩:=(H.out.same hg).at_ hlt
   cases hv;have HS:=hh_ (B2_ hlt);have Hs:=hh_ (I4_ (l.take k) l[k]);have hW1:=hW.total;have hW2:=Cr_ hT hW1;obtain⟨a1,k1,e1⟩:=hR.es.shape;obtain⟨a2,k2,e2⟩:=hR.vs.shape;rw[e1] at c1;rw[e2] at c3;clear hR hW e1 e2;generalize totalF (l.take k)=T at *;generalize l[k].total=t at *;generalize l[k].untr=u at *
   go_wp2_with (go_at_call 68;refine(Ft_ T t _ hT hW1).mono ?_;rintro e w' ⟨rfl,rfl⟩)
   exact⟨⟨k+1,by omega,by go_num,by rw[HS.out,Hs.out],by rw[HS.out,Hs.out];exact hW2,Ad_ hg _⟩,by simp[RowKit.intOf];omega⟩
  ·have hl:l.take k=l:=tk_ (by omega)
   rw[hl];clear hl
   go_wp2_with fail
   go_ret
   exact Cl_ rfl hg
end
section
open Go.RowKit
structure Cfg where
 (Length Lateness Windows Shards Spread Queue Mode Slots Exact Promote Depth Width Top Key:Int)
 (Classes Table:Value)
 (Seed:Int)
abbrev Cfg.val (c:Cfg):Value:=.agg #[.int .i64 c.Length,.int .i64 c.Lateness,.int .i64 c.Windows,.int .i64 c.Shards,.int .i64 c.Spread,.int .i64 c.Queue,.int .i64 c.Mode,.int .i64 c.Slots,.int .i64 c.Exact,.int .u64 c.Promote,.int .i64 c.Depth,.int .i64 c.Width,.int .i64 c.Top,.int .i64 c.Key,c.Classes,c.Table,.int .u64 c.Seed]
abbrev Cfg.arr (c:Cfg):Array Value:=#[.int .i64 c.Length,.int .i64 c.Lateness,.int .i64 c.Windows,.int .i64 c.Shards,.int .i64 c.Spread,.int .i64 c.Queue,.int .i64 c.Mode,.int .i64 c.Slots,.int .i64 c.Exact,.int .u64 c.Promote,.int .i64 c.Depth,.int .i64 c.Width,.int .i64 c.Top,.int .i64 c.Key,c.Classes,c.Table,.int .u64 c.Seed]
theorem Dt_ :(prog.info? 31).map (·.size)=some 17:=by kernel_rfl
structure BoxAt (w:World) (b:Nat) (c:Cfg):Prop where
 block:∃t f,w.heap[b]?=some (.cells c.arr t f)∧f =(0,0)
theorem BoxAt.lt {b:Nat} {c:Cfg} (h:BoxAt w b c):b<w.heap.size:=by
 obtain⟨_,_,h,_⟩:=h.block;exact(Array.getElem?_eq_some_iff.1 h).1
theorem BoxAt.cell {b:Nat} {c:Cfg} (h:BoxAt w b c) (i:Nat):w.cell? ⟨b,i,none⟩=c.arr[i]?:=by
 obtain⟨t,f,h,_⟩:=h.block;simp[World.cell?,h]
theorem BoxAt.kept {b:Nat} {c:Cfg} {r:Option Nat} (h:BoxAt w b c) (hg:w.grownBy w' r) (hr:r≠some b):BoxAt w' b c:=by
 obtain⟨t,f,hb,hf⟩:=h.block;exact⟨t,f,(hg.block b h.lt (fun e=>hr e.symm)).trans hb,hf⟩
theorem BoxAt.same {b:Nat} {c:Cfg} (h:BoxAt w b c) (hg:w.grownBy w' none):BoxAt w' b c:=h.kept hg (by simp)
theorem An_ {rest:List Oper} (hgd:o.guard=none) (x:Operand) (ho:o.op=.load 31 x)
  (b:Nat) (hx:a.eval x=.pointer (some ⟨b,0,none⟩)) (c:Cfg) (hb:BoxAt w b c) (h:wpList prog ops Q rest (a.put o.dst c.val) w):wpList prog ops Q (o::rest) a w:=by
 obtain⟨t,f,hbl,_⟩:=hb.block;exact wpList_load_row hgd _ x ho b hx t _ f _ hbl underlying31 rfl Dt_ h
theorem Bd_ {rest:List Oper} (hw:Region.wanted o (yielded ops a.tmps)=true) (x:Operand) (ho:o.op=.load 31 x)
  (b:Nat) (hx:a.eval x=.pointer (some ⟨b,0,none⟩)) (c:Cfg) (hb:BoxAt w b c) (h:wpList prog ops Q rest (a.put o.dst c.val) w):wpList prog ops Q (o::rest) a w:=by
 obtain⟨t,f,hbl,_⟩:=hb.block
 exact BigFrame.wpList_want hw fun K hK=>wp_load_row _ x ho b hx t _ f _ hbl underlying31 rfl Dt_ (hK _ _ h)
def readCfg (w:World) (b:Nat):Value:=match w.heap[b]? with|some (.cells cs _ _)=>.agg cs | _=>undef
def isCfg (w:World) (b:Nat):Bool:=match w.heap[b]? with|some (.cells cs _ _)=>cs.size==17 | _=>false
def Lr_ (v:Value):Sem Next:=do pure (.value (←Instr.loadAt 31 v))
theorem Ag_ (ρ:Operand→Value) (dst:Option Tmp) (x:Operand) (ty:TypeId) (pos:String) (after:Array Edge) (guard:Option (Nat×Bool)) :
  execOp ρ ⟨dst,.load 31 x,ty,pos,after,guard⟩=Lr_ (ρ x):=rfl
theorem Ah_ (w:World) (b:Nat) (h:isCfg w b=true) :(Lr_ (.pointer (some ⟨b,0,none⟩))).run prog w=.ok (.value (readCfg w b)) w:=by
 unfold isCfg at h
 cases hb:w.heap[b]? with
 | none=>rw[hb] at h;cases h
 | some o=>
  cases o with
  | cells cs t f=>
   rw[hb] at h
   have hs:cs.size=17:=by simpa using h
   have:=run_loadVar_row (P:=prog) w b t 31 cs f _ hb underlying31 rfl (by rw[Dt_,hs])
   simp only[Lr_,Instr.loadAt,Instr.sureAddr,Sem.run_bind,Sem.run_pure,Result.andThen_ok,this,readCfg,hb]
  | _=>rw[hb] at h;cases h
theorem BoxAt.is {b:Nat} {c:Cfg} (h:BoxAt w b c):isCfg w b=true:=by
 obtain⟨t,f,h,_⟩:=h.block;simp[isCfg,h]
theorem BoxAt.reads {b:Nat} {c:Cfg} (h:BoxAt w b c):readCfg w b=c.val:=by
 obtain⟨t,f,h,_⟩:=h.block;simp[readCfg,h]
open Go.Sort in
theorem BoxAt.re {b:Nat} {c:Cfg} (h:BoxAt w b c) :(∀d os,isCfg (grow (redrawn w d) os) b=true)∧(∀d os,readCfg (grow (redrawn w d) os) b=c.val)∧(∀d os i,(grow (redrawn w d) os).cell? ⟨b,i,none⟩=c.arr[i]?):=
 ⟨fun d os=>(h.same (A3_ w d os)).is,fun d os=>(h.same (A3_ w d os)).reads,fun d os=>(h.same (A3_ w d os)).cell⟩
theorem Px_ (c:Cfg) (w:World) :(Instr.box 31 c.val).run prog w=.ok (.pointer (some ⟨w.heap.size,0,none⟩)) (w.alloc (.cells c.arr 31)):=by kernel_rfl
theorem At_ {rest:List Oper} (hgd:o.guard=none) (x:Operand) (ho:o.op=.box 31 x)
  (c:Cfg) (hx:a.eval x=c.val) (h:∀w',BoxAt w' w.heap.size c→w.grownBy w' none→w.heap.size<w'.heap.size→wpList prog ops Q rest (a.put o.dst (.pointer (some ⟨w.heap.size,0,none⟩))) w'):wpList prog ops Q (o::rest) a w:=
 wpList_plain hgd fun _ hK=>by
  unfold Oper.wp execOp;simp only[ho,hx,Px_,Sem.run_bind,Sem.run_pure,Result.andThen_ok];exact hK _ _ (h _ ⟨_,_,heap_alloc_new w _,rfl⟩ (ga_ w _ _) (by simp))
theorem BoxAt.free {b:Nat} {c:Cfg} (h:BoxAt w b c) (i:Nat):w.frozen? ⟨b,i,none⟩=false:=by
 obtain⟨t,f,h,rfl⟩:=h.block;exact frozen_of_row w b i _ t h
theorem BoxAt.setF {b:Nat} {c c':Cfg} (h:BoxAt w b c) (o:Nat) (v:Value) (hc:c.arr.setIfInBounds o v=c'.arr):BoxAt (w.setCell ⟨b,o,none⟩ v) b c':=by
 obtain⟨t,f,h,rfl⟩:=h.block;exact⟨t,_,by rw[Eq_ v h,hc],rfl⟩
def Cfg.zero:Cfg:=⟨0,0,0,0,0,0,0,0,0,0,0,0,0,0,.slice none 0 0,.slice none 0 0,0⟩
theorem Ln_ (w:World) :(Instr.alloc 31 true (.tuple #[])).run prog w=.ok (.pointer (some ⟨w.heap.size,0,none⟩)) (w.alloc (.cells Cfg.zero.arr 31)):=by kernel_rfl
theorem Dp_ {rest:List Oper} (hgd:o.guard=none) (ho:o.op=.alloc 31)
  (h:∀w',BoxAt w' w.heap.size Cfg.zero→w.grownBy w' none→w.heap.size<w'.heap.size→wpList prog ops Q rest (a.put o.dst (.pointer (some ⟨w.heap.size,0,none⟩))) w'):wpList prog ops Q (o::rest) a w:=
 wpList_plain hgd fun _ hK=>by
  unfold Oper.wp execOp;simp only[ho,Ln_,Sem.run_bind,Sem.run_pure,Result.andThen_ok];exact hK _ _ (h _ ⟨_,_,heap_alloc_new w _,rfl⟩ (ga_ w _ _) (by simp))
theorem Dh_ {rest:List Oper} (hgd:o.guard=none) (x y:Operand) (ho:o.op=.store 31 x y)
  (b:Nat) (hx:a.eval x=.pointer (some ⟨b,0,none⟩)) (c:Cfg) (hy:a.eval y=c.val) (h1:c.Classes.oneCell'=true) (h2:c.Table.oneCell'=true) (c0:Cfg) (hb:BoxAt w b c0)
  (h:∀w',BoxAt w' b c→w.grownBy w' (some b)→wpList prog ops Q rest (a.put o.dst undef) w'):wpList prog ops Q (o::rest) a w:=by
 obtain⟨t,f,hbl,rfl⟩:=hb.block;have hst:=run_storeCells_at prog b 0 t c.arr.toList 0 c0.arr w hbl (by simp) (by intro v hv;simp at hv;rcases hv with rfl|rfl|rfl|rfl|rfl|rfl|rfl|rfl|rfl|rfl|rfl|rfl|rfl|rfl|rfl|rfl|rfl <;> first|rfl|assumption)
 have hz :(sizeOf 31).run prog w=.ok 17 w:=by
  have:=Dt_
  cases hq:prog.info? 31 with
  | none=>rw[hq] at this;simp at this
  | some i=>rw[hq] at this;simp[sizeOf,typeInfo,hq];simpa using this
 refine wpList_plain hgd fun _ hK=>?_
 unfold Oper.wp execOp;simp only[ho,hx,hy,Instr.storeAt,Instr.sureAddr,storeVar,Sem.run_bind,Sem.run_pure,Result.andThen_ok,hz];simp only[Value.cells,List.size_toArray,lc_,List.length_nil,Nat.reduceAdd,ne_eq,not_true_eq_false,if_false];rw[hst];refine hK _ _ (h _ ⟨t,(0,0),?_,rfl⟩ ⟨rfl,rfl,rfl,by simp,fun k _ hk=>setRow_other w b k _ (fun e=>hk (by simp[e]))⟩);rw[setRow_heap w b c0.arr _ t _ hbl]
 simp
structure CfgNums (c:Cfg):Prop where
 length:1≤c.Length∧c.Length≤1048576
 lateness:0≤c.Lateness∧c.Lateness≤1048576
 windows:1≤c.Windows∧c.Windows≤8
 shards:1≤c.Shards∧c.Shards≤8
 spread:1≤c.Spread∧c.Spread≤c.Shards
 queue:1≤c.Queue∧c.Queue≤64
 mode:c.Mode=1∨c.Mode=2
 slots:1≤c.Slots∧c.Slots≤64
 exact:0≤c.Exact∧c.Exact≤32
 promote:0≤c.Promote∧c.Promote<18446744073709551616
 depth:1≤c.Depth∧c.Depth≤4
 width:1≤c.Width∧c.Width≤256
 top:1≤c.Top∧c.Top≤64
 key:1≤c.Key∧c.Key≤255
 seed:0≤c.Seed∧c.Seed<18446744073709551616
structure CfgMem (c:Cfg) (l:List (Int×Int)) (t:List Int) (w:World):Prop where
 classes:RdL clsF 2 w c.Classes l
 table:RdL wordF 1 w c.Table t
 tlen:t.length=16
 twords:L5_ t
theorem CfgMem.same {c:Cfg} {l:List (Int×Int)} (h:CfgMem c l t w) (hg:w.grownBy w' none):CfgMem c l t w':=
 ⟨h.classes.same hg,h.table.same hg,h.tlen,h.twords⟩
structure G1_ (c:Cfg) (l:List (Int×Int)):Prop where
 ok:Ow_ l
 last:∀p,l[l.length-1]?=some p→32≤p.1∧8*c.Width≤p.1∧c.Key≤p.1
theorem au_ (c:Cfg) (w:World) (hn:CfgNums c) :
  Calls prog 109 #[c.val] w fun e w'=>e=.returned (.int .i64 0)∧w.grownBy w' none:=by
 obtain⟨h1,h2⟩:=hn.length;obtain⟨h3,h4⟩:=hn.lateness;obtain⟨h5,h6⟩:=hn.windows
 go_enter func109,ntmps109
 go_wp2
 go_ret
 exact⟨rfl,ga_ w _ _⟩
theorem aj_ (c:Cfg) (l:List (Int×Int)) (t:List Int) (w:World) (hn:CfgNums c) (hm:CfgMem c l t w) :
  Calls prog 110 #[c.val] w fun e w'=>e=.returned (.int .i64 0)∧w.grownBy w' none:=by
 obtain⟨h1,h2⟩:=hn.shards;obtain⟨h3,h4⟩:=hn.spread
 go_enter func110,ntmps110
 go_wp2_with (go_at_call 147;refine(e8_ _ t _ (hm.table.same (ga_ w _ _)) hm.tlen).mono ?_;rintro e w' ⟨rfl,rfl⟩)
 go_ret
 exact⟨rfl,ga_ w _ _⟩
end
section
open Go.RowKit
def Cu_ (l:List Int):Array Value:=(l.map (fun x=>Value.int .i64 x)).toArray
theorem bh_ :(prog.info? 3).map (fun i=>(i.zero,i.size,i.bytes))=some (some (.int .i64 0),1,8):=by kernel_rfl
theorem Ww_ (n:Nat):madeCells #[Value.int .i64 0] n=Cu_ (List.replicate n 0):=by
 unfold madeCells Cu_
 apply Array.ext
 ·simp
 ·intro i h1 h2
  simp[Nat.mod_one]
theorem Ui_ (n:Nat) (hn:n≤1000000) (w:World) :
  (Instr.makeSlice 27 (.int .i64 n) (.int .i64 n)).run prog w=.ok (.slice (some ⟨w.heap.size,0,none⟩) n n) (w.alloc (.cells (Cu_ (List.replicate n 0)) 3)):=by
 obtain⟨i0,hi,hz0,hz1,hz2⟩:=info_parts bh_
 have:=run_make (P:=prog) w 27 3 i0 (.int .i64 0) underlying27 hi hz0 .i64 .i64 n n (by omega) (by omega) (by rw[hz2];omega) (by omega)
 rw[this,hz1];simp only[Int.toNat_natCast,Nat.mul_one,Value.cells,Ww_]
def OutAt (w:World) (B:Nat) (out:List Int):Prop:=w.heap[B]?=some (.cells (Cu_ out) 3)
theorem OutAt.new (w:World) (n:Nat):OutAt (w.alloc (.cells (Cu_ (List.replicate n 0)) 3)) w.heap.size (List.replicate n 0):=heap_alloc_new w _
theorem OutAt.lt {B:Nat} {out:List Int} (h:OutAt w B out):B<w.heap.size:=(Array.getElem?_eq_some_iff.1 h).1
theorem OutAt.kept {B:Nat} {out:List Int} {r:Option Nat} (h:OutAt w B out) (hg:w.grownBy w' r) (hr:r≠some B):OutAt w' B out:=
 (hg.block B h.lt (fun e=>hr e.symm)).trans h
theorem OutAt.cell {B:Nat} {out:List Int} (h:OutAt w B out) {k:Nat} (hk:k<out.length):w.cell? ⟨B,k,none⟩=some (.int .i64 (out.getD k 0)):=by
 unfold OutAt at h
 simp[World.cell?,h,Cu_,gq_ hk,List.getD_eq_getElem?_getD]
theorem OutAt.free {B:Nat} {out:List Int} (h:OutAt w B out) (k:Nat):w.frozen? ⟨B,k,none⟩=false:=by
 unfold OutAt at h
 simp[World.frozen?,h]
theorem OutAt.set {B:Nat} {out:List Int} (h:OutAt w B out) (k:Nat) (x:Int):OutAt (w.setCell ⟨B,k,none⟩ (.int .i64 x)) B (out.set k x):=by
 unfold OutAt;rw[Eq_ _ h]
 simp[Cu_,List.map_set]
theorem OutAt.rd {B:Nat} {out:List Int} (h:OutAt w B out) (hl:out.length≤9223372036854775807):RdL intF 1 w (.slice (some ⟨B,0,none⟩) out.length out.length) out:=by
 refine⟨by rw[As_ _ 1 Bc_],hl,.inr ⟨B,0,out.length,rfl,h.lt,fun j u hu=>?_⟩⟩;have e:cellsOf intF out=out.map (fun x=>Value.int .i64 x):=Ur_ out;rw[e] at hu;unfold OutAt at h;simp only[World.cell?,h,Cu_,Nat.zero_add]
 simpa using hu
def a7_ (k:Int) (w:World) (e:Ending) (w':World):Prop:=e=.returned (.int .u64 k)∧w=w'
def rotF (h k:Int):Int:=bits BinOp.or IntKind.u64 (IntKind.u64.wrap (h*2 ^ k.toNat)) (h/2 ^ (64-k).toNat)
theorem Qc_ (op:BinOp) (a b:Int):W64 (bits op IntKind.u64 a b):=by
 have h:=bounds_u64 (wf_bits op IntKind.u64 a b);unfold W64;omega
theorem ct_ (h k:Int) (w:World) (_:W64 h) (h2:1≤k) (h3:k≤63):Calls prog 179 #[.int .u64 h,.int .u64 k] w (a7_ (rotF h k) w):=by
 go_enter func179,ntmps179
 go_wp2
 go_ret
 exact⟨rfl,rfl⟩
def slotF (h n:Int):Int:=h%n
theorem G9_ (h n:Int) (hn:1≤n):0≤slotF h n∧slotF h n<n:=⟨Int.emod_nonneg _ (by omega),Int.emod_lt_of_pos _ (by omega)⟩
def Pz_ (k:Int) (w:World) (e:Ending) (w':World):Prop:=e=.returned (.int .i64 k)∧w=w'
theorem gk_ (h n:Int) (h1:W64 h) (h2:1≤n) (h3:n≤4611686018427387904):wrap64 (h.tmod n)=slotF h n:=by
 have e:h.tmod n=h%n:=Int.tmod_eq_emod_of_nonneg h1.1
 have:=G9_ h n h2
 rw[e,wrap64];unfold slotF at this ⊢;omega
theorem Ol_ (h n:Int) (w:World) (h1:W64 h) (h2:1≤n) (h3:n≤4611686018427387904):Calls prog 151 #[.int .u64 h,.int .i64 n] w (Pz_ (slotF h n) w):=by
 have H:=hh_ (gk_ h n h1 h2 h3);have hd:decide (n<1)=false:=df_ (by omega)
 go_enter func151,ntmps151
 go_wp2
 go_ret
 exact⟨congrArg (fun i=>Ending.returned (Value.int IntKind.i64 i)) H.out,rfl⟩
theorem Hd_ (a:Option Addr) (c:Nat) (w:World):Calls prog 147 #[.slice a 16 c] w (Pz_ 0 w):=by
 go_enter func147,ntmps147
 go_wp2
 go_ret
 exact⟨rfl,rfl⟩
def stepF (t:List Int) (x:Int) (b:Nat):Int:=
 IntKind.u64.wrap (IntKind.u64.wrap (rotF (bits BinOp.xor IntKind.u64 (rotF x 5) (t.getD (b/16) 0)) 7+t.getD (b%16) 0)*11400714819323198485)
def G2_ (t:List Int) (s:Int) (l:List UInt8):Int:=l.foldl (fun x b=>stepF t x b.toNat) s
theorem P7_ (t:List Int) (s:Int) (l:List UInt8) (b:UInt8):G2_ t s (l++[b])=stepF t (G2_ t s l) b.toNat:=by simp[G2_]
theorem X7_ (k:ByteArray) (i:Nat) (h:i<k.size):k.data.toList.take (i+1)=k.data.toList.take i++[k[i]]:=by
 rw[tg_ (by simpa using h)];rfl
def hashF (t:List Int) (s:Int) (k:ByteArray):Int:=
 bits BinOp.xor IntKind.u64 (G2_ t s k.data.toList) (G2_ t s k.data.toList/4294967296)
theorem ar_ (t:List Int) (x:Int) (b:Nat):W64 (stepF t x b):=by
 unfold stepF
 have:=bounds_u64 (wf_wrap .u64 (IntKind.u64.wrap (rotF (bits BinOp.xor IntKind.u64 (rotF x 5) (t.getD (b/16) 0)) 7+t.getD (b%16) 0)*11400714819323198485))
 unfold W64;omega
theorem Ls_ (t:List Int) (s:Int) (k:ByteArray):W64 (hashF t s k):=Qc_ _ _ _
theorem Uf_ (v:Value) (t:List Int) (s:Int) (k:ByteArray) (w:World) (h:RdL wordF 1 w v t) (ht:t.length=16) (hs:W64 s) (hk:k.size≤9223372036854775807) :
  Calls prog 152 #[v,.int .u64 s,.string k] w (RetWord (hashF t s k) w):=by
 obtain⟨a,c,rfl⟩:=h.shape;have H:=hh_ h;have Hx:=hh_ (p:=hashF t s k=bits BinOp.xor IntKind.u64 (G2_ t s k.data.toList) (G2_ t s k.data.toList/4294967296)) rfl;rw[ht];clear h
 go_enter func152,ntmps152
 go_wp2_with (go_at_call 147;refine(Hd_ _ _ _).mono ?_;rintro e w' ⟨rfl,rfl⟩)
 go_loopw [7,8] (fun s7 s8 wr=>∃(i:Nat) (x:Int),i≤k.size∧s8=.int .i64 i∧s7=.int .u64 x∧x=G2_ t s (k.data.toList.take i)∧W64 x∧w.grownBy wr none) (fun _ s8 _=>k.size-(RowKit.intOf s8).toNat)
 case atStart=>exact⟨0,s,zl_ _,rfl,rfl,rfl,hs,Ab_ _ _⟩
 case round=>
  obtain⟨i,x,hi,rfl,rfl,hxe,hx,hg⟩:=hrel;have He:=hh_ hxe;clear hxe
  by_cases hlt:i<k.size
  ·have q0 :(0:Int)≤(i:Int):=by omega
   have q00 :(i:Int)<(k.size:Int):=by omega
   have HT:=hh_ (X7_ k i hlt);have HS:=hh_ (P7_ t s (k.data.toList.take i) k[i]);have hb:k[i].toNat<256:=k[i].toNat_lt;obtain⟨b,hbe⟩:∃b,k[i].toNat=b:=⟨_,rfl⟩;rw[hbe] at HS hb
   have hq:b/16<t.length:=by omega
   have hr:b%16<t.length:=by omega
   obtain⟨g,off,cap,hv,hgl,c1⟩:=(H.out.same hg).one Cs_ hq;cases hv;obtain⟨g',off',cap',hv',hgl',c2⟩:=(H.out.same hg).one Cs_ hr;cases hv'
   have e1:t.getD (b/16) 0=t[b/16]:=by simp[List.getD_eq_getElem?_getD,gq_ hq]
   have e2:t.getD (b%16) 0=t[b%16]:=by simp[List.getD_eq_getElem?_getD,gq_ hr]
   have Hst:=hh_ (p:=stepF t x b=IntKind.u64.wrap (IntKind.u64.wrap (rotF (bits BinOp.xor IntKind.u64 (rotF x 5) t[b/16]) 7+t[b%16])*11400714819323198485)) (by unfold stepF;rw[e1,e2]);have hws:=ar_ t x b;have hwb:=Qc_ BinOp.xor (rotF x 5) t[b/16]
   have q1 :(0:Int)≤(b:Int)/16:=by omega
   have q2 :(b:Int)/16<16:=by omega
   have q3 :((b:Int)/16).toNat=b/16:=by omega
   have q4 :(0:Int)≤(b:Int)%16:=by omega
   have q5 :(b:Int)%16<16:=by omega
   have q6 :((b:Int)%16).toNat=b%16:=by omega
   generalize t[b/16]=y1 at *;generalize t[b%16]=y2 at *;clear e1 e2 hq hr
   go_upto_region 7 with fail
   go_quiet ((go_at_call 179;exact Calls.quiet_of_same ((ct_ x 5 _ hx (by omega) (by omega)).mono fun _ _ ⟨he,hw⟩=>⟨he,hw.symm⟩)))
   generalize bits BinOp.xor IntKind.u64 (rotF x 5) y1=x1 at *;have c2q :(wr.drewN nq).cell? ⟨g,off+b%16,none⟩=some (.int .u64 y2):=c2;have hgq:=Ae_ hg nq;clear c1 c2 hgl hgl' hg;generalize wr.drewN nq=wq at *
   go_upto_region 8 with fail
   go_quiet ((go_at_call 179;exact Calls.quiet_of_same ((ct_ x1 7 _ hwb (by omega) (by omega)).mono fun _ _ ⟨he,hw⟩=>⟨he,hw.symm⟩)))
   clear q1 q2 q3 q4 q5 q6 hbe
   go_wp2_with fail
   exact⟨⟨i+1,_,by omega,by go_num,rfl,by rw[HT.out,HS.out,←He.out,Hst.out],by rw[←Hst.out];exact hws,Ae_ hgq _⟩,by simp[RowKit.intOf];omega⟩
  ·have hl:k.data.toList.take i=k.data.toList:=tk_ (by simp;omega)
   have h3:hashF t s k=bits BinOp.xor IntKind.u64 x (x/4294967296):=by rw[Hx.out,He.out,hl]
   have H3:=hh_ h3;clear h3 hl
   go_wp2_with fail
   go_ret
   exact Cl_ H3.out hg
def seedF (s r:Int):Int:=IntKind.u64.wrap (s+IntKind.u64.wrap ((r+1)*15111065706836454659))
theorem Zm_ (x:Int):W64 (IntKind.u64.wrap x):=by
 have:=bounds_u64 (wf_wrap .u64 x)
 unfold W64;omega
theorem ce_ (v:Value) (t:List Int) (s r:Int) (k:ByteArray) (w:World) (h:RdL wordF 1 w v t) (ht:t.length=16) (_:W64 s) (hr0:0≤r) (hr1:r≤1000) (hk:k.size≤9223372036854775807) :
  Calls prog 181 #[v,.int .u64 s,.int .i64 r,.string k] w (RetWord (hashF t (seedF s r) k) w):=by
 go_enter func181,ntmps181
 go_wp2_with (go_at_call 152;refine(Uf_ v t (seedF s r) k _ h ht (Zm_ _) hk).mono ?_;rintro e w' ⟨rfl,G⟩)
 go_ret
 exact Cl_ rfl G
structure RCfg (w:World) (c:Cfg) (t:List Int):Prop where
 shards:1≤c.Shards∧c.Shards≤8
 spread:1≤c.Spread∧c.Spread≤c.Shards
 table:RdL wordF 1 w c.Table t
 tlen:t.length=16
 seed:W64 c.Seed
theorem RCfg.same {c:Cfg} (h:RCfg w c t) (hg:w.grownBy w' none):RCfg w' c t:=⟨h.shards,h.spread,h.table.same hg,h.tlen,h.seed⟩
theorem RCfg.shape {c:Cfg} (h:RCfg w c t):∃a k,c.Table=.slice a 16 k:=by
 obtain⟨a,k,e⟩:=h.table.shape;rw[h.tlen] at e;exact⟨a,k,e⟩
theorem F6_ (c:Cfg) (t:List Int) (w:World) (h:RCfg w c t):Calls prog 110 #[c.val] w (RetInt 0 w):=by
 obtain⟨a,k,e⟩:=h.shape;obtain⟨h1,h2⟩:=h.shards;obtain⟨h3,h4⟩:=h.spread
 go_enter func110,ntmps110
 go_wp2_with (go_at_call 147;refine(Hd_ a k _).mono ?_;rintro e w' ⟨rfl,rfl⟩)
 go_ret
 exact Aj_ rfl (ga_ w _ _)
def Xf_ (c:Cfg) (t:List Int) (k:ByteArray):Int:=slotF (hashF t c.Seed k) c.Shards
theorem S7_ {e:Ending} {v:Value} (h:e=.returned v∧w=w'):e=.returned v∧w.grownBy w' none:=⟨h.1,h.2▸Ab_ _ _⟩
theorem dp_ (c:Cfg) (t:List Int) (k:ByteArray) (w:World) (h:RCfg w c t) (hk:k.size≤9223372036854775807):Calls prog 120 #[c.val,.string k] w (RetInt (Xf_ c t k) w):=by
 have H:=hh_ h;obtain⟨h1,h2⟩:=h.shards;have hs:=h.seed;clear h
 go_enter func120,ntmps120
 go_upto_region 3 with(first |(refine At_ rfl _ rfl c rfl ?_;intro w1 B1 G1 z1) |(refine An_ rfl _ rfl _ rfl c (by assumption) ?_) |(go_at_call 110;refine(F6_ c t _ (H.out.same G1)).mono ?_;rintro e w2 ⟨rfl,G2⟩))
 have G:=Aa_ G1 G2;obtain⟨r1,r2,r3⟩:=(B1.same G2).re
 have r4:=Bn_ (w:=w2) fun w' hg=>Uf_ c.Table t c.Seed k w' (H.out.same (Aa_ G hg)).table H.out.tlen hs hk
 have r5:=Bn_ (w:=w2) fun w' hg=>(Ol_ (hashF t c.Seed k) c.Shards w' (Ls_ _ _ _) h1 (by omega)).mono fun _ _=>S7_
 (refine Tail.wp_region_tail_grown 10 (by kernel_rfl) (by kernel_rfl) ?_;simp only[List.take,List.drop];(repeat(go_big_quiet_step (first |(with_reducible exact r4 _ _) |(with_reducible exact r5 _ _))));refine wn_ ?_;rintro _ ⟨⟨d5,os5⟩,rfl⟩)
 have G5:=Aa_ G (A3_ w2 d5 os5);clear r1 r2 r3 r4 r5
 go_wp2_with fail
 go_ret
 exact Aj_ rfl G5
end
section
open Go.RowKit
structure Blk (w:World) (g:Nat) (cs:Array Value):Prop where
 blk:∃t,w.heap[g]?=some (.cells cs t (0,0))
theorem Blk.lt {g:Nat} (h:Blk w g cs):g<w.heap.size:=by
 obtain⟨t,h⟩:=h.blk;exact(Array.getElem?_eq_some_iff.1 h).1
theorem Blk.cell {g:Nat} (h:Blk w g cs) (i:Nat):w.cell? ⟨g,i,none⟩=cs[i]?:=by
 obtain⟨t,h⟩:=h.blk;simp[World.cell?,h]
theorem Blk.free {g:Nat} (h:Blk w g cs) (i:Nat):w.frozen? ⟨g,i,none⟩=false:=by
 obtain⟨t,h⟩:=h.blk;simp[World.frozen?,h]
theorem Blk.kept {g:Nat} {r:Option Nat} (h:Blk w g cs) (hg:w.grownBy w' r) (hr:r≠some g):Blk w' g cs:=by
 have hl:=h.lt;obtain⟨t,h⟩:=h.blk;exact⟨t,(hg.block g hl (fun e=>hr e.symm)).trans h⟩
theorem Blk.same {g:Nat} (h:Blk w g cs) (hg:w.grownBy w' none):Blk w' g cs:=h.kept hg (by simp)
theorem Blk.set {g:Nat} (h:Blk w g cs) (i:Nat) (v:Value):Blk (w.setCell ⟨g,i,none⟩ v) g (cs.setIfInBounds i v):=by
 obtain⟨t,h⟩:=h.blk;exact⟨t,Eq_ v h⟩
theorem Blk.off {g g':Nat} (h:Blk w g cs) (hne:g'≠g) (i:Nat) (v:Value):Blk (w.setCell ⟨g',i,none⟩ v) g cs:=
 h.kept (Ac_ (Ab_ w (some g')) i v) (by simpa using hne)
theorem Blk.drew {g:Nat} (h:Blk w g cs) (n:Nat):Blk (w.drewN n) g cs:=⟨h.blk⟩
theorem Blk.drew1 {g:Nat} (h:Blk w g cs):Blk w.drew g cs:=⟨h.blk⟩
theorem Blk.new (w:World) (cs:Array Value) (t:TypeId):Blk (w.alloc (.cells cs t)) w.heap.size cs:=⟨t,heap_alloc_new w _⟩
theorem Blk.new' (w:World) (cs:Array Value) (t:TypeId) {g:Nat} (h:g=w.heap.size):Blk (w.alloc (.cells cs t)) g cs:=h▸Blk.new w cs t
theorem Blk.set_ {g:Nat} {cs cs':Array Value} (h:Blk w g cs) (i:Nat) (v:Value) (he:cs.setIfInBounds i v=cs'):Blk (w.setCell ⟨g,i,none⟩ v) g cs':=he▸h.set i v
open Go.Sort in
theorem Blk.re {g:Nat} (h:Blk w g cs):∀d os i,(grow (redrawn w d) os).cell? ⟨g,i,none⟩=cs[i]?:=
 fun d os i=>(h.same (A3_ w d os)).cell i
theorem bk_ {b:Nat} (h:Blk w b cs:=by repeat(first|exact Blk.new' _ _ _ (by simp)|refine Blk.same ?_ (World.grownBy_alloc _ _ _)|refine Blk.drew ?_ _|refine Blk.drew1 ?_|refine Blk.set_ (by assumption) _ _ rfl|refine Blk.off ?_ (by first|omega |(simp;done) |(simp;omega)) _ _|assumption)):Blk w b cs:=h
theorem nb_ (w:World) (cs:Array Value) (t:TypeId):Blk (w.alloc (.cells cs t)) w.heap.size cs∧w.grownBy (w.alloc (.cells cs t)) none:=⟨Blk.new w cs t,World.grownBy_alloc w _ none⟩
end
section
open Go.RowKit
theorem Iz_ {α:Type} {f:α→List Value} {s:Nat} (hs:∀x,(f x).length=s):∀{l:List α} {i j:Nat} {u:Value} {y:α},(hi:i<l.length)→j<s→f y =(f l[i]).set j u→cellsOf f (l.set i y) =(cellsOf f l).set (i*s+j) u
 | [],i,_,_,_,hi,_,_=>by simp at hi
 | a::l,0,j,u,y,_,hj,hy=>by
  simp only[List.set_cons_zero,cellsOf,List.flatMap_cons,Nat.zero_mul,Nat.zero_add];rw[List.set_append_left _ _ (by rw[hs];exact hj)];rw[hy];rfl
 | a::l,i+1,j,u,y,hi,hj,hy=>by
  have ih:=Iz_ hs (l:=l) (i:=i) (j:=j) (u:=u) (y:=y) (by simpa using hi) hj (by simpa using hy);simp only[List.set_cons_succ,cellsOf,List.flatMap_cons] at *;rw[ih,List.set_append_right _ _ (by rw[hs,Nat.add_mul];omega),hs]
  congr 2
  rw[Nat.add_mul];omega
theorem Own.stored {α:Type} {f:α→List Value} {s:Nat} {e:TypeId} {B:Nat} {g n cap:Nat} {l:List α} (h:Own f s e B w (.slice (some ⟨g,0,none⟩) n cap) l) (hs:∀x,(f x).length=s) {i j:Nat} (hi:i<l.length) (hj:j<s) (u:Value) (y:α) (hy:f y =(f l[i]).set j u) :
  Own f s e B (w.setCell ⟨g,i*s+j,none⟩ u) (.slice (some ⟨g,0,none⟩) n cap) (l.set i y)∧w.grownBy (w.setCell ⟨g,i*s+j,none⟩ u) (some g):=by
 obtain⟨a,c,hv⟩:=h.shape;cases hv
 have:=World.ownsRow.stored (w:=w) (base:=B) (e:=e) (size:=s) (g:=g) (n:=l.length) (cap:=cap) (xs:=cellsOf f l) h (i*s+j) u
 refine⟨?_,this.2⟩;unfold Own;rw[Iz_ hs hi hj hy,List.length_set];exact this.1
theorem Own.at_ {α:Type} {f:α→List Value} {s:Nat} {e:TypeId} {B:Nat} {v:Value} {l:List α} (h:Own f s e B w v l) (hs:∀x,(f x).length=s) {i:Nat} (hi:i<l.length) :
  ∃g cap,v=.slice (some ⟨g,0,none⟩) l.length cap∧B≤g∧g<w.heap.size∧l.length≤cap∧(∀j u,(f l[i])[j]?=some u→w.cell? ⟨g,i*s+j,none⟩=some u)∧∀j,w.frozen? ⟨g,j,none⟩=false:=by
 have hR:=h.rd;have hlt:=h.lt
 rcases h.2 with⟨rfl,h0⟩ |⟨g,cap,cur,rfl,hb,hg,h1,h2,_⟩
 ·omega
 ·obtain⟨g',off,cap',hv,hg',hc⟩:=hR.at_ hs hi
  cases hv;refine⟨g,cap,rfl,hb,hg',h1,fun j u hu=>by simpa using hc j u hu,fun j=>World.ownsRow.frozenAt (n:=l.length) (cap:=cap) h j⟩
end
section
namespace Rg
open Tail
def plainOp:Op→Bool
 | .call { callee:=.builtin b,.. }=>match b with
  | .append | .len | .cap | .copy | .min | .max=>true
  | _=>false
 | .call _ | .go _ | .defer _ | .send _ _ | .recv _ _ _ | .select _ _=>false
 | _=>true
def vOp:Op→Bool
 | .nilCheck _=>true
 | .slice ..=>true
 | .extract _ _ | .move _ | .assign _ | .binOp _ _ _ _ _ | .convert _ _ _ | .field _ _ _ | .fieldAddr _ _ _ | .indexAddr _ _ _ | .index _ _ _ | .build _ _ | .load _ _=>true
 | _=>false
def Valued:Result Next→Prop
 | .ok (.value _) _=>True
 | .ok .skip _=>True
 | .ok _ _=>False
 | .halt _ _=>True
section
variable {P:Program}
theorem valued_v (s:Sem Value) (w:World):Valued ((s >>= fun x=>pure (Next.value x):Sem Next).run P w):=by
 rw[Sem.run_bind];cases s.run P w <;> exact trivial
theorem noSkip_v (s:Sem Value) (w w':World) :(s >>= fun x=>pure (Next.value x):Sem Next).run P w≠.ok .skip w':=by
 rw[Sem.run_bind];cases s.run P w <;> simp[Result.andThen]
def HV (r:Result Next):Prop:=(∃h w',r=.halt h w')∨∃v w',r=.ok (.value v) w'
theorem hv_bind {α:Type} (s:Sem α) (k:α→Sem Next) (hk:∀v w,HV ((k v).run P w)) (w:World):HV ((s >>= k).run P w):=by
 rw[Sem.run_bind]
 cases s.run P w with
 | ok a w'=>exact hk a w'
 | halt h w'=>exact .inl ⟨h,w',rfl⟩
theorem hv_pure (v:Value) (w:World):HV ((pure (Next.value v):Sem Next).run P w):=.inr ⟨v,w,rfl⟩
theorem nil_cases (ρ:Operand→Value) (dst:Option Tmp) (x:Operand) (ty:TypeId) (pos:String) (after:Array Edge) (guard:Option (Nat×Bool)) (w:World) :
  HV ((execOp ρ ⟨dst,.nilCheck x,ty,pos,after,guard⟩).run P w):=by
 unfold execOp;dsimp only
 split
 ·exact .inl ⟨_,_,rfl⟩
 ·exact .inl ⟨_,_,rfl⟩
 ·exact .inl ⟨_,_,rfl⟩
 ·split
  ·exact .inl ⟨_,_,rfl⟩
  ·refine hv_bind _ _ (fun p w=>?_) w
   refine hv_bind _ _ (fun b w=>?_) w
   split
   ·exact hv_bind _ _ (fun _ w=>hv_pure _ w) w
   ·exact hv_pure _ w
  ·exact hv_pure _ w
 ·exact hv_pure _ w
theorem noSkip {o:Oper} (h:vOp o.op=true) (ρ:Operand→Value) (w w':World) :(execOp ρ o).run P w≠.ok .skip w':=by
 obtain⟨dst,op,ty,pos,after,guard⟩:=o;cases op
 case nilCheck x=>
  intro e
  rcases nil_cases (P:=P) ρ dst x ty pos after guard w with⟨_,_,h1⟩ |⟨_,_,h1⟩ <;> rw[h1] at e <;> cases e
 all_goals first |(simp[vOp] at h;done)|exact noSkip_v _ _ _ |(intro e;cases e)
theorem valued_u (s:Sem Unit) (w:World):Valued ((s >>= fun _=>pure Next.skip:Sem Next).run P w):=by
 rw[Sem.run_bind];cases s.run P w <;> exact trivial
theorem valued_b (s:Sem Bool) (x y:Value) (w:World):Valued ((s >>= fun b=>pure (Next.value (if b=true then x else y)):Sem Next).run P w):=by
 rw[Sem.run_bind];cases s.run P w <;> exact trivial
theorem plain_valued {o:Oper} (h:plainOp o.op=true) (ρ:Operand→Value) (w:World):Valued ((execOp ρ o).run P w):=by
 obtain⟨dst,op,ty,pos,after,guard⟩:=o;cases op
 case call c=>
  obtain⟨callee,args,ats⟩:=c
  cases callee with
  | builtin b=>cases b <;> first|exact valued_v _ _ |(simp[plainOp] at h)
  | value f=>simp[plainOp] at h
  | invoke r m=>simp[plainOp] at h
 case pick c a b=>exact valued_b _ _ _ _
 case nilCheck x=>rcases nil_cases (P:=P) ρ dst x ty pos after guard w with⟨_,_,h1⟩ |⟨_,_,h1⟩ <;> rw[h1] <;> trivial
 all_goals first|exact valued_v _ _|exact valued_u _ _|exact trivial |(simp[plainOp] at h;done)
end
section
variable (P:Program) (ops:Array Oper) (R:Nat→Array Value→World→Value→World→Prop)
def Gives (o:Oper) (a:Act) (w:World) (v:Value) (w':World):Prop:=
 (execOp a.eval o).run P w=.ok (.value v) w'∨((execOp a.eval o).run P w=.ok .skip w'∧v=undef)
def argsOf (o:Oper) (a:Act):Array Value:=o.op.operands.map a.eval
def Out (k:Nat) (o:Oper) (a:Act) (w:World) (v:Value) (w':World):Prop:=
 if Region.wanted o (yielded ops a.tmps)=true then (if plainOp o.op=true then Gives P o a w v w' else R k (argsOf o a) w v w') else v=undef∧w'=w
def specUpon (R':Value→World→Prop):Result Next→Prop
 | .ok (.value v) w'=>R' v w'
 | .ok .skip w'=>R' undef w'
 | .ok (.enter f args) w'=>Calls P f args w' fun e w''=>∃v,e=.returned v∧R' v w''
 | _=>False
def callSpec (o:Oper) (a:Act) (w:World) (R':Value→World→Prop):Prop:=specUpon P R' ((execOp a.eval o).run P w)
def stepG (k : Nat) (o : Oper) (a : Act) (w : World) (K : Act → World → Prop) : Prop :=
  if Region.wanted o (yielded ops a.tmps) = true then
    (if plainOp o.op = true then o.wp P a w K (fun _ _ _ => False)
     else callSpec P o a w (R k (argsOf o a) w) ∧ ∀ v w', R k (argsOf o a) w v w' → K (a.put o.dst v) w')
  else K (a.put o.dst undef) w
end
section
variable {P:Program} {ops:Array Oper} {R:Nat→Array Value→World→Value→World→Prop} {o:Oper} {a c:Act} {w w':World} {v:Value} {K:Act→World→Prop} {k:Nat}
theorem wp_gives (hp:plainOp o.op=true) (h:o.wp P a w K (fun _ _ _=>False)):∃v w',Gives P o a w v w'∧K (a.put o.dst v) w':=by
 have hv:=plain_valued (P:=P) hp a.eval w;unfold Oper.wp at h;unfold Gives;generalize (execOp a.eval o).run P w=r at *
 cases r with
 | ok n w'=>cases n <;> first|exact hv.elim|exact⟨_,_,.inl rfl,h⟩|exact⟨_,_,.inr ⟨rfl,rfl⟩,h⟩
 | halt x w'=>cases x <;> exact h.elim
theorem gives_wp {Q:Exit→Act→World→Prop} (hg:Gives P o a w v w') (h:K (a.put o.dst v) w'):o.wp P a w K Q:=by
 unfold Oper.wp
 rcases hg with hg |⟨hg,rfl⟩ <;> rw[hg] <;> exact h
theorem Gives.uniq {v2:Value} {w2:World} (h:Gives P o a w v w') (h2:Gives P o a w v2 w2):v=v2∧w'=w2:=by
 rcases h with h |⟨h,rfl⟩ <;> rcases h2 with h2 |⟨h2,rfl⟩ <;> rw[h] at h2 <;> cases h2 <;> exact⟨rfl,rfl⟩
theorem callSpec.ex {R':Value→World→Prop} (h:callSpec P o a w R'):∃v w',R' v w':=by
 unfold callSpec at h;generalize (execOp a.eval o).run P w=r at *
 cases r with
 | ok n w'=>
  cases n <;> first|exact⟨_,_,h⟩|exact(h:False).elim|skip
  case enter f args=>
   obtain⟨e,w2,_,⟨v,_,hr⟩,_⟩:=(show Calls P f args w' _ from h) [];exact⟨v,w2,hr⟩
 | halt x w'=>exact(h:False).elim
theorem stepG.ex (h:stepG P ops R k o a w K):∃v w',Out P ops R k o a w v w'∧K (a.put o.dst v) w':=by
 unfold stepG at h;unfold Out
 split at h
 ·rename_i hw
  simp only[hw,if_true]
  split at h
  ·rename_i hp;simp only[hp,if_true];exact wp_gives hp h
  ·rename_i hp
   obtain⟨v,w',hr⟩:=h.1.ex;exact⟨v,w',by simp only[hp];exact hr,h.2 _ _ hr⟩
 ·rename_i hw
  exact⟨undef,w,by simp[hw],h⟩
theorem stepG.use (h:stepG P ops R k o a w K) (ho:Out P ops R k o a w v w'):K (a.put o.dst v) w':=by
 unfold stepG at h;unfold Out at ho
 split at h
 ·rename_i hw
  simp only[hw,if_true] at ho
  split at h
  ·rename_i hp
   simp only[hp,if_true] at ho;obtain⟨v2,w2,hg,hk⟩:=wp_gives hp h;obtain⟨rfl,rfl⟩:=hg.uniq ho;exact hk
  ·rename_i hp
   simp only[hp] at ho;exact h.2 _ _ ho
 ·rename_i hw
  simp only[hw] at ho;obtain⟨rfl,rfl⟩:=ho;exact h
def Agree (L:List Tmp) (a c:Act):Prop:=∀d∈L,a.tmps[d]?=c.tmps[d]?
theorem Agree.symm {L:List Tmp} (h:Agree L a c):Agree L c a:=fun d hd=>(h d hd).symm
theorem Agree.trans {L:List Tmp} {b:Act} (h:Agree L a b) (h':Agree L b c):Agree L a c:=fun d hd=>(h d hd).trans (h' d hd)
theorem Agree.both {L:List Tmp} (h:Agree L a c) (x:Option Tmp) (v:Value):Agree L (a.put x v) (c.put x v):=by
 intro d hd
 cases x with
 | none=>exact h d hd
 | some y=>
  have:=h d hd
  by_cases e:y=d
  ·subst e
   by_cases h1:y<a.tmps.size
   ·have h2:y<c.tmps.size:=by
     rcases Nat.lt_or_ge y c.tmps.size with h2|h2
     ·exact h2
     ·rw[Array.getElem?_eq_none h2,Array.getElem?_eq_getElem h1] at this;cases this
    simp[Act.put,h1,h2]
   ·have h2:¬y<c.tmps.size:=by
     intro h2;have h3:=Array.getElem?_eq_none (Nat.not_lt.1 h1);rw[h3,Array.getElem?_eq_getElem h2] at this;cases this
    simp[Act.put,h1,h2]
  ·simpa [Act.put,Array.getElem?_setIfInBounds_ne e] using this
theorem Agree.left {L:List Tmp} (h:Agree L a c) {x:Option Tmp} (v:Value) (hx:∀d,x=some d→d∉L):Agree L (a.put x v) c:=by
 intro d hd
 cases x with
 | none=>exact h d hd
 | some y=>
  have e:y≠d:=fun e=>hx y rfl (e▸hd)
  simpa [Act.put,Array.getElem?_setIfInBounds_ne e] using h d hd
theorem Agree.refl (L:List Tmp) (a:Act):Agree L a a:=fun _ _=>rfl
theorem Agree.eval (h:Agree (o.looksAt ops) a c):∀x∈o.op.operands,a.eval x=c.eval x:=by
 intro x hx
 cases x with
 | tmp t=>
  have:=h t (List.mem_append_left _ (List.mem_filterMap.2 ⟨.tmp t,by simpa using hx,rfl⟩))
  simp[Act.eval,this]
 | _=>rfl
theorem Agree.exec (hs:∀cs b,o.op≠.select cs b) (h:Agree (o.looksAt ops) a c):execOp a.eval o=execOp c.eval o:=execOp_congr o hs h.eval
theorem Agree.args (h:Agree (o.looksAt ops) a c):argsOf o a=argsOf o c:=Array.map_congr_left fun x hx=>h.eval x hx
theorem Agree.wanted (h:Agree (o.looksAt ops) a c):Region.wanted o (yielded ops a.tmps)=Region.wanted o (yielded ops c.tmps):=by
 unfold Region.wanted
 cases hg:o.guard with
 | none=>rfl
 | some gw=>
  obtain⟨g,b⟩:=gw
  have:yielded ops a.tmps g=yielded ops c.tmps g:=by
   unfold yielded
   cases hd :(ops[g]?).bind (·.dst) with
   | none=>rfl
   | some d=>
    have:=h d (List.mem_append_right _ (by simp[hg,hd]))
    simp[this]
  simp[this]
theorem Out.agree (hs:∀cs b,o.op≠.select cs b) (h:Agree (o.looksAt ops) a c) (ho:Out P ops R k o a w v w'):Out P ops R k o c w v w':=by
 unfold Out Gives at *;rw[←h.wanted,←h.args,←h.exec hs];exact ho
theorem stepG.wpOp {Q:Exit→Act→World→Prop} {i:Nat} (hi:ops[i]?=some o) (hs:∀cs b,o.op≠.select cs b) (h:stepG P ops R k o c w K) (hg:Agree (o.looksAt ops) c a) :
  wpOp P ops Q i (fun a' w'=>∃v,a'=a.put o.dst v∧Out P ops R k o a w v w') a w:=by
 unfold Go.wpOp;simp only[hi];unfold stepG at h;rw[hg.wanted] at h
 split
 ·rename_i hw
  rw[if_pos hw] at h;refine .inl ?_
  split at h
  ·rename_i hp
   obtain⟨v,w',hgv,_⟩:=wp_gives hp h
   have hgv':Gives P o a w v w':=by unfold Gives at *;rw[←hg.exec hs];exact hgv
   exact gives_wp hgv' ⟨v,rfl,by unfold Out;rw[if_pos hw,if_pos hp];exact hgv'⟩
  ·rename_i hp
   have hc:=h.1
   have hO:∀v w',R k (argsOf o a) w v w'→Out P ops R k o a w v w':=fun v w' hr=>by unfold Out;rw[if_pos hw,if_neg hp];exact hr
   unfold callSpec at hc;rw[hg.exec hs,hg.args] at hc;unfold Oper.wp;generalize (execOp a.eval o).run P w=r at *
   cases r with
   | ok m w'=>
    cases m
    case value v=>exact⟨v,rfl,hO _ _ hc⟩
    case skip=>exact⟨undef,rfl,hO _ _ hc⟩
    case enter f args=>exact Calls.mono hc fun e w'' ⟨v,he,hr⟩=>by subst he;exact⟨v,rfl,hO _ _ hr⟩
    all_goals exact(hc:False).elim
   | halt x w'=>exact(hc:False).elim
 ·rename_i hw
  exact⟨undef,rfl,by unfold Out;rw[if_neg hw];exact⟨rfl,rfl⟩⟩
end
section
variable (P:Program) (ops:Array Oper) (n:Nat) (Z:Array Bool) (M:World→World→Prop) (R:Nat→Array Value→World→Value→World→Prop) (w0:World) (Qt:Act→World→Prop)
def tree:Nat→List Oper→Act→List World→List World→Prop
 | _,[],a,E,S=>∀w,M w0 w→(∀j,j<n→M (E.getD j w0) w)→(∀i j,i<n→j<n→i≠j→M (E.getD i w0) (S.getD j w0)∨M (E.getD j w0) (S.getD i w0))→Qt a w
 | k,o::rest,a,E,S=>
  (∃v,(∀w,stepG P ops R k o a w fun a' w'=>a'=a.put o.dst v∧w'=w)∧(Z.getD k false=true→Yields P ops o v a)∧tree (k+1) rest (a.put o.dst v) (E++[w0]) (S++[w0])) ∨
  (Z.getD k false=false∧∀w,M w0 w→(∀j,j<k→waitsB ops 8 k j=true→M (E.getD j w0) w)→stepG P ops R k o a w fun a' w'=>M w w'∧tree (k+1) rest a' (E++[w']) (S++[w]))
end
structure Rec where
 (v:Value) (s t:World)
def dstOf (ops:Array Oper) (k:Nat):Option Tmp:=(ops[k]?).bind (·.dst)
def actN (ops:Array Oper) (a0:Act) (h:Nat→Option Value):Nat→Act
 | 0=>a0
 | k+1=>match h k with
  | some v=>(actN ops a0 h k).put (dstOf ops k) v
  | none=>actN ops a0 h k
section
variable {ops:Array Oper} {a0:Act} {h h':Nat→Option Value}
theorem actN_congr:∀k,(∀j,j<k→h j=h' j)→actN ops a0 h k=actN ops a0 h' k
 | 0,_=>rfl
 | k+1,hh=>by
  have ih:=actN_congr k fun j hj=>hh j (by omega)
  simp only[actN,hh k (by omega),ih]
theorem actN_agree (L:List Tmp):∀k,(∀j,j<k→h j=h' j∨∀d,dstOf ops j=some d→d∉L)→Agree L (actN ops a0 h k) (actN ops a0 h' k)
 | 0,_=>Agree.refl _ _
 | k+1,hh=>by
  have ih:=actN_agree L k fun j hj=>hh j (by omega)
  simp only[actN]
  rcases hh k (by omega) with e|e
  ·rw[e];cases h' k with
   | none=>exact ih
   | some v=>exact ih.both _ _
  ·cases h k <;> cases h' k
   ·exact ih
   ·exact(ih.symm.left _ e).symm
   ·exact ih.left _ e
   ·exact((ih.left _ e).symm.left _ e).symm
def upd (h:Nat→Option Value) (i:Nat) (v:Value):Nat→Option Value:=fun j=>if j=i then some v else h j
theorem actN_set {i:Nat} {v:Value} (hn:h i=none):∀k,i<k→(∀j,i<j→j<k→h j≠none→∀d,dstOf ops i=some d→dstOf ops j≠some d) →
  actN ops a0 (upd h i v) k =(actN ops a0 h k).put (dstOf ops i) v
 | 0,hi,_=>by omega
 | k+1,hi,hh=>by
  by_cases e:k=i
  ·subst e
   have:actN ops a0 (upd h k v) k=actN ops a0 h k:=actN_congr k fun j hj=>by simp[upd,show j≠k by omega]
   simp only[actN,hn,this]
   simp[upd]
  ·have ih:=actN_set (v:=v) hn k (by omega) fun j hj hk=>hh j hj (by omega)
   have hu:upd h i v k=h k:=by simp[upd,e]
   simp only[actN,hu,ih]
   cases hk:h k with
   | none=>rfl
   | some u=>exact Act.put_comm _ _ _ fun d hd=>hh k (by omega) (by omega) (by simp[hk]) d hd
theorem actN_stop {k : Nat} (hs : ∀ j, k ≤ j → h j = none) : ∀ n, k ≤ n → actN ops a0 h n = actN ops a0 h k
  | 0, hk => by have : k = 0 := by omega
                subst this; rfl
  | n + 1, hk => by
    by_cases e : k = n + 1
    · subst e; rfl
    · simp only [actN, hs n (by omega)]
      exact actN_stop hs n (by omega)
end
def depB (ops:Array Oper) (j i:Nat):Bool:=match ops[j]? with
 | none=>false
 | some o=>o.after.any fun e=>Region.binds .any e&&e.on==i
def okY (ops:Array Oper) (n:Nat) (Z Y:Array Bool):Bool:=
 (List.range ops.size).all fun j=>match ops[j]? with
  | none=>true
  | some o=>(o.after.all fun e=>!Region.binds .any e||decide (e.on<j)) &&
    (decide (j<n)||Y.getD j false||(List.range j).all fun i=>(decide (i<n)&&Z.getD i false)||Y.getD i false||(waitsB ops 4 j i||waitsB ops 20 j i))
section
variable {P:Program} {ops:Array Oper} {n:Nat} {Z Y:Array Bool} {Q:Exit→Act→World→Prop}
theorem backY (h:okY ops n Z Y=true) {j:Nat} {o:Oper} (hj:ops[j]?=some o):∀e∈o.after,Region.binds .any e=true→e.on<j:=by
 intro e he hb;have h1:=List.all_eq_true.1 h j (List.mem_range.2 (Array.getElem?_eq_some_iff.1 hj).1);simp only[hj,Bool.and_eq_true] at h1;have h2:=Array.all_eq_true_iff_forall_mem.1 h1.1 e he
 simpa [hb] using h2
theorem waitsY (h:okY ops n Z Y=true) {listed:Array Bool} (hc:Closed ops listed) {j:Nat} {o:Oper} (hj:ops[j]?=some o) (hn:n≤j) (hY:Y.getD j false=false) {i:Nat} (hi:i<j) (hp:i<n→Z.getD i false=false) (hYi:Y.getD i false=false)
  (hd:∀e∈o.after,Region.binds .any e=true→listed.getD e.on false=true):listed.getD i false=true:=by
 have h1:=List.all_eq_true.1 h j (List.mem_range.2 (Array.getElem?_eq_some_iff.1 hj).1);simp only[hj,Bool.and_eq_true,Bool.or_eq_true,decide_eq_true_eq,hY,Bool.false_eq_true,or_false] at h1
 rcases h1.2 with h2|h2
 ·omega
 ·have h3:=List.all_eq_true.1 h2 i (List.mem_range.2 hi)
  simp only[Bool.and_eq_true,Bool.or_eq_true,decide_eq_true_eq,hYi,Bool.false_eq_true,or_false] at h3
  rcases h3 with⟨h4,h5⟩|h4
  ·rw[hp h4] at h5;cases h5
  ·rcases h4 with h4|h4
   ·exact reach hc 4 j i o hj hd h4
   ·exact reach hc 20 j i o hj hd h4
def tailL (Y:Array Bool):Nat→List Oper→List Oper
 | _,[]=>[]
 | k,o::l=>if Y.getD k false=true then tailL Y (k+1) l else o::tailL Y (k+1) l
def UptoY (Y listed:Array Bool) (N m:Nat):Prop:=listed.size=N∧∀i,i<N→listed.getD i true =(decide (i<m)||Y.getD i false)
theorem UptoY.getF {listed:Array Bool} {N m:Nat} (h:UptoY Y listed N m) {i:Nat} (hi:i<N):listed.getD i false =(decide (i<m)||Y.getD i false):=by
 rw[←h.2 i hi]
 have:i<listed.size:=by rw[h.1];exact hi
 simp[this]
theorem tail_anyY (hok:okY ops n Z Y=true):∀(k m:Nat) (listed:Array Bool) (a:Act) (w:World) (fuel:Nat),n≤m→m+k=ops.size→(tailL Y m (ops.toList.drop m)).length≤fuel→UptoY Y listed ops.size m→Closed ops listed →
  wpList P ops Q (tailL Y m (ops.toList.drop m)) a w→wpAny P .any ops Q fuel listed a w:=by
 intro k
 induction k with
 | zero=>
  intro m listed a w fuel hn hm hf hu hcl h
  have hr:Region.ready .any ops listed=[]:=by
   rw[List.eq_nil_iff_forall_not_mem];intro i hi;rw[mem_ready] at hi;obtain⟨h0,o,ho,_⟩:=hi;have hi':=(Array.getElem?_eq_some_iff.1 ho).1;rw[hu.2 i hi'] at h0
   simp at h0;omega
  have hd:ops.toList.drop m=[]:=List.drop_eq_nil_of_le (by simp;omega);rw[hd] at h
  cases fuel with
  | zero=>exact⟨hr,h⟩
  | succ f=>exact⟨fun _=>h,by rw[hr];simp⟩
 | succ k ih=>
  intro m listed a w fuel hn hm hf hu hcl h
  have hlt:m<ops.size:=by omega
  have ho:ops[m]?=some ops[m]:=Array.getElem?_eq_getElem hlt
  have hd:ops.toList.drop m=ops[m]::ops.toList.drop (m+1):=by
   rw[List.drop_eq_getElem_cons (by simpa using hlt)];simp
  rw[hd] at h hf
  by_cases hY:Y.getD m false=true
  ·have e:tailL Y m (ops[m]::ops.toList.drop (m+1))=tailL Y (m+1) (ops.toList.drop (m+1)):=by simp only[tailL,hY,if_true]
   rw[e] at h hf;refine ih (m+1) listed a w fuel (by omega) (by omega) hf ⟨hu.1,fun i hi=>?_⟩ hcl h;rw[hu.2 i hi]
   by_cases e:i=m
   ·subst e;simp[hY]
   ·congr 1;simp;omega
  ·have hY':Y.getD m false=false:=by simpa using hY
   have e:tailL Y m (ops[m]::ops.toList.drop (m+1))=ops[m]::tailL Y (m+1) (ops.toList.drop (m+1)):=by simp[tailL,hY']
   rw[e] at h hf
   have hin:m∈Region.ready .any ops listed:=by
    rw[mem_ready];refine⟨by rw[hu.2 m hlt,hY'];simp,_,ho,fun e he hb=>?_⟩
    have:=backY hok ho e he hb
    rw[hu.getF (by omega)];simp[this]
   have hall:∀i∈Region.ready .any ops listed,i=m:=by
    intro i hi;rw[mem_ready] at hi;obtain⟨h0,o,hoi,hdep⟩:=hi;have hi':=(Array.getElem?_eq_some_iff.1 hoi).1;rw[hu.2 i hi'] at h0;simp only[Bool.or_eq_false_iff,decide_eq_false_iff_not] at h0
    by_cases e:i=m
    ·exact e
    ·exfalso
     have:=waitsY hok hcl hoi (by omega) h0.2 (show m<i by omega) (fun h=>by omega) hY' hdep
     rw[hu.getF hlt,hY'] at this
     simp at this
   cases fuel with
   | zero=>simp at hf
   | succ f=>
    refine⟨fun h0=>(by rw[h0] at hin;cases hin),fun i hi=>?_⟩;rw[hall i hi]
    have h':wpOp P ops Q m (wpList P ops Q (tailL Y (m+1) (ops.toList.drop (m+1)))) a w:=by
     unfold wpOp;simp only[ho];exact h
    refine wpOp_mono (fun a' w' hk=>ih (m+1) _ a' w' f (by omega) (by omega) (by simpa using hf) ⟨by simp[hu.1],fun i hi=>?_⟩ (hcl.next' hin) hk) h'
    by_cases e:m=i
    ·subst e
     have:m<listed.size:=by rw[hu.1];exact hi
     simp[this]
    ·rw[getD_set_ne true e,hu.2 i hi]
     congr 1;simp;omega
end
def rgB (ops:Array Oper) (n:Nat) (Z Y:Array Bool):Bool:=
 decide (n≤ops.size)&&(okY ops n Z Y&&(List.range n).all fun j=>!Y.getD j false)&&Region.noSelect ops &&
 ((List.range n).all fun z=>!Z.getD z false||((match ops[z]? with|some oz=>vOp oz.op|none=>true)&&(List.range ops.size).all fun j=>j==z||depB ops j z||depB ops z j||match ops[z]?,ops[j]? with
  | some oz,some oj=>oz.apart ops oj
  | _,_=>true)) &&
 ((List.range n).all fun i=>(List.range n).all fun j=>j==i||depB ops i j||depB ops j i||match ops[i]?,dstOf ops j with
  | some o,some d=>!(o.looksAt ops).contains d
  | _,_=>true) &&
 ((List.range n).all fun i=>(List.range n).all fun j=>!decide (i<j)||depB ops j i||match dstOf ops i with
  | some d=>dstOf ops j != some d
  | none=>true)
structure Shape (ops:Array Oper) (n:Nat) (Z Y:Array Bool):Prop where
 le:n≤ops.size
 ok:okY ops n Z Y=true
 head:∀j,j<n→Y.getD j false=false
 sel:Region.noSelect ops=true
 vop:∀z oz,z<n→Z.getD z false=true→ops[z]?=some oz→vOp oz.op=true
 lone:∀z j oz oj,z<n→Z.getD z false=true→ops[z]?=some oz→ops[j]?=some oj→j≠z→depB ops j z=false→depB ops z j=false→oz.apart ops oj=true
 reads:∀i j,i<n→j<n→j≠i→depB ops i j=false→depB ops j i=false→∀o d,ops[i]?=some o→dstOf ops j=some d→d∉o.looksAt ops
 writes:∀i j,i<j→j<n→depB ops j i=false→∀d,dstOf ops i=some d→dstOf ops j≠some d
theorem shape_of {ops:Array Oper} {n:Nat} {Z Y:Array Bool} (h:rgB ops n Z Y=true):Shape ops n Z Y:=by
 simp only[rgB,Bool.and_eq_true,decide_eq_true_eq] at h;obtain⟨⟨⟨⟨⟨h1,h2,h7⟩,h3⟩,h6⟩,h4⟩,h5⟩:=h;refine⟨h1,h2,fun j hj=>by simpa using List.all_eq_true.1 h7 j (List.mem_range.2 hj),h3,fun z oz hz hZ ho=>?_,fun z j oz oj hz hZ ho hoj hne hd hdz=>?_,fun i j hi hj hne hd1 hd2 o d ho hd=>?_,fun i j hij hj hd0 d hd=>?_⟩
 ·have:=List.all_eq_true.1 h6 z (List.mem_range.2 hz)
  simp only[hZ,ho,Bool.not_true,Bool.false_or,Bool.and_eq_true] at this;exact this.1
 ·have:=List.all_eq_true.1 h6 z (List.mem_range.2 hz)
  simp only[hZ,ho,Bool.not_true,Bool.false_or,Bool.and_eq_true] at this
  have:=List.all_eq_true.1 this.2 j (List.mem_range.2 (Array.getElem?_eq_some_iff.1 hoj).1)
  simpa [hne,hd,hdz,hoj] using this
 ·have:=List.all_eq_true.1 (List.all_eq_true.1 h4 i (List.mem_range.2 hi)) j (List.mem_range.2 hj)
  simpa [hne,hd1,hd2,ho,hd] using this
 ·have:=List.all_eq_true.1 (List.all_eq_true.1 h5 i (List.mem_range.2 (by omega))) j (List.mem_range.2 hj)
  simpa [hij,hd0,hd] using this
theorem dep_lt {ops:Array Oper} {n:Nat} {Z Y:Array Bool} (hS:Shape ops n Z Y) {j i:Nat} (h:depB ops j i=true):i<j:=by
 unfold depB at h
 cases ho:ops[j]? with
 | none=>simp[ho] at h
 | some o=>
  simp only[ho] at h;obtain⟨e,he,hb⟩:=Array.any_eq_true'.1 h;simp only[Bool.and_eq_true,beq_iff_eq] at hb;rw[←hb.2];exact backY hS.ok ho e he hb.1
theorem dep_waits {ops:Array Oper} {j i:Nat} (h:depB ops j i=true):waitsB ops 8 j i=true:=by
 unfold depB at h
 cases ho:ops[j]? with
 | none=>simp[ho] at h
 | some o=>
  simp only[ho] at h;obtain⟨e,he,hb⟩:=Array.any_eq_true'.1 h;simp only[Bool.and_eq_true,beq_iff_eq] at hb;simp only[waitsB,ho];exact Array.any_eq_true'.2 ⟨e,he,by simp[hb.1,hb.2]⟩
section
variable {P:Program} {ops:Array Oper} {n:Nat} {Z Y:Array Bool} {M:World→World→Prop} {R:Nat→Array Value→World→Value→World→Prop} {w0:World} {Q:Exit→Act→World→Prop} {a0:Act}
def val (h:Nat→Option Rec):Nat→Option Value:=fun j=>(h j).map (·.v)
def deps (ops:Array Oper) (h:Nat→Option Rec) (j:Nat):Nat→Option Value:=fun i=>if depB ops j i=true then val h i else none
variable (P ops n Y M R w0 a0) in
structure Inv (lf:Array Bool) (a:Act) (w:World) (h:Nat→Option Rec):Prop where
 size:lf.size=ops.size
 listed:∀j,j<n→lf.getD j true =(h j).isSome
 high:∀j,n≤j→j<ops.size→lf.getD j true=Y.getD j false
 closed:Closed ops lf
 out:∀j,n≤j→h j=none
 act:a=actN ops a0 (val h) n
 now:M w0 w
 begun:∀j r,h j=some r→M w0 r.s∧M r.t w
 waits:∀j r,h j=some r→∀i,i<j→waitsB ops 8 j i=true→∃ri,h i=some ri∧M ri.t r.s
 gave:∀j r,h j=some r→∀o,ops[j]?=some o→∀c,Agree (o.looksAt ops) c (actN ops a0 (deps ops h j) n)→Out P ops R j o c r.s r.v r.t
 chain:∀i j ri rj,h i=some ri→h j=some rj→i≠j→M ri.t rj.s∨M rj.t ri.s
variable {lf:Array Bool} {a:Act} {w:World} {h:Nat→Option Rec}
theorem getT {N i:Nat} (hs:lf.size=N) (hi:i<N):lf.getD i false=lf.getD i true:=getF_of hs hi
theorem agree_text (hS:Shape ops n Z Y) {r:Nat→Option Value} {k:Nat} (hk:k<n) {o:Oper} (ho:ops[k]?=some o) (hr:∀j,k≤j→r j=none)
  (hd:∀j,depB ops k j=true→r j=val h j):Agree (o.looksAt ops) (actN ops a0 r n) (actN ops a0 (deps ops h k) n):=by
 refine actN_agree _ n fun j hj=>?_
 unfold deps
 by_cases e:depB ops k j=true
 ·rw[if_pos e];exact .inl (hd j e)
 ·rw[if_neg e]
  by_cases hkj:k≤j
  ·exact .inl (hr j hkj)
  ·refine .inr fun d hd'=>hS.reads k j hk hj (by omega) (by simpa using e) ?_ o d ho hd'
   cases h1:depB ops j k with
   | false=>rfl
   | true=>have:=dep_lt hS h1;omega
theorem agree_now (hS:Shape ops n Z Y) (I:Inv P ops n Y M R w0 a0 lf a w h) {k:Nat} (hk:k<n) (hn:h k=none) {o:Oper} (ho:ops[k]?=some o) :
  Agree (o.looksAt ops) a (actN ops a0 (deps ops h k) n):=by
 rw[I.act]
 refine actN_agree _ n fun j hj=>?_
 unfold deps
 by_cases e:depB ops k j=true
 ·rw[if_pos e];exact .inl rfl
 ·rw[if_neg e]
  cases hj2:h j with
  | none=>exact .inl (by simp[val,hj2])
  | some r=>
   refine .inr fun d hd'=>hS.reads k j hk hj (fun e=>by subst e;rw[hn] at hj2;cases hj2) (by simpa using e) ?_ o d ho hd'
   cases h1:depB ops j k with
   | false=>rfl
   | true=>
    obtain⟨ri,h2,_⟩:=I.waits j r hj2 k (dep_lt hS h1) (dep_waits h1);rw[hn] at h2;cases h2
theorem getD_snoc_lt {α:Type} {l:List α} {j:Nat} {x d:α} (h:j<l.length) :(l++[x]).getD j d=l.getD j d:=by simp[List.getD_eq_getElem?_getD,List.getElem?_append_left h]
theorem getD_snoc_eq {α:Type} {l:List α} {j:Nat} {x d:α} (h:j=l.length) :(l++[x]).getD j d=x:=by subst h;simp[List.getD_eq_getElem?_getD]
theorem replay (hS:Shape ops n Z Y) (hrefl:∀w,M w w) (htr:∀a b c,M a b→M b c→M a c) {Qt:Act→World→Prop}
  (hT:tree P ops n Z M R w0 Qt 0 (ops.toList.take n) a0 [] []) (I:Inv P ops n Y M R w0 a0 lf a w h):∀k,k≤n →
  ∃(r:Nat→Option Value) (E S:List World) (z:World),E.length=k∧S.length=k∧(∀j,k≤j→r j=none)∧(∀j,j<k→(r j).isSome) ∧
   (∀j rec,j<k→h j=some rec→r j=some rec.v∧((E.getD j w0=rec.t∧S.getD j w0=rec.s)∨(E.getD j w0=w0∧S.getD j w0=w0))) ∧
   M w z∧(∀j,j<k→M (E.getD j w0) z)∧tree P ops n Z M R w0 Qt k ((ops.toList.take n).drop k) (actN ops a0 r n) E S:=by
 intro k
 induction k with
 | zero=>
  intro _;refine⟨fun _=>none,[],[],w,rfl,rfl,fun _ _=>rfl,by omega,by omega,hrefl w,by omega,?_⟩;rw[actN_stop (k:=0) (fun _ _=>rfl) n (by omega)];exact hT
 | succ k ih=>
  intro hk;obtain⟨r,E,S,z,hE,hSl,hr1,hr2,hr3,hz,hEz,ht⟩:=ih (by omega)
  have hkn:k<n:=by omega
  have hks:k<ops.size:=ll_ hkn hS.le;have ho:ops[k]?=some ops[k]:=Array.getElem?_eq_getElem hks;have hsel:=Region.noSelect_spec hS.sel k ops[k]
  have hdrop :(ops.toList.take n).drop k=ops[k]::(ops.toList.take n).drop (k+1):=by
   rw[List.drop_eq_getElem_cons (by simp;omega)];simp
  rw[hdrop] at ht
  have hnew:∀v,actN ops a0 (upd r k v) n =(actN ops a0 r n).put (ops[k]).dst v:=fun v=>by
   rw[actN_set (hr1 k (by omega)) n hkn (fun j hj _ hne=>absurd (hr1 j (by omega)) hne)]
   simp[dstOf,ho]
  have hu1:∀v j,k+1≤j→upd r k v j=none:=fun v j hj=>by simp[upd,show j≠k by omega,hr1 j (by omega)]
  have hu2:∀v j,j<k+1→(upd r k v j).isSome:=fun v j hj=>by
   by_cases e:j=k
   ·simp[upd,e]
   ·simp[upd,e,hr2 j (by omega)]
  cases hk2:h k with
  | some rec=>
   have hb:=I.begun k rec hk2
   have hout:Out P ops R k ops[k] (actN ops a0 r n) rec.s rec.v rec.t:=by
    refine I.gave k rec hk2 _ ho _ (agree_text hS hkn ho hr1 fun j hj=>?_);obtain⟨rj,h1,_⟩:=I.waits k rec hk2 j (dep_lt hS hj) (dep_waits hj);rw[(hr3 j rj (dep_lt hS hj) h1).1,val,h1];rfl
   have hold:∀(x y:World) j rec',j<k+1→h j=some rec'→((x=rec.t∧y=rec.s)∨(x=w0∧y=w0))→upd r k rec.v j=some rec'.v ∧
     (((E++[x]).getD j w0=rec'.t∧(S++[y]).getD j w0=rec'.s)∨((E++[x]).getD j w0=w0∧(S++[y]).getD j w0=w0)):=fun x y j rec' hj h1 hxy=>by
    by_cases e:j=k
    ·subst e
     rw[hk2] at h1;cases h1;rw[getD_snoc_eq hE.symm,getD_snoc_eq hSl.symm];exact⟨by simp[upd],hxy⟩
    ·rw[getD_snoc_lt (by omega),getD_snoc_lt (by omega)]
     have:=hr3 j rec' (by omega) h1
     simpa [upd,e] using this
   rcases ht with⟨v,h1,_,h2⟩ |⟨_,h1⟩
   ·obtain⟨e1,_⟩:=(h1 rec.s).use hout
    refine⟨upd r k rec.v,E++[w0],S++[w0],z,by simp[hE],by simp[hSl],hu1 _,hu2 _,fun j rec' hj h1=>hold w0 w0 j rec' hj h1 (.inr ⟨rfl,rfl⟩),hz,?_,?_⟩
    ·intro j hj
     by_cases e:j=k
     ·rw[getD_snoc_eq (by omega)];exact htr _ _ _ I.now hz
     ·rw[getD_snoc_lt (by omega)];exact hEz j (by omega)
    ·rw[hnew,e1];exact h2
   ·have h3:=h1 rec.s hb.1 fun j hj hw=>by
     obtain⟨rj,h4,h5⟩:=I.waits k rec hk2 j hj hw
     rcases(hr3 j rj hj h4).2 with⟨e,_⟩ |⟨e,_⟩
     ·rw[e];exact h5
     ·rw[e];exact hb.1
    obtain⟨_,h5⟩:=h3.use hout;refine⟨upd r k rec.v,E++[rec.t],S++[rec.s],z,by simp[hE],by simp[hSl],hu1 _,hu2 _,fun j rec' hj h1=>hold rec.t rec.s j rec' hj h1 (.inl ⟨rfl,rfl⟩),hz,?_,?_⟩
    ·intro j hj
     by_cases e:j=k
     ·rw[getD_snoc_eq (by omega)];exact htr _ _ _ hb.2 hz
     ·rw[getD_snoc_lt (by omega)];exact hEz j (by omega)
    ·rw[hnew];exact h5
  | none=>
   have hold:∀(v:Value) (x y:World) j rec',j<k+1→h j=some rec'→upd r k v j=some rec'.v ∧
     (((E++[x]).getD j w0=rec'.t∧(S++[y]).getD j w0=rec'.s)∨((E++[x]).getD j w0=w0∧(S++[y]).getD j w0=w0)):=fun v x y j rec' hj h1=>by
    by_cases e:j=k
    ·subst e;rw[hk2] at h1;cases h1
    ·rw[getD_snoc_lt (by omega),getD_snoc_lt (by omega)]
     have:=hr3 j rec' (by omega) h1
     simpa [upd,e] using this
   rcases ht with⟨v,h1,_,h2⟩ |⟨_,h1⟩
   ·refine⟨upd r k v,E++[w0],S++[w0],z,by simp[hE],by simp[hSl],hu1 _,hu2 _,fun j rec' hj h1=>hold v w0 w0 j rec' hj h1,hz,?_,?_⟩
    ·intro j hj
     by_cases e:j=k
     ·rw[getD_snoc_eq (by omega)];exact htr _ _ _ I.now hz
     ·rw[getD_snoc_lt (by omega)];exact hEz j (by omega)
    ·rw[hnew];exact h2
   ·have h3:=h1 z (htr _ _ _ I.now hz) fun j hj _=>hEz j hj
    obtain⟨v,w',_,h4,h5⟩:=h3.ex;refine⟨upd r k v,E++[w'],S++[z],w',by simp[hE],by simp[hSl],hu1 _,hu2 _,fun j rec' hj h1=>hold v w' z j rec' hj h1,htr _ _ _ hz h4,?_,?_⟩
    ·intro j hj
     by_cases e:j=k
     ·rw[getD_snoc_eq (by omega)];exact hrefl _
     ·rw[getD_snoc_lt (by omega)];exact htr _ _ _ (hEz j (by omega)) h4
    ·rw[hnew];exact h5
def cnt (lf:Array Bool):Nat→Nat
 | 0=>0
 | k+1=>cnt lf k+if lf.getD k true=true then 0 else 1
theorem cnt_pos {i:Nat} (hi:lf.getD i true=false):∀k,i<k→1≤cnt lf k
 | 0,h=>by omega
 | k+1,h=>by
  simp only[cnt]
  by_cases e:k=i
  ·subst e;simp[hi]
  ·have:=cnt_pos hi k (by omega);omega
theorem cnt_set {i:Nat} (hs:i<lf.size) (hi:lf.getD i true=false):∀k,i<k→cnt (lf.setIfInBounds i true) k+1=cnt lf k
 | 0,h=>by omega
 | k+1,h=>by
  simp only[cnt]
  by_cases e:i=k
  ·subst e
   have:∀m,m≤i→cnt (lf.setIfInBounds i true) m=cnt lf m:=fun m=>by
    induction m with
    | zero=>intro _;rfl
    | succ m ih=>intro hm;simp only[cnt];rw[ih (by omega),getD_set_ne true (by omega)]
   rw[this i (le_ _)]
   simp[hs,hi]
  ·have:=cnt_set hs hi k (by omega)
   rw[getD_set_ne true e]
   omega
theorem Inv.step (hS:Shape ops n Z Y) (hrefl:∀w,M w w) (htr:∀a b c,M a b→M b c→M a c) (I:Inv P ops n Y M R w0 a0 lf a w h) {i:Nat} {o:Oper} {v:Value} {w':World} (hin:i<n) (hi:i∈Region.ready .any ops lf) (ho:ops[i]?=some o)
  (hw8:∀j,j<i→waitsB ops 8 i j=true→∃rj,h j=some rj) (hO:Out P ops R i o a w v w') (hM:M w w') :
  Inv P ops n Y M R w0 a0 (lf.setIfInBounds i true) (a.put o.dst v) w' (fun j=>if j=i then some ⟨v,w,w'⟩ else h j):=by
 have his:=(Array.getElem?_eq_some_iff.1 ho).1;have hun:=(mem_ready.1 hi).1
 have hn:h i=none:=by
  have:=I.listed i hin
  rw[hun] at this;exact Option.not_isSome_iff_eq_none.1 (by rw[←this];simp)
 have hsel:∀cs b,o.op≠.select cs b:=fun cs b=>Region.noSelect_spec hS.sel i o cs b ho
 have hval:val (fun j=>if j=i then some ⟨v,w,w'⟩ else h j)=upd (val h) i v:=by
  funext j;by_cases e:j=i <;> simp[val,upd,e]
 have hdeps:∀j r,h j=some r→deps ops (fun j=>if j=i then some ⟨v,w,w'⟩ else h j) j=deps ops h j:=fun j r hj=>by
  funext m
  unfold deps
  by_cases e:depB ops j m=true
  ·rw[if_pos e,if_pos e,hval]
   obtain⟨rm,h1,_⟩:=I.waits j r hj m (dep_lt hS e) (dep_waits e)
   have:m≠i:=fun e'=>by subst e';rw[hn] at h1;cases h1
   simp[upd,this]
  ·rw[if_neg e,if_neg e]
 have hdepi:∀m,deps ops (fun j=>if j=i then some ⟨v,w,w'⟩ else h j) i m=deps ops h i m:=fun m=>by
  unfold deps
  by_cases e:depB ops i m=true
  ·have:=dep_lt hS e
   rw[if_pos e,if_pos e,hval];simp[upd,show m≠i by omega]
  ·rw[if_neg e,if_neg e]
 refine⟨by simp[I.size],fun j hj=>?_,fun j hj hjs=>?_,I.closed.next' hi,fun j hj=>?_,?_,htr _ _ _ I.now hM,fun j r hj=>?_,fun j r hj m hm hw=>?_,fun j r hj o' ho' c hc=>?_,fun p q rp rq hp hq hne=>?_⟩
 ·by_cases e:j=i
  ·subst e
   have:j<lf.size:=by rw[I.size];exact his
   simp[this]
  ·rw[getD_set_ne true (Ne.symm e)];simp[e,I.listed j hj]
 ·rw[getD_set_ne true (by omega)];exact I.high j hj hjs
 ·simp[show j≠i by omega,I.out j hj]
 ·rw[hval,actN_set (by simp[val,hn]) n hin fun j hij hj hne d hd=>?_,←I.act]
  ·simp[dstOf,ho]
  ·refine hS.writes i j hij hj ?_ d hd
   cases h1:depB ops j i with
   | false=>rfl
   | true=>
    cases hj2:h j with
    | none=>simp[val,hj2] at hne
    | some rj=>
     obtain⟨ri,h2,_⟩:=I.waits j rj hj2 i hij (dep_waits h1);rw[hn] at h2;cases h2
 ·by_cases e:j=i
  ·simp only[e,if_true,Option.some.injEq] at hj;subst hj;exact⟨I.now,hrefl _⟩
  ·simp only[e,if_false] at hj
   have:=I.begun j r hj
   exact⟨this.1,htr _ _ _ this.2 hM⟩
 ·by_cases e:j=i
  ·subst e
   simp only[if_true,Option.some.injEq] at hj;subst hj;obtain⟨rm,h1⟩:=hw8 m hm hw;exact⟨rm,by simp[show m≠j by omega,h1],(I.begun m rm h1).2⟩
  ·simp only[e,if_false] at hj
   obtain⟨rm,h1,h2⟩:=I.waits j r hj m hm hw
   have:m≠i:=fun e'=>by subst e';rw[hn] at h1;cases h1
   exact⟨rm,by simp[this,h1],h2⟩
 ·by_cases e:j=i
  ·subst e
   simp only[if_true,Option.some.injEq] at hj;subst hj;rw[ho] at ho';cases ho';rw[actN_congr (h':=deps ops h j) n fun m _=>hdepi m] at hc;exact hO.agree hsel ((hc.trans (agree_now hS I hin hn ho).symm).symm)
  ·simp only[e,if_false] at hj
   rw[hdeps j r hj] at hc;exact I.gave j r hj o' ho' c hc
 ·by_cases e:p=i <;> by_cases e':q=i
  ·exact absurd (e.trans e'.symm) hne
  ·simp only[e,e',if_true,if_false,Option.some.injEq] at hp hq
   subst hp;exact .inr (I.begun q rq hq).2
  ·simp only[e,e',if_true,if_false,Option.some.injEq] at hp hq
   subst hq;exact .inl (I.begun p rp hp).2
  ·simp only[e,e',if_false] at hp hq
   exact I.chain p q rp rq hp hq hne
theorem rg_any (hS:Shape ops n Z Y) (hrefl:∀w,M w w) (htr:∀a b c,M a b→M b c→M a c) (hQ:∀c a d v w,Q (.panic c) (Act.put a d v) w→Q (.panic c) a w)
  (hT:tree P ops n Z M R w0 (fun a w=>wpList P ops Q (tailL Y n (ops.toList.drop n)) a w) 0 (ops.toList.take n) a0 [] []) :
  ∀(fuel:Nat) (lf:Array Bool) (a:Act) (w:World) (h:Nat→Option Rec),cnt lf n+(tailL Y n (ops.toList.drop n)).length≤fuel→Inv P ops n Y M R w0 a0 lf a w h→wpAny P .any ops Q fuel lf a w:=by
 intro fuel
 have finish:∀(fuel:Nat) (lf:Array Bool) (a:Act) (w:World) (h:Nat→Option Rec),(tailL Y n (ops.toList.drop n)).length≤fuel→Inv P ops n Y M R w0 a0 lf a w h→(∀j,j<n→lf.getD j true=true)→wpAny P .any ops Q fuel lf a w:=by
  intro fuel lf a w h hf I hall;refine tail_anyY hS.ok (ops.size-n) n lf a w fuel (le_ _) (by have:=hS.le;omega) hf ⟨I.size,fun i hi=>?_⟩ I.closed ?_
  ·by_cases e:i<n
   ·rw[hall i e];simp[e]
   ·rw[I.high i (by omega) hi];simp[e]
  ·obtain⟨r,E,S,z,hE,hSl,hr1,hr2,hr3,hz,hEz,ht⟩:=replay hS hrefl htr hT I n (le_ _)
   have hd :(ops.toList.take n).drop n=[]:=List.drop_eq_nil_of_le (by simp;omega);rw[hd] at ht
   have hdone:∀j,j<n→∃rec,h j=some rec:=fun j hj=>by
    have:=I.listed j hj
    rw[hall j hj] at this;exact Option.isSome_iff_exists.1 this.symm
   have he:actN ops a0 r n=a:=by
    rw[I.act]
    refine actN_congr n fun j hj=>?_
    obtain⟨rec,h1⟩:=hdone j hj;rw[(hr3 j rec hj h1).1,val,h1];rfl
   rw[he] at ht;refine ht w I.now (fun j hj=>?_) (fun i j hi hj hne=>?_)
   ·obtain⟨rec,h1⟩:=hdone j hj
    rcases(hr3 j rec hj h1).2 with⟨e,_⟩ |⟨e,_⟩
    ·rw[e];exact(I.begun j rec h1).2
    ·rw[e];exact I.now
   ·obtain⟨ri,h1⟩:=hdone i hi
    obtain⟨rj,h2⟩:=hdone j hj
    rcases(hr3 i ri hi h1).2 with⟨e1,e2⟩ |⟨e1,e2⟩ <;> rcases(hr3 j rj hj h2).2 with⟨e3,e4⟩ |⟨e3,e4⟩ <;> rw[e1,e2,e3,e4]
    ·exact I.chain i j ri rj h1 h2 hne
    ·exact .inr (I.begun i ri h1).1
    ·exact .inl (I.begun j rj h2).1
    ·exact .inl (hrefl _)
 induction fuel with
 | zero=>
  intro lf a w h hf I
  refine finish 0 lf a w h (by omega) I fun j hj=>?_
  cases hv:lf.getD j true with
  | true=>rfl
  | false=>have:=cnt_pos hv n hj;omega
 | succ fuel ih=>
  intro lf a w h hf I
  by_cases hall:∀j,j<n→lf.getD j true=true
  ·exact finish _ lf a w h (by omega) I hall
  ·have hex:∃i0,i0<n∧lf.getD i0 true=false:=by
    refine Classical.byContradiction fun hc=>hall fun j hj=>?_
    cases hv:lf.getD j true with
    | true=>rfl
    | false=>exact absurd ⟨j,hj,hv⟩ hc
   have hleast:∃i0,i0<n∧i0∈Region.ready .any ops lf:=by
    refine Classical.byContradiction fun hc=>?_
    have key:∀i,i<n→lf.getD i true=true:=by
     intro i
     induction i using Nat.strongRecOn with
     | _ i ihi=>
      intro hi;have hlt:i<ops.size:=ll_ hi hS.le
      cases hv:lf.getD i true with
      | true=>rfl
      | false=>
       refine absurd ⟨i,hi,mem_ready.2 ⟨hv,_,Array.getElem?_eq_getElem hlt,fun e he hb=>?_⟩⟩ hc;have hb':=backY hS.ok (Array.getElem?_eq_getElem hlt) e he hb;rw[getT I.size (by omega)];exact ihi e.on hb' (by omega)
    obtain⟨i0,h1,h2⟩:=hex;rw[key i0 h1] at h2;cases h2
   -- what is known of an operation that may come up
   have have8:∀i o,i<n→ops[i]?=some o→i∈Region.ready .any ops lf→∀j,j<i→waitsB ops 8 i j=true→∃rj,h j=some rj:=fun i o hin ho hi j hj hw=>by
    obtain⟨_,o',ho',hdep⟩:=mem_ready.1 hi;rw[ho] at ho';cases ho';have h1:=reach I.closed 8 i j o ho hdep hw
    have:=(Array.getElem?_eq_some_iff.1 ho).1
    rw[getT I.size (by omega),I.listed j (by omega)] at h1;exact Option.isSome_iff_exists.1 h1
   by_cases hnz:∃i0,i0<n∧Z.getD i0 false=false∧lf.getD i0 true=false
   ·obtain⟨i1,_,hi1⟩:=hleast
    refine⟨fun h0=>(by rw[h0] at hi1;cases hi1),fun i hi=>?_⟩;obtain⟨hun,o,ho,hdep⟩:=mem_ready.1 hi;have his:=(Array.getElem?_eq_some_iff.1 ho).1
    have hin:i<n:=by
     rcases Nat.lt_or_ge i n with h'|h'
     ·exact h'
     ·exfalso
      obtain⟨i0,h1,h3,h2⟩:=hnz
      have:=waitsY hS.ok I.closed ho h' (by rw[←I.high i h' his];exact hun) (show i0<i by omega) (fun _=>h3) (hS.head i0 h1) hdep
      rw[getT I.size (by omega),h2] at this;cases this
    have hn:h i=none:=by
     have:=I.listed i hin
     rw[hun] at this;exact Option.not_isSome_iff_eq_none.1 (by rw[←this];simp)
    have hw8:=have8 i o hin ho hi;obtain⟨r,E,S,z,hE,hSl,hr1,hr2,hr3,hz,hEz,ht⟩:=replay hS hrefl htr hT I i (by omega)
    have hoo:ops[i]=o:=by rw[Array.getElem?_eq_getElem his] at ho;exact Option.some.inj ho
    have hdrop :(ops.toList.take n).drop i=o::(ops.toList.take n).drop (i+1):=by
     rw[List.drop_eq_getElem_cons (by simp;omega)];simp[hoo]
    rw[hdrop] at ht
    have hsel:∀cs b,o.op≠.select cs b:=fun cs b=>Region.noSelect_spec hS.sel i o cs b ho
    have hag:Agree (o.looksAt ops) (actN ops a0 r n) a:=by
     refine(agree_text hS hin ho hr1 fun j hj=>?_).trans (agree_now hS I hin hn ho).symm;obtain⟨rj,h1⟩:=hw8 j (dep_lt hS hj) (dep_waits hj);rw[(hr3 j rj (dep_lt hS hj) h1).1,val,h1];rfl
    -- the step, and that the world moves on
    have hstep:∃K:Act→World→Prop,stepG P ops R i o (actN ops a0 r n) w K∧∀a' w',K a' w'→M w w':=by
     rcases ht with⟨v,h1,_⟩ |⟨_,h1⟩
     ·exact⟨_,h1 w,fun a' w' hk=>by rw[hk.2];exact hrefl w⟩
     ·refine⟨_,h1 w I.now fun j hj hw=>?_,fun a' w' hk=>hk.1⟩
      obtain⟨rj,h2⟩:=hw8 j hj hw
      rcases(hr3 j rj hj h2).2 with⟨e,_⟩ |⟨e,_⟩
      ·rw[e];exact(I.begun j rj h2).2
      ·rw[e];exact I.now
    obtain⟨K,hst,hK⟩:=hstep;refine wpOp_mono (fun a' w' hk=>?_) (hst.wpOp (Q:=Q) ho hsel hag);obtain⟨v,rfl,hO⟩:=hk;have hM:M w w':=hK _ _ (hst.use (hO.agree hsel hag.symm));exact ih _ _ _ _ (by have:=cnt_set (lf:=lf) (by rw[I.size];exact his) hun n hin;omega) (I.step hS hrefl htr hin hi ho hw8 hO hM)
   ·-- what is left of the head needs no memory: it is taken at once
    obtain⟨i,hin,hi⟩:=hleast;obtain⟨hun,o,ho,hdep⟩:=mem_ready.1 hi;have his:=(Array.getElem?_eq_some_iff.1 ho).1
    have hZi:Z.getD i false=true:=by
     cases hv:Z.getD i false with
     | true=>rfl
     | false=>exact absurd ⟨i,hin,hv,hun⟩ hnz
    have hn:h i=none:=by
     have:=I.listed i hin
     rw[hun] at this;exact Option.not_isSome_iff_eq_none.1 (by rw[←this];simp)
    have hw8:=have8 i o hin ho hi;obtain⟨r,E,S,z,hE,hSl,hr1,hr2,hr3,hz,hEz,ht⟩:=replay hS hrefl htr hT I i (by omega)
    have hoo:ops[i]=o:=by rw[Array.getElem?_eq_getElem his] at ho;exact Option.some.inj ho
    have hdrop :(ops.toList.take n).drop i=o::(ops.toList.take n).drop (i+1):=by
     rw[List.drop_eq_getElem_cons (by simp;omega)];simp[hoo]
    rw[hdrop] at ht
    have hsel:∀cs b,o.op≠.select cs b:=fun cs b=>Region.noSelect_spec hS.sel i o cs b ho
    have hag:Agree (o.looksAt ops) (actN ops a0 r n) a:=by
     refine(agree_text hS hin ho hr1 fun j hj=>?_).trans (agree_now hS I hin hn ho).symm;obtain⟨rj,h1⟩:=hw8 j (dep_lt hS hj) (dep_waits hj);rw[(hr3 j rj (dep_lt hS hj) h1).1,val,h1];rfl
    rcases ht with⟨v,h1,hy,_⟩ |⟨h2,_⟩
    ·have hy':Yields P ops o v a:=(hy hZi).of_same (hag.exec hsel).symm hag.wanted.symm
     have hp:plainOp o.op=true:=by
      have:=hS.vop i o hin hZi ho
      revert this
      cases o.op <;> simp[vOp,plainOp]
     have hO:Out P ops R i o a w v w:=by
      unfold Out
      rcases hy' with⟨hw,hr⟩ |⟨hw,rfl⟩
      ·rw[if_pos hw,if_pos hp];exact .inl (hr w)
      ·rw[if_neg (by rw[hw];simp)];exact⟨rfl,rfl⟩
     refine wpAny_first ho (Region.noSelect_spec hS.sel) (fun c a w=>hQ c a o.dst v w) fuel lf a w (fun j oj hoj hji hju hno=>?_) hi hy' ?_
     ·refine hS.lone i j o oj hin hZi ho hoj hji ?_ ?_
      rotate_left
      ·rw[Bool.eq_false_iff]
       intro hd;unfold depB at hd;simp only[ho] at hd;obtain⟨e,he,hb⟩:=Array.any_eq_true'.1 hd;simp only[Bool.and_eq_true,beq_iff_eq] at hb;have h9:=hdep e he hb.1;rw[hb.2,getT I.size (Array.getElem?_eq_some_iff.1 hoj).1,hju] at h9;cases h9
      unfold depB;simp only[hoj];rw[Bool.eq_false_iff];intro hd;obtain⟨e,he,hb⟩:=Array.any_eq_true'.1 hd;simp only[Bool.and_eq_true,beq_iff_eq] at hb;exact hno e he hb.1 hb.2
     ·exact ih _ _ _ _ (by have:=cnt_set (lf:=lf) (by rw[I.size];exact his) hun n hin;omega) (I.step hS hrefl htr hin hi ho hw8 hO (hrefl w))
    ·rw[hZi] at h2;cases h2
theorem Mb_ (lf:Array Bool):∀k,cnt lf k≤k
 | 0=>le_ _
 | k+1=>by have:=Mb_ lf k;simp only[cnt];split <;> omega
theorem wpAny_rg {a:Act} {w:World} {l:List Oper} {listed:Array Bool} {fuel:Nat} (n:Nat) (Z Y:Array Bool) (M:World→World→Prop) (R:Nat→Array Value→World→Value→World→Prop)
  (hB:rgB l.toArray n Z Y=true) (hl :((List.range l.length).all fun j=>listed.getD j true==(decide (n≤j)&&Y.getD j false))=true) (hsz:listed.size=l.length) (hcl:closedB l.toArray listed=true) (hf:n+(tailL Y n (l.drop n)).length≤fuel)
  (hrefl:∀w,M w w) (htr:∀a b c,M a b→M b c→M a c) (hQ:∀c (a:Act) (d:Tmp) v w,Q (.panic c) ⟨a.tmps.setIfInBounds d v,a.defers⟩ w→Q (.panic c) a w)
  (h:tree P l.toArray n Z M R w (fun a' w'=>wpList P l.toArray Q (tailL Y n (l.drop n)) a' w') 0 (l.take n) a [] []):wpAny P .any l.toArray Q fuel listed a w:=by
 have hS:=shape_of hB;have hle:n≤l.toArray.size:=hS.le
 have hls:∀j,j<l.toArray.size→listed.getD j true =(decide (n≤j)&&Y.getD j false):=fun j hj=>by
  have:=List.all_eq_true.1 hl j (List.mem_range.2 (by simpa using hj))
  simpa using this
 refine rg_any (w0:=w) (a0:=a) (Y:=Y) hS hrefl htr (fun c a d v w hq=>by cases d with|none=>exact hq|some d=>exact hQ c a d v w hq) (by simpa using h) fuel listed a w (fun _=>none) ?_ ?_
 ·have:=Mb_ listed n
  simp only at hf ⊢
  omega
 ·refine⟨by simpa using hsz,fun j hj=>?_,fun j hj hjs=>?_,closed_of hcl,fun _ _=>rfl,?_,hrefl _,fun j r hj=>(by cases hj),fun j r hj=>(by cases hj),fun j r hj=>(by cases hj),fun i j ri rj hi=>(by cases hi)⟩
  ·rw[hls j (by omega)];simp;omega
  ·rw[hls j hjs];simp[hj]
  ·exact(actN_stop (h:=val fun _=>none) (k:=0) (fun _ _=>rfl) n (by omega)).symm
theorem tailL_none:∀(k:Nat) (l:List Oper),tailL #[] k l=l
 | _,[]=>rfl
 | k,o::l=>by simp[tailL,tailL_none (k+1) l]
theorem wp_region_rgZ {id:Nat} {a:Act} {w:World} {l:List Oper} (n:Nat) (Z:Array Bool) (M:World→World→Prop) (R:Nat→Array Value→World→Value→World→Prop)
  (hm:P.follows .mixedOrders=true) (hB:rgB l.toArray n Z #[]=true) (hrefl:∀w,M w w) (htr:∀a b c,M a b→M b c→M a c) (hQ:∀c (a:Act) (d:Tmp) v w,Q (.panic c) ⟨a.tmps.setIfInBounds d v,a.defers⟩ w→Q (.panic c) a w)
  (h:tree P l.toArray n Z M R w.drew (fun a' w'=>wpList P l.toArray Q (l.drop n) a' w') 0 (l.take n) a [] []) :(Code.region id l.toArray true).wp P Q a w:=by
 have hS:=shape_of hB;have hle:n≤l.toArray.size:=hS.le
 have hrep:∀j,j<l.length→(Array.replicate l.toArray.size false).getD j true=false:=fun j hj=>by
  simp[hj]
 refine wp_region_any hm (wpAny_rg (w:=w.drew) n Z #[] M R hB ?_ (by simp) ?_ ?_ hrefl htr hQ ?_)
 ·refine List.all_eq_true.2 fun j hj=>?_
  rw[hrep j (List.mem_range.1 hj)]
  simp
 ·refine List.all_eq_true.2 fun j hj=>?_
  have:j<l.length:=by simpa using hj
  split
  ·rfl
  ·simp[this]
 ·rw[tailL_none];simp;simp at hle;omega
 ·simpa [tailL_none] using h
variable {Qt:Act→World→Prop} {k:Nat} {o:Oper} {rest:List Oper} {E S:List World}
theorem tree_nil (h:∀w,M w0 w→RowKit.Hid (∀j,j<n→M (E.getD j w0) w)→RowKit.Hid (∀i j,i<n→j<n→i≠j→M (E.getD i w0) (S.getD j w0)∨M (E.getD j w0) (S.getD i w0))→Qt a w):tree P ops n Z M R w0 Qt k [] a E S:=
 fun w h0 h1 h2=>h w h0 (hh_ h1) (hh_ h2)
theorem tree_op (hZ:Z.getD k false=false) (hp:plainOp o.op=true) (h:∀w,M w0 w→RowKit.Hid (∀j,j<k→waitsB ops 8 k j=true→M (E.getD j w0) w) →
  wpList P ops (fun e a' w'=>e=.normal∧M w w'∧tree P ops n Z M R w0 Qt (k+1) rest a' (E++[w']) (S++[w])) [o] a w):tree P ops n Z M R w0 Qt k (o::rest) a E S:=by
 refine .inr ⟨hZ,fun w h0 h1=>?_⟩;have h2:=h w h0 (hh_ h1);unfold stepG;unfold wpList at h2
 split
 ·rename_i hw
  rw[if_pos hw] at h2
  rcases h2 with h2 |⟨_,⟨_,_,h3,_⟩⟩
  ·obtain⟨v,w',hg,hk⟩:=wp_gives hp (Oper.wp_mono (K':=fun a' w'=>M w w'∧tree P ops n Z M R w0 Qt (k+1) rest a' (E++[w']) (S++[w])) (fun a' w' hk=>hk.2) (show o.wp P a w (wpList P ops (fun e a' w'=>e=.normal∧M w w'∧tree P ops n Z M R w0 Qt (k+1) rest a' (E++[w']) (S++[w])) []) (fun _ _ _=>False) from by
    have hv:=plain_valued (P:=P) hp a.eval w;unfold Oper.wp at h2 ⊢;generalize (execOp a.eval o).run P w=r at *
    cases r with
    | ok m w'=>cases m <;> first|exact hv.elim|exact h2
    | halt x w'=>cases x <;> first|exact h2.elim|exact(nomatch h2.1)))
   exact gives_wp hg hk
  ·cases h3
 ·rename_i hw
  rw[if_neg hw] at h2;exact h2.2
theorem tree_call (hZ:Z.getD k false=false) (hp:plainOp o.op=false) (hg:o.guard=none) (h:∀w,M w0 w→RowKit.Hid (∀j,j<k→waitsB ops 8 k j=true→M (E.getD j w0) w) →
  callSpec P o a w (R k (argsOf o a) w)∧∀v w',R k (argsOf o a) w v w'→M w w'∧tree P ops n Z M R w0 Qt (k+1) rest (a.put o.dst v) (E++[w']) (S++[w])):tree P ops n Z M R w0 Qt k (o::rest) a E S:=by
 refine .inr ⟨hZ,fun w h0 h1=>?_⟩;unfold stepG;rw[if_pos (by simp[Region.wanted,hg]),if_neg (by simp[hp])];exact h w h0 (hh_ h1)
theorem tree_callG (hZ:Z.getD k false=false) (hp:plainOp o.op=false) (hg:Region.wanted o (yielded ops a.tmps)=true) (h:∀w,M w0 w→RowKit.Hid (∀j,j<k→waitsB ops 8 k j=true→M (E.getD j w0) w) →
  callSpec P o a w (R k (argsOf o a) w)∧∀v w',R k (argsOf o a) w v w'→M w w'∧tree P ops n Z M R w0 Qt (k+1) rest (a.put o.dst v) (E++[w']) (S++[w])):tree P ops n Z M R w0 Qt k (o::rest) a E S:=by
 refine .inr ⟨hZ,fun w h0 h1=>?_⟩;unfold stepG;rw[if_pos hg,if_neg (by simp[hp])];exact h w h0 (hh_ h1)
theorem tree_quiet:∀(m:Nat) {k:Nat} {l:List Oper} {a:Act} {E S:List World},((l.take m).all fun o=>plainOp o.op)=true→(Z.size=0∨((l.take m).all fun o=>vOp o.op)=true) →
  wpQuiet P ops (fun _=>True) (fun a'=>tree P ops n Z M R w0 Qt (k+(l.take m).length) (l.drop m) a' (E++List.replicate (l.take m).length w0) (S++List.replicate (l.take m).length w0)) (l.take m) a→tree P ops n Z M R w0 Qt k l a E S
 | 0,k,l,a,E,S,_,_,h=>by simpa [wpQuiet] using h
 | m+1,k,[],a,E,S,_,_,h=>by simpa [wpQuiet] using h
 | m+1,k,o::l,a,E,S,hp,hvv,h=>by
  simp only[List.take_succ_cons,List.all_cons,Bool.and_eq_true] at hp hvv
  have hE:∀X:List World,X++List.replicate ((l.take m).length+1) w0 =(X++[w0])++List.replicate (l.take m).length w0:=fun X=>by
   rw[List.replicate_succ];simp
  have hk:k+((l.take m).length+1) =(k+1)+(l.take m).length:=by omega
  simp only[List.take_succ_cons,List.drop_succ_cons,lc_,hE,hk] at h
  have hZ0:Z.getD k false=true→vOp o.op=true:=fun hz=>by
   rcases hvv with hv|hv
   ·simp[hv] at hz
   ·exact hv.1
  unfold wpQuiet at h
  split at h
  ·rename_i hw
   obtain⟨v,h1,h2⟩:=h
   have h4:∀w,vOp o.op=true→(execOp a.eval o).run P w=.ok (.value v) w:=fun w hvo=>by
    have h3:=h1 w trivial;have hv:=plain_valued (P:=P) hp.1 a.eval w;have hns:=noSkip (P:=P) hvo a.eval w;unfold Oper.quietAt at h3;generalize (execOp a.eval o).run P w=r at *
    cases r with
    | ok mm w'=>
     cases mm <;> first|exact hv.elim|skip
     case value u=>obtain⟨rfl,rfl⟩:=h3;rfl
     case skip=>exact absurd rfl (hns w')
    | halt x w'=>exact(h3:False).elim
   refine .inl ⟨v,fun w=>?_,fun hz=>.inl ⟨hw,fun w=>h4 w (hZ0 hz)⟩,tree_quiet m hp.2 (hvv.imp id fun x=>x.2) h2⟩;unfold stepG;rw[if_pos hw,if_pos hp.1];have h3:=h1 w trivial;have hv:=plain_valued (P:=P) hp.1 a.eval w;unfold Oper.quietAt at h3;unfold Oper.wp;generalize (execOp a.eval o).run P w=r at *
   cases r with
   | ok mm w'=>
    cases mm <;> first|exact hv.elim|skip
    case value u=>obtain⟨rfl,rfl⟩:=h3;exact⟨rfl,rfl⟩
    case skip=>obtain⟨rfl,rfl⟩:=h3;exact⟨rfl,rfl⟩
   | halt x w'=>exact(h3:False).elim
  ·rename_i hw
   refine .inl ⟨undef,fun w=>?_,fun _=>.inr ⟨by simpa using hw,rfl⟩,tree_quiet m hp.2 (hvv.imp id fun x=>x.2) h⟩;unfold stepG;rw[if_neg hw];exact⟨rfl,rfl⟩
end
end Rg
theorem tq_ {P:Program} {ops:Array Oper} {n:Nat} {Z:Array Bool} {M:World→World→Prop} {R:Nat→Array Value→World→Value→World→Prop} {w0:World} {Qt:Act→World→Prop} (m:Nat) {k k':Nat} {l l1 l2:List Oper} {a:Act} {E S E' S':List World}
  (h:wpQuiet P ops (fun _=>True) (fun a'=>Rg.tree P ops n Z M R w0 Qt k' l2 a' E' S') l1 a)
  (q1:l.take m=l1:=by simp only[ts_];exact rfl) (q2:l.drop m=l2:=by simp only[ts_];exact rfl) (qk:k+(l.take m).length=k':=by simp only[ts_,Nat.reduceAdd];exact rfl)
  (qE:E++List.replicate (l.take m).length w0=E':=by simp only[ts_];exact rfl) (qS:S++List.replicate (l.take m).length w0=S':=by simp only[ts_];exact rfl)
  (h1 :((l.take m).all fun o=>Rg.plainOp o.op)=true:=by rfl) (h2 :(Z.size=0∨((l.take m).all fun o=>Rg.vOp o.op)=true):=by first|exact Or.inl rfl|exact Or.inr rfl):Rg.tree P ops n Z M R w0 Qt k l a E S:=by
 subst q1;subst q2;subst qk;subst qE;subst qS;exact Rg.tree_quiet m h1 h2 h
theorem to_ {P:Program} {ops:Array Oper} {n:Nat} {Z:Array Bool} {M:World→World→Prop} {R:Nat→Array Value→World→Value→World→Prop} {w0:World} {Qt:Act→World→Prop} {k:Nat} {o:Oper} {l:List Oper} {a:Act} {E S:List World}
  (h:∀w,M w0 w→RowKit.Hid (∀j,j<k→Tail.waitsB ops 8 k j=true→M (E.getD j w0) w)→wpList P ops (fun e a' w'=>e=.normal∧M w w'∧Rg.tree P ops n Z M R w0 Qt (k+1) l a' (E++[w']) (S++[w])) [o] a w) (hZ:Z.getD k false=false:=by rfl) (hp:Rg.plainOp o.op=true:=by rfl):Rg.tree P ops n Z M R w0 Qt k (o::l) a E S:=Rg.tree_op hZ hp h
theorem ts_ {α:Type} :(∀l:List α,l.take 0=[])∧(∀n,([]:List α).take n=[])∧(∀n (a:α) l,(a::l).take (n+1)=a::l.take n)∧(∀l:List α,l.drop 0=l)∧(∀n (a:α) l,(a::l).drop (n+1)=l.drop n)∧(∀(a:α) l,(a::l).length=l.length+1)∧([]:List α).length=0∧(∀a:α,List.replicate 0 a=[])∧(∀n (a:α),List.replicate (n+1) a=a::List.replicate n a)∧(∀(a:α) l m,(a::l)++m=a::(l++m))∧∀m:List α,[]++m=m:=by simp[List.replicate]
theorem pt_ :(∀(a:Act) d v,a.put (some d) v={ a with tmps:=a.tmps.setIfInBounds d v })∧(∀(a:Act) v,a.put none v=a)∧(∀(l:List Value) i v,l.toArray.setIfInBounds i v =(l.set i v).toArray)∧(∀(a:Value) l v,(a::l).set 0 v=v::l)∧∀(a:Value) l n v,(a::l).set (n+1) v=a::l.set n v:=⟨fun _ _ _=>rfl,fun _ _=>rfl,fun _ _ _=>by simp,fun _ _ _=>rfl,fun _ _ _ _=>rfl⟩
theorem rn_ {P:Program} {Q:Exit→Act→World→Prop} {id:Nat} {a:Act} {w:World} {l:List Oper} (n:Nat) (R:Nat→Array Value→World→Value→World→Prop)
  (h:Rg.tree P l.toArray n #[] (fun w w'=>World.grownBy w w' none) R w.drew (fun a' w'=>wpList P l.toArray Q (l.drop n) a' w') 0 (l.take n) a [] [])
  (hm:P.follows .mixedOrders=true:=by kernel_rfl) (hB:Rg.rgB l.toArray n #[] #[]=true:=by kernel_rfl) (hQ:∀c (a:Act) (d:Tmp) v w,Q (.panic c) ⟨a.tmps.setIfInBounds d v,a.defers⟩ w→Q (.panic c) a w:=by exact fun _ _ _ _ _ h=>h) :(Code.region id l.toArray true).wp P Q a w:=
 Rg.wp_region_rgZ n #[] (fun w w'=>World.grownBy w w' none) R hm hB (fun w=>Ab_ w none) (fun _ _ _ h k=>Aa_ h k) hQ h
theorem tc_ {P:Program} {ops:Array Oper} {n:Nat} {Z:Array Bool} {M:World→World→Prop} {R:Nat→Array Value→World→Value→World→Prop} {w0:World} {Qt:Act→World→Prop} {k:Nat} {o:Oper} {l:List Oper} {a:Act} {E S:List World}
  (h:∀w,M w0 w→RowKit.Hid (∀j,j<k→Tail.waitsB ops 8 k j=true→M (E.getD j w0) w)→Rg.callSpec P o a w (R k (Rg.argsOf o a) w)∧∀v w',R k (Rg.argsOf o a) w v w'→M w w'∧Rg.tree P ops n Z M R w0 Qt (k+1) l (a.put o.dst v) (E++[w']) (S++[w]))
  (hZ:Z.getD k false=false:=by rfl) (hp:Rg.plainOp o.op=false:=by rfl) (hg:o.guard=none:=by rfl):Rg.tree P ops n Z M R w0 Qt k (o::l) a E S:=Rg.tree_call hZ hp hg h
theorem ra_ {P:Program} {Q:Exit→Act→World→Prop} {a:Act} {w:World} {l:List Oper} {f:Nat} {Y:Array Bool} (n:Nat) (lf:Array Bool)
  (h:Rg.tree P l.toArray n #[] (fun w w'=>World.grownBy w w' none) (fun _ _ _ _ _=>False) w (fun a' w'=>wpList P l.toArray Q (Rg.tailL lf n (l.drop n)) a' w') 0 (l.take n) a [] [])
  (hB:Rg.rgB l.toArray n #[] lf=true:=by kernel_rfl) (hl :((List.range l.length).all fun j=>Y.getD j true==(decide (n≤j)&&lf.getD j false))=true:=by kernel_rfl) (hsz:Y.size=l.length:=by rfl) (hcl:Tail.closedB l.toArray Y=true:=by kernel_rfl) (hf:n+(Rg.tailL lf n (l.drop n)).length≤f:=by simp only[Rg.tailL,List.drop];decide)
  (hQ:∀c (a:Act) (d:Tmp) v w,Q (.panic c) ⟨a.tmps.setIfInBounds d v,a.defers⟩ w→Q (.panic c) a w:=by exact fun _ _ _ _ _ h=>h):wpAny P .any l.toArray Q f Y a w:=
 Rg.wpAny_rg n #[] lf (fun w w'=>World.grownBy w w' none) (fun _ _ _ _ _=>False) hB hl hsz hcl hf (fun w=>Ab_ w none) (fun _ _ _ h k=>Aa_ h k) hQ h
theorem rz_ {P:Program} {Q:Exit→Act→World→Prop} {id:Nat} {a:Act} {w:World} {l:List Oper} (n:Nat) (Z:Array Bool) (R:Nat→Array Value→World→Value→World→Prop)
  (h:Rg.tree P l.toArray n Z (fun w w'=>World.grownBy w w' none) R w.drew (fun a' w'=>wpList P l.toArray Q (l.drop n) a' w') 0 (l.take n) a [] [])
  (hm:P.follows .mixedOrders=true:=by kernel_rfl) (hB:Rg.rgB l.toArray n Z #[]=true:=by kernel_rfl) (hQ:∀c (a:Act) (d:Tmp) v w,Q (.panic c) ⟨a.tmps.setIfInBounds d v,a.defers⟩ w→Q (.panic c) a w:=by exact fun _ _ _ _ _ h=>h) :(Code.region id l.toArray true).wp P Q a w:=
 Rg.wp_region_rgZ n Z (fun w w'=>World.grownBy w w' none) R hm hB (fun w=>Ab_ w none) (fun _ _ _ h k=>Aa_ h k) hQ h
end
section
open Go.RowKit
theorem Py_ {w:World} {st e ty:TypeId} {z:Value} {size bytes:Nat} (E:Elt st e z size bytes) {base g:Nat} (hown:w.ownsRow base e size (.slice (some ⟨g,0,none⟩) 0 0) 0 [])
  {A:Option Addr} {m c:Nat} {news:List Value} (hr:Rd w size (.slice A m c) m news) (h1:∀u∈news,u.oneCell'=true) (h63:m≤maxLen) (hb:m*bytes≤140737488355328) (hbase:base≤w.heap.size) :
  ∃v' w',(Builtin.append_ #[st,st] ty #[.slice (some ⟨g,0,none⟩) 0 0,.slice A m c]).run prog w=.ok v' w'∧w'.ownsRow base e size v' m news∧w.grownBy w' none∧Lies (.slice (some ⟨g,0,none⟩) 0 0) v' w.heap.size:=by
 obtain⟨i,hi,hz0,hz1,hz2⟩:=info_parts E.info
 rcases Nat.eq_zero_or_pos m with rfl|hm
 ·have hn:news=[]:=List.eq_nil_of_length_eq_zero (by simpa using hr.1)
  subst hn
  have key:∀ad:Addr,∃v' w',(Builtin.append_ #[st,st] ty #[.slice (some ⟨g,0,none⟩) 0 0,.slice (some ad) 0 c]).run prog w=.ok v' w'∧v'=.slice (some ⟨g,0,none⟩) 0 0∧w'=w:=by
   intro ad;refine⟨_,_,?_,rfl,rfl⟩
   simp[Builtin.append_,run_underlying E.ht,sizeOf,typeInfo,hi,Builtin.lenOf,Builtin.firstCells,storeCells,loadCells,loadCellsFrom]
  cases A with
  | none=>exact⟨_,w,Ff_ E hown c,hown,World.grownBy.refl w _,.inl rfl⟩
  | some ad=>
   obtain⟨v',w',h,rfl,rfl⟩:=key ad;exact⟨_,_,h,hown,World.grownBy.refl _ _,.inl rfl⟩
 ·rcases hr.2.2 with⟨rfl,_⟩ |⟨g',off,cap,hv,_,hc⟩
  ·omega
  ·cases hv
   obtain⟨v',w',hrun,h2,h3⟩:=run_append_arg_grows (P:=prog) w st ty e i z size bytes E.ht hi hz0 hz1 hz2 E.cells E.pos ⟨g,0,none⟩ 0 0 [] (by simp) (by simp) ⟨g',off,none⟩ m c news hr.1 (fun j u hu=>by
    have e :(⟨g',off,none⟩:Addr).add j =⟨g',off+j,none⟩:=by unfold Addr.add;split <;> simp_all
    rw[e];exact hc j u hu) (by omega) (by simpa using h63) (by simpa using hb)
   simp only[Nat.zero_add,List.nil_append] at h2;refine⟨v',w',hrun,⟨h2.1,h2.2.imp id fun⟨g3,cap3,cur3,e1,e2,e3⟩=>⟨g3,cap3,cur3,e1,lt_ hbase e2,e3⟩⟩,h3,?_⟩
   rcases h2.2 with⟨_,h0⟩ |⟨g2,cap2,cur,rfl,hb2,_⟩
   ·omega
   ·exact .inr ⟨g2,rfl,hb2⟩
section
variable {α:Type} {f:α→List Value} {st e:TypeId} {z:Value} {size bytes:Nat} {w:World} {B:Nat} {g:Nat} {l2:List α} {A:Option Addr} {m c:Nat}
variable {o:Oper} {a:Act} {ops:Array Oper} {rest:List Oper} {Q:Exit→Act→World→Prop}
theorem Sz_ (E:Elt st e z size bytes) (h1:∀u∈cellsOf f l2,u.oneCell'=true) (hown:Own f size e B w (.slice (some ⟨g,0,none⟩) 0 0) []) (hr:RdL f size w (.slice A m c) l2) (hm:m=l2.length) (hb:l2.length*bytes≤140737488355328) (h63:l2.length≤9223372036854775807) (hbase:B≤w.heap.size)
  (s x:Operand) (ho:o.op=.call { callee:=.builtin .append,args:=#[s,x],argTypes:=#[st,st] }) (hs:a.eval s=.slice (some ⟨g,0,none⟩) 0 0) (hx:a.eval x=.slice A m c) {K:Act→World→Prop}
  (h:∀v' w',Own f size e B w' v' l2→w.grownBy w' none→Lies (.slice (some ⟨g,0,none⟩) 0 0) v' w.heap.size→K (a.put o.dst v') w'):o.wp prog a w K Q:=by
 subst hm;obtain⟨v',w',hrun,h2,h3,h4⟩:=Py_ (ty:=o.type) E hown hr h1 (by unfold maxLen;exact h63) hb hbase;unfold Oper.wp execOp;simp only[ho,resolve,invoke,builtin,Sem.run_bind,Sem.run_pure,Result.andThen_ok,List.map_toArray,List.map_cons,List.map_nil,hs,hx,hrun];exact h v' w' h2 h3 h4
theorem a6_ (E:Elt st e z size bytes) (h1:∀u∈cellsOf f l2,u.oneCell'=true) (hown:Own f size e B w (.slice (some ⟨g,0,none⟩) 0 0) []) (hr:RdL f size w (.slice A m c) l2) (hm:m=l2.length) (hb:l2.length*bytes≤140737488355328) (h63:l2.length≤9223372036854775807) (hbase:B≤w.heap.size)
  (hgd:o.guard=none) (s x:Operand) (ho:o.op=.call { callee:=.builtin .append,args:=#[s,x],argTypes:=#[st,st] }) (hs:a.eval s=.slice (some ⟨g,0,none⟩) 0 0) (hx:a.eval x=.slice A m c)
  (h:∀v' w',Own f size e B w' v' l2→w.grownBy w' none→Lies (.slice (some ⟨g,0,none⟩) 0 0) v' w.heap.size→wpList prog ops Q rest (a.put o.dst v') w'):wpList prog ops Q (o::rest) a w:=
 wpList_plain hgd fun _ hK=>Sz_ E h1 hown hr hm hb h63 hbase s x ho hs hx fun v' w' h2 h3 h4=>hK _ _ (h v' w' h2 h3 h4)
theorem A5_ (E:Elt st e z size bytes) (h1:OneF f) (hown:Own f size e B w (.slice (some ⟨g,0,none⟩) 0 0) []) (hr:RdL f size w (.slice A m c) l2) (hm:m=l2.length) (hb:l2.length*bytes≤140737488355328) (h63:l2.length≤9223372036854775807) (hbase:B≤w.heap.size)
  {s x:Operand} (h:∀v' w',Own f size e B w' v' l2→w.grownBy w' none→Lies (.slice (some ⟨g,0,none⟩) 0 0) v' w.heap.size→wpList prog ops Q rest (a.put o.dst v') w') (hgd:o.guard=none:=by rfl) (ho:o.op=.call { callee:=.builtin .append,args:=#[s,x],argTypes:=#[st,st] }:=by rfl) (hs:a.eval s=.slice (some ⟨g,0,none⟩) 0 0:=by rfl) (hx:a.eval x=.slice A m c:=by rfl):wpList prog ops Q (o::rest) a w:=
 a6_ E (h1.cells l2) hown hr hm hb h63 hbase hgd s x ho hs hx h
end
theorem Blk.one {α:Type} {f:α→List Value} {size:Nat} {w:World} {g:Nat} (h:Blk w g cs) (hf:∀x,(f x).length=size) (y:α) (hcs:cs.toList=f y):RdL f size w (.slice (some ⟨g,0,none⟩) 1 1) [y]:=by
 refine⟨by simp[cellsOf,hf],by simp,.inr ⟨g,0,1,rfl,h.lt,fun j u hu=>?_⟩⟩;simp only[cellsOf,List.flatMap_cons,List.flatMap_nil,List.append_nil,←hcs] at hu;rw[Nat.zero_add,h.cell j]
 simpa using hu
end
section
open Go.RowKit
def RetOwn {α:Type} (f:α→List Value) (s:Nat) (e:TypeId) (l:List α) (w:World) (en:Ending) (w':World):Prop:=
 ∃v,en=.returned v∧Own f s e w.heap.size w' v l∧w.grownBy w' none
end
section
def rangeI (n:Nat):List Int:=(List.range n).map (fun i:Nat=>(i:Int))
theorem S4_ (n:Nat) :(rangeI n).length=n:=by simp[rangeI]
theorem E9_ (n:Nat):rangeI (n+1)=rangeI n++[(n:Int)]:=by simp[rangeI,List.range_succ]
end
section
open Go.RowKit Go.Sort
theorem Ca_:Elt 27 3 (.int .i64 0) 1 8:=⟨underlying27,by kernel_rfl,rfl,by decide⟩
theorem B9_:OneF intF:=by intro x u hu;simp[intF] at hu;subst hu;rfl
end
section
open Go.RowKit
attribute [local go_sem ↓] Ag_
attribute [local go_sem] Ah_
def setN (h m:Int) (n:Nat):List Int:=(rangeI n).map (fun i=>(h+i)%m)
theorem Fu_ (h m:Int) (n:Nat) :(setN h m n).length=n:=by simp[setN,S4_]
theorem Vd_ (h m:Int) (n:Nat):setN h m (n+1)=setN h m n++[(h+n)%m]:=by simp[setN,E9_]
def setF (c:Cfg) (t:List Int) (k:ByteArray):List Int:=setN (Xf_ c t k) c.Shards c.Spread.toNat
theorem T5_ (c:Cfg) (h:Int) (w:World) (hc:1≤c.Shards∧c.Shards≤8) (hs:1≤c.Spread∧c.Spread≤c.Shards) (hh:0≤h∧h≤8):Calls prog 130 #[c.val,.int .i64 h] w (RetOwn intF 1 3 (setN h c.Shards c.Spread.toNat) w):=by
 obtain⟨h1,h2⟩:=hc;obtain⟨h3,h4⟩:=hs;obtain⟨h5,h6⟩:=hh;obtain⟨N,hN⟩:∃N,c.Spread.toNat=N:=⟨_,rfl⟩
 have hN1:c.Spread≤N:=by omega
 have hN2:N≤8:=by omega
 have hN3:∀k:Nat,k≤N→c.Spread≤(k:Int)→k=N:=by omega
 have HN:=hh_ hN3;rw[hN];clear hN hN3
 go_enter func130,ntmps130
 go_upto_region 3 with(refine At_ rfl _ rfl c rfl ?_;intro w1 B1 G1 z1)
 go_loopw [5,6] (fun s5 s6 wr=>∃k:Nat,k≤N∧s6=.int .i64 k∧Own intF 1 3 w1.heap.size wr s5 (setN h c.Shards k)∧w1.heap.size≤wr.heap.size∧w.grownBy wr none∧BoxAt wr w.heap.size c) (fun _ s6 _=>N-(RowKit.intOf s6).toNat)
 case atStart=>exact⟨0,zl_ _,rfl,Own.nil _ _ _ _ _,le_ _,G1,B1⟩
 case round=>
  obtain⟨k,hk,rfl,hL,hsz,hg,hB⟩:=hrel;have hrl:=Fu_ h c.Shards k;have b1:=hB.cell
  by_cases hlt :(k:Int)<c.Spread
  ·have hb1 :((setN h c.Shards k).length+1)*8≤140737488355328:=by omega
   have hb2 :(setN h c.Shards k).length+1≤9223372036854775807:=by omega
   have HS:=hh_ (Vd_ h c.Shards k);have hz :(c.Shards==0)=false:=bf_ (by omega)
   have hkN:k<N:=by omega
   clear hrl
   go_wp2_with (at_builtin;refine A9_ Ca_ B9_ Bc_ hL ((h+k)%c.Shards) hb1 hb2 hsz (by rfl) ?_;intro v1 w1 o1 g1 l1)
   have hB2:=hB.kept g1 (fun e=>by have:=(hL.lt _ e).1;omega);refine⟨⟨k+1,by omega,by go_num,by rw[HS.out];exact o1,lt_ hsz g1.size,Aq_ hg hL (Nat.le_of_lt z1) g1,hB2⟩,by simp[RowKit.intOf];omega⟩
  ·obtain rfl:k=N:=HN.out k hk (by omega)
   clear hk HN hN1
   go_wp2_with fail
   go_ret
   exact⟨_,rfl,hL.base (fun k hk=>lt_ (Nat.le_of_lt z1) (hL.lt k hk).1),hg⟩
theorem Q6_ (c:Cfg) (t:List Int) (k:ByteArray) (h:1≤c.Shards):0≤Xf_ c t k∧Xf_ c t k<c.Shards:=G9_ _ _ h
theorem b6_ (c:Cfg) (t:List Int) (k:ByteArray) (w:World) (h:RCfg w c t) (hk:k.size≤9223372036854775807):Calls prog 121 #[c.val,.string k] w (RetOwn intF 1 3 (setF c t k) w):=by
 have H:=hh_ h;obtain⟨h1,h2⟩:=Q6_ c t k h.shards.1;have h3:=h.shards;clear h
 go_enter func121,ntmps121
 go_upto_region 3 with(first |(refine At_ rfl _ rfl c rfl ?_;intro w1 B1 G1 z1) |(refine An_ rfl _ rfl _ rfl c (by assumption) ?_) |(go_at_call 110;refine(F6_ c t _ (H.out.same G1)).mono ?_;rintro e w2 ⟨rfl,G2⟩))
 have G:=Aa_ G1 G2;obtain⟨r1,r2,r3⟩:=(B1.same G2).re
 have r4:=Bn_ (w:=w2) fun w' hg=>dp_ c t k w' (H.out.same (Aa_ G hg)) hk
 (refine Tail.wp_region_tail_grown 4 (by kernel_rfl) (by kernel_rfl) ?_;simp only[List.take,List.drop];(repeat(go_big_quiet_step (with_reducible exact r4 _ _)));refine wn_ ?_;rintro _ ⟨⟨d5,os5⟩,rfl⟩)
 have G5:=Aa_ G (A3_ w2 d5 os5);clear r1 r2 r3 r4;generalize Go.Sort.grow (redrawn w2 d5) os5=w5 at *
 go_wp2_with (go_at_call 130;refine(T5_ c _ _ h3 H.out.spread ⟨h1,by omega⟩).mono ?_;rintro e w6 ⟨v,rfl,o6,G6⟩)
 go_ret
 exact⟨v,rfl,o6.base (fun k hk=>lt_ G5.size (o6.lt k hk).1),Aa_ G5 G6⟩
end
section
open Go.RowKit
attribute [local go_sem ↓] Ag_
attribute [local go_sem] Ah_
structure Jq_ (w:World) (v:Value) (vs:List Value) (rows:List (List Int)):Prop where
 rd:RdL valF 1 w v vs
 len:vs.length=rows.length
 all:∀(i:Nat) u row,vs[i]?=some u→rows[i]?=some row→RdL wordF 1 w u row
theorem Jq_.same {v:Value} {vs:List Value} {rows:List (List Int)} (h:Jq_ w v vs rows) (hg:w.grownBy w' none):Jq_ w' v vs rows:=
 ⟨h.rd.same hg,h.len,fun i u row h1 h2=>(h.all i u row h1 h2).same hg⟩
theorem SumRd.rowsRd {s:Summ} (h:SumRd w s):Jq_ w s.vr s.vs s.rows:=⟨h.vs,h.len,h.rows⟩
def RowsOk (rows:List (List Int)):Prop:=∀row∈rows,(0<row.length∧row.length≤4096)∧∀x∈row,W64 x
def Jh_ (t:List Int) (s:Int) (k:ByteArray) (i:Nat) (row:List Int):Int:=row.getD (slotF (hashF t (seedF s i) k) row.length).toNat 0
def estI (t:List Int) (s:Int) (k:ByteArray) (rows:List (List Int)):Nat→Int
 | 0=>18446744073709551615
 | n+1=>min (estI t s k rows n) (Jh_ t s k n (rows.getD n []))
def estF (t:List Int) (s:Int) (k:ByteArray) (rows:List (List Int)):Int:=estI t s k rows rows.length
theorem Yb_ {l:List Int} (h:∀x∈l,W64 x) (i:Nat):W64 (l.getD i 0):=by
 rw[List.getD_eq_getElem?_getD]
 cases hi:l[i]? with
 | none=>exact D3_
 | some x=>exact h x (mo_ hi)
theorem Yn_:W64 18446744073709551615:=⟨by omega,by omega⟩
theorem P9_ {a b:Int} (h:W64 a) (h':W64 b):W64 (min a b):=by unfold W64 at *;omega
theorem eh_ {s:Int} {rows:List (List Int)} (h:RowsOk rows) (n:Nat):W64 (estI t s k rows n):=by
 induction n with
 | zero=>exact Yn_
 | succ n ih=>
  refine P9_ ih ?_;unfold Jh_;refine Yb_ (fun x hx=>?_) _;rw[List.getD_eq_getElem?_getD] at hx
  cases hi:rows[n]? with
  | none=>rw[hi] at hx;simp at hx
  | some row=>rw[hi] at hx;exact(h row (mo_ hi)).2 x hx
theorem cm_ (v:Value) (vs:List Value) (rows:List (List Int)) (tv:Value) (t:List Int) (s:Int) (k:ByteArray) (w:World) (h:Jq_ w v vs rows) (ho:RowsOk rows) (hn:0<rows.length) (hn2:rows.length≤1000)
  (ht:RdL wordF 1 w tv t) (htl:t.length=16) (hs:W64 s) (hk:k.size≤9223372036854775807) :
  Calls prog 199 #[v,tv,.int .u64 s,.string k] w (RetWord (estF t s k rows) w):=by
 obtain⟨a,c,rfl⟩:=h.rd.shape;obtain⟨ta,tc,rfl⟩:=ht.shape;rw[htl] at ht ⊢;have H:=hh_ h;have HT:=hh_ ht;have hlen:=h.len;have Hlen:=hh_ hlen;have Hf:=hh_ (p:=estF t s k rows=estI t s k rows rows.length) rfl
 have hnv:0<vs.length:=by omega
 have hnv2:vs.length≤1000:=by omega
 have hz :((vs.length:Int)==0)=false:=bf_ (by omega);clear h ht hlen
 go_enter func199,ntmps199
 go_wp2_with (go_at_call 147;refine(Hd_ ta tc _).mono ?_;rintro e w' ⟨rfl,rfl⟩)
 go_loopw [9,22] (fun s9 s22 wr=>∃i:Nat,i≤vs.length∧s22=.int .i64 i∧s9=.int .u64 (estI t s k rows i)∧w.grownBy wr none) (fun _ s22 _=>vs.length-(RowKit.intOf s22).toNat)
 case atStart=>exact⟨0,zl_ _,rfl,rfl,Ab_ _ _⟩
 case round=>
  obtain⟨i,hi,rfl,rfl,hg⟩:=hrel
  by_cases hiv:i<vs.length
  ·have hlt:i<rows.length:=by have:=Hlen.out;omega
   obtain⟨g,off,cap,hv,hgl,c1⟩:=(H.out.same hg).rd.one O7_ hiv;have hrow:=ho _ (mg_ hlt);have hR:=(H.out.same hg).all i vs[i] rows[i] (gq_ hiv) (gq_ hlt);have HE:=hh_ (p:=estI t s k rows (i+1)=min (estI t s k rows i) (Jh_ t s k i rows[i])) (by simp[estI,List.getD_eq_getElem?_getD,gq_ hlt]);generalize vs[i]=u at *;generalize rows[i]=row at *;obtain⟨ra,rc,rfl⟩:=hR.shape;obtain⟨⟨hr0,hr1⟩,_⟩:=hrow;have hrz :((row.length:Int)==0)=false:=bf_ (by omega);obtain⟨hb0,hb1⟩:=G9_ (hashF t (seedF s i) k) row.length (by omega)
   have hb2 :(slotF (hashF t (seedF s i) k) row.length).toNat<row.length:=by omega
   obtain⟨rg,roff,rcap,rv,hrg,c2⟩:=hR.one Cs_ hb2;have HC:=hh_ (p:=Jh_ t s k i row=row[(slotF (hashF t (seedF s i) k) row.length).toNat]) (by simp[Jh_,List.getD_eq_getElem?_getD,gq_ hb2]);cases rv;have hw1:=Ls_ t (seedF s i) k;cases hv;generalize row[(slotF (hashF t (seedF s i) k) row.length).toNat]=y at *;generalize hhe:hashF t (seedF s i) k=hh at *;have Hhe:=hh_ hhe;clear hhe;generalize hqe:slotF hh row.length=q at *;have Hqe:=hh_ hqe;clear hqe
   go_upto_region 9 with fail
   go_wp2_with (first |(go_at_call 181;refine(ce_ _ t s i k _ (HT.out.same hg) htl hs (by omega) (by omega) hk).mono ?_;rw[Hhe.out];rintro e w2 ⟨rfl,G2⟩;have c3:=((Am_ G2).1 rg (roff+q.toNat) hrg (by simp)).trans c2) |(go_at_call 151;refine(Ol_ hh row.length _ hw1 (by omega) (by omega)).mono ?_;rw[Hqe.out];rintro e w' ⟨rfl,rfl⟩))
   exact⟨⟨i+1,by omega,by go_num,by rw[HE.out,HC.out],Aa_ hg G2⟩,by simp[RowKit.intOf];omega⟩
  ·have he:estI t s k rows i=estF t s k rows:=by rw[Hf.out];congr 1;have:=Hlen.out;omega
   rw[he];clear he
   go_wp2_with fail
   go_ret
   exact Cl_ rfl hg
def sEstF (c:Cfg) (t:List Int) (s:Summ) (k:ByteArray):Int:=if s.rows.length=0 then s.total else estF t c.Seed k s.rows
theorem Qj_ {c:Cfg} {s:Summ} (h:W64 s.total) (ho:RowsOk s.rows) (k:ByteArray):W64 (sEstF c t s k):=by
 unfold sEstF;split
 ·exact h
 ·exact eh_ ho _
theorem f2_ (c:Cfg) (t:List Int) (s:Summ) (k:ByteArray) (w:World) (h:RCfg w c t) (hR:SumRd w s) (ho:RowsOk s.rows) (hn:s.rows.length≤1000) (hk:k.size≤9223372036854775807) :
  Calls prog 188 #[c.val,sumV s.total s.ve s.untr s.vr,.string k] w (RetWord (sEstF c t s k) w):=by
 obtain⟨tot,ve,un,vr,es,vs,rows⟩:=s;obtain⟨a1,k1,e1⟩:=hR.es.shape;obtain⟨a2,k2,e2⟩:=hR.vs.shape;have hlen:=hR.len
 simp only at hlen e1 e2 hn ho ⊢
 subst e1;subst e2;have H:=hh_ h;have HR:=hh_ hR.rowsRd;have hs:=h.seed;have htl:=h.tlen;obtain⟨ta,tk,hta⟩:=h.shape;have Hta:=hh_ hta
 by_cases h0:rows.length=0
 ·have hx:sEstF c t ⟨tot,.slice a1 es.length k1,un,.slice a2 vs.length k2,es,vs,rows⟩ k=tot:=by unfold sEstF;rw[if_pos h0]
  have hz :((vs.length:Int)==0)=true:=by rw[beq_iff_eq];omega
  have Hx:=hh_ hx;clear hx h0 hlen hR h htl hta
  go_enter func188,ntmps188
  go_wp2_with (refine At_ rfl _ rfl c rfl ?_;intro w1 B1 G1 z1)
  go_ret
  exact Cl_ Hx.out (Ad_ G1 _)
 ·have hx:sEstF c t ⟨tot,.slice a1 es.length k1,un,.slice a2 vs.length k2,es,vs,rows⟩ k=estF t c.Seed k rows:=by unfold sEstF;rw[if_neg h0]
  have hz :((vs.length:Int)==0)=false:=bf_ (by omega);have Hx:=hh_ hx;have Hlen:=hh_ hlen;have Htl:=hh_ htl;clear hx hlen hR h htl hta
  go_enter func188,ntmps188
  go_wp2_with (first |(refine At_ rfl _ rfl c rfl ?_;intro w1 B1 G1 z1;have b2:=fun o=>(B1.same (ga_ w1 o none)).cell) |(go_at_call 199;refine(cm_ _ vs rows c.Table t c.Seed k _ (HR.out.same (Ad_ G1 _)) ho (by omega) hn (H.out.same (Ad_ G1 _)).table Htl.out hs hk).mono ?_;rintro e w3 ⟨rfl,G3⟩))
  go_ret
  exact Cl_ Hx.out (Aa_ (Ad_ G1 _) G3)
end
section
open Go.RowKit
attribute [local go_sem ↓] Ag_
attribute [local go_sem] Ah_
def Fz_ (k:ByteArray) (e:Ent):Bool:=e.key.toList==k.toList
theorem bj_ {es:List Ent} (h:∀j,(hj:j<es.length)→Fz_ k es[j]=false):es.find? (Fz_ k)=none:=by
 rw[List.find?_eq_none];intro x hx;obtain⟨j,hj,rfl⟩:=List.mem_iff_getElem.1 hx
 simp[h j hj]
theorem Yr_ {es:List Ent} {n:Nat} (hn:n<es.length) (h:∀j,(hj:j<n)→Fz_ k (es[j]'(by omega))=false) (hk:Fz_ k es[n]=true):es.find? (Fz_ k)=some es[n]:=by
 rw[List.find?_eq_some_iff_getElem];exact⟨hk,n,hn,rfl,fun j hj=>by simp[h j hj]⟩
theorem RdL.ent {v:Value} {l:List Ent} (h:RdL entF 3 w v l) {k:Nat} (hk:k<l.length):∃g off cap,v=.slice (some ⟨g,off,none⟩) l.length cap∧g<w.heap.size ∧
  w.cell? ⟨g,off+k*3,none⟩=some (.string l[k].key)∧w.cell? ⟨g,off+k*3+1,none⟩=some (.int .u64 l[k].own)∧w.cell? ⟨g,off+k*3+2,none⟩=some (.int .u64 l[k].slack):=by
 obtain⟨g,off,cap,hv,hg,hc⟩:=h.at_ Az_ hk;exact⟨g,off,cap,hv,hg,hc 0 _ rfl,hc 1 _ rfl,hc 2 _ rfl⟩
def bndE (es:List Ent) (un:Int) (k:ByteArray):Int×Int:=match es.find? (Fz_ k) with
 | some e=>(e.own,satA e.own e.slack)
 | none=>(0,un)
def Jl_ (es:List Ent) (k:ByteArray):Bool:=(es.find? (Fz_ k)).isSome
def P3_ (c:Cfg) (t:List Int) (s:Summ) (k:ByteArray):Value:=
 .tuple #[bndV (min (bndE s.es s.untr k).1 (sEstF c t s k)) (min (bndE s.es s.untr k).2 (sEstF c t s k)),.bool (Jl_ s.es k)]
theorem e3_ {es:List Ent} {e:Ent} (un:Int) (h:es.find? (Fz_ k)=some e):bndE es un k =(e.own,satA e.own e.slack)∧Jl_ es k=true:=by
 unfold bndE Jl_;rw[h];exact⟨rfl,rfl⟩
theorem a3_ {es:List Ent} (un:Int) (h:es.find? (Fz_ k)=none):bndE es un k =(0,un)∧Jl_ es k=false:=by
 unfold bndE Jl_;rw[h];exact⟨rfl,rfl⟩
theorem V9_ (c:Cfg) (t:List Int) (s:Summ) (k:ByteArray) (w:World) (h:RCfg w c t) (hR:SumRd w s) (hW:SumW s) (ho:RowsOk s.rows) (hn:s.rows.length≤1000) (hk:k.size≤9223372036854775807) :
  Calls prog 167 #[c.val,sumV s.total s.ve s.untr s.vr,.string k] w (Cq_ (P3_ c t s k) w):=by
 have Hest:=hh_ fun w' hg=>f2_ c t s k w' (h.same hg) (hR.same hg) ho hn hk
 have hwe:=Qj_ (c:=c) (t:=t) hW.total ho k;unfold P3_;generalize sEstF c t s k=est at *;obtain⟨tot,ve,un,vr,es,vs,rows⟩:=s;obtain⟨a1,k1,e1⟩:=hR.es.shape;obtain⟨a2,k2,e2⟩:=hR.vs.shape
 simp only at e1 e2 hn ho Hest ⊢
 subst e1;subst e2;have HE:=hh_ hR.es;have HW:=hh_ hW.es;have hwu:=hW.untr;have hm:=hR.es.2.1;clear hR hW ho hn h
 go_enter func167,ntmps167
 go_upto_region 2 with(refine At_ rfl _ rfl c rfl ?_;intro w1 B1 G1 z1)
 have BS:Blk (((w1.alloc (.cells #[.int .u64 tot,.slice a1 es.length k1,.int .u64 un,.slice a2 vs.length k2] 129)).alloc (.cells #[.int .u64 0,.int .u64 0] 84))) w1.heap.size #[.int .u64 tot,.slice a1 es.length k1,.int .u64 un,.slice a2 vs.length k2]:=bk_;have BR:Blk (((w1.alloc (.cells #[.int .u64 tot,.slice a1 es.length k1,.int .u64 un,.slice a2 vs.length k2] 129)).alloc (.cells #[.int .u64 0,.int .u64 0] 84))) (w1.heap.size+1) #[.int .u64 0,.int .u64 0]:=bk_;have K2:w.grownBy (((w1.alloc (.cells #[.int .u64 tot,.slice a1 es.length k1,.int .u64 un,.slice a2 vs.length k2] 129)).alloc (.cells #[.int .u64 0,.int .u64 0] 84))) none:=gw_;have B2:BoxAt (((w1.alloc (.cells #[.int .u64 tot,.slice a1 es.length k1,.int .u64 un,.slice a2 vs.length k2] 129)).alloc (.cells #[.int .u64 0,.int .u64 0] 84))) w.heap.size c:=(B1.same (ga_ _ _ _)).same (ga_ _ _ _);clear B1 G1;generalize (w1.alloc _).alloc _=w2 at *;generalize w1.heap.size=b at *
 go_loopw [13] (fun s13 wr=>∃j:Nat,j≤es.length∧s13=.int .i64 j∧(∀i,(hi:i<es.length)→i<j→Fz_ k es[i]=false)∧Blk wr b #[.int .u64 tot,.slice a1 es.length k1,.int .u64 un,.slice a2 vs.length k2]∧Blk wr (b+1) #[.int .u64 0,.int .u64 0]∧BoxAt wr w.heap.size c∧w.grownBy wr none) (fun s13 _=>es.length-(RowKit.intOf s13).toNat)
 case atStart=>exact⟨0,zl_ _,rfl,by intro i _ h;omega,BS,BR,B2,K2⟩
 case round=>
  clear BS BR B2 K2;obtain⟨j,hj,rfl,hall,BS,BR,B2,K2⟩:=hrel;have Hall:=hh_ hall;clear hall
  by_cases hjl:j<es.length
  ·obtain⟨g,off,cap,hv,hgl,c0,c1,c2⟩:=(HE.out.same K2).ent hjl
   cases hv;obtain⟨hw1,hw2⟩:=HW.out _ (mg_ hjl);cases hq:Fz_ k es[j]
   ·have Hq:=hh_ hq
    have hq2 :(es[j].key.toList==k.toList)=false:=hq;clear hq;generalize hee:es[j]=en at hq2 c0 c1 c2;clear hee
    go_wp2_with fail
    refine⟨⟨j+1,by omega,by go_num,?_,BS.same (ga_ _ _ _),BR.same (ga_ _ _ _),B2.same (ga_ _ _ _),Ad_ K2 _⟩,by simp[RowKit.intOf];omega⟩;intro i hi hij
    by_cases e:i=j
    ·subst e;exact Hq.out
    ·exact Hall.out i hi (by omega)
   ·have Hq:=hh_ (e3_ un (Yr_ hjl (fun i hi=>Hall.out i (by omega) hi) hq))
    have hq2 :(es[j].key.toList==k.toList)=true:=hq;clear hq;generalize hee:es[j]=en at *;clear hee
    go_upto_region 5 with fail
    have BE:Blk (wr.alloc (.cells #[.string en.key,.int .u64 en.own,.int .u64 en.slack] 224)) wr.heap.size #[.string en.key,.int .u64 en.own,.int .u64 en.slack]:=bk_;replace BS:=BS.same (ga_ wr (.cells #[.string en.key,.int .u64 en.own,.int .u64 en.slack] 224) none);replace BR:=BR.same (ga_ wr (.cells #[.string en.key,.int .u64 en.own,.int .u64 en.slack] 224) none);replace B2:=B2.same (ga_ wr (.cells #[.string en.key,.int .u64 en.own,.int .u64 en.slack] 224) none);replace K2:=Ad_ K2 (.cells #[.string en.key,.int .u64 en.own,.int .u64 en.slack] 224);clear c0 c1 c2 hgl;generalize wr.alloc _=wc at *;generalize wr.heap.size=be at *;obtain⟨r1,r2,r3⟩:=B2.re;have q1:=BE.re;have q2:=BS.re
    have r4:=Bn_ (w:=wc) fun w' hg=>Hest.out w' (Aa_ K2 hg)
    have r5:=Bn_ (w:=wc) fun w' hg=>ch_ en.own (satA en.own en.slack) est w'
    have r6:=Bn_ (w:=wc) fun w' hg=>ij_ en.key en.own en.slack w' hw1 hw2
    (refine Tail.wp_region_tail_grown 7 (by kernel_rfl) (by kernel_rfl) ?_;simp only[List.take,List.drop];(repeat(go_big_quiet_step (first |(with_reducible exact r4 _ _) |(with_reducible exact r5 _ _) |(with_reducible exact r6 _ _))));refine wn_ ?_;rintro _ ⟨⟨d5,os5⟩,rfl⟩)
    have BR5:=BR.same (A3_ wc d5 os5);have K5:=Aa_ K2 (A3_ wc d5 os5);have br:=BR5.cell;have fr:=BR5.free;clear r1 r2 r3 r4 r5 r6 q1 q2;generalize Go.Sort.grow (redrawn wc d5) os5=w5 at *
    go_wp2_with fail
    have BZ:=(BR5.set_ 0 (.int .u64 (min en.own est)) rfl).set_ 1 (.int .u64 (min (satA en.own en.slack) est)) rfl;have bz:=BZ.cell;refine bodyPost_ret (v:=.tuple #[bndV (min en.own est) (min (satA en.own en.slack) est),.bool true]) (by simp[results,results167,go_sem,bz]) rfl ?_;refine⟨by rw[Hq.out.1,Hq.out.2],?_⟩;exact Ai_ (Ai_ K5 (by simp;omega) _) (by simp;omega) _
  ·have Hq:=hh_ (a3_ un (bj_ (k:=k) fun i hi=>Hall.out i hi (by omega)))
   go_upto_region 7 with fail
   obtain⟨r1,r2,r3⟩:=B2.re;have q2:=BS.re
   have r4:=Bn_ (w:=wr) fun w' hg=>Hest.out w' (Aa_ K2 hg)
   have r5:=Bn_ (w:=wr) fun w' hg=>ch_ 0 un est w'
   (refine Tail.wp_region_tail_grown 8 (by kernel_rfl) (by kernel_rfl) ?_;simp only[List.take,List.drop];(repeat(go_big_quiet_step (first |(with_reducible exact r4 _ _) |(with_reducible exact r5 _ _))));refine wn_ ?_;rintro _ ⟨⟨d5,os5⟩,rfl⟩)
   have BR5:=BR.same (A3_ wr d5 os5);have K5:=Aa_ K2 (A3_ wr d5 os5);have br:=BR5.cell;have fr:=BR5.free;clear r1 r2 r3 r4 r5 q2;generalize Go.Sort.grow (redrawn wr d5) os5=w5 at *
   go_wp2_with fail
   have BZ:=(BR5.set_ 0 (.int .u64 (min 0 est)) rfl).set_ 1 (.int .u64 (min un est)) rfl;have bz:=BZ.cell;refine bodyPost_ret (v:=.tuple #[bndV (min 0 est) (min un est),.bool false]) (by simp[results,results167,go_sem,bz]) rfl ?_;refine⟨by rw[Hq.out.1,Hq.out.2],?_⟩;exact Ai_ (Ai_ K5 (by simp;omega) _) (by simp;omega) _
end
section
open Go.RowKit
attribute [local go_sem ↓] Ag_
attribute [local go_sem] Ah_
def leB (a b:ByteArray):Bool:=Op.bytesLess a.toList b.toList||a.toList==b.toList
def entErr (tot:Int) (prev:Option ByteArray) (e:Ent):Int:=
 if e.key.size=0 then 3 else if 255<e.key.size then 4 else if (prev.map (leB e.key)).getD false then 6 else if e.own=0∨tot<e.own+e.slack then 1 else 0
theorem isE (h:k.toList.isEmpty=true):k.size=0:=by
 rw[ByteArray.size,←Array.length_toList,←ByteArray.toList_eq];simpa using h
theorem isN (h:k.toList.isEmpty=false):k.size≠0:=by
 rw[ByteArray.size,←Array.length_toList,←ByteArray.toList_eq];intro e;rw[List.length_eq_zero_iff.1 e] at h;cases h
theorem Uw_ {tot:Int} {p:Option ByteArray} {e:Ent} (h:e.key.toList.isEmpty=true):entErr tot p e=3:=by unfold entErr;rw[if_pos (isE h)]
theorem ah_ {tot:Int} {p:Option ByteArray} {e:Ent} (h:e.key.toList.isEmpty=false) (h2:255<(e.key.size:Int)):entErr tot p e=4:=by unfold entErr;rw[if_neg (isN h),if_pos (by omega)]
theorem V7_ {tot:Int} {p:Option ByteArray} {e:Ent} (h:e.key.toList.isEmpty=false) (h2 :(e.key.size:Int)≤255) (h3 :(p.map (leB e.key)).getD false=true):entErr tot p e=6:=by unfold entErr;rw[if_neg (isN h),if_neg (by omega),if_pos h3]
theorem F2_ {tot:Int} {p:Option ByteArray} {e:Ent} (h:e.key.toList.isEmpty=false) (h2 :(e.key.size:Int)≤255) (h3 :(p.map (leB e.key)).getD false=false) (h4:e.own=0∨tot<e.own+e.slack):entErr tot p e=1:=by
 unfold entErr;rw[if_neg (isN h),if_neg (by omega),if_neg (by rw[h3];decide),if_pos h4]
theorem cs_ {tot:Int} {p:Option ByteArray} {e:Ent} (h:e.key.toList.isEmpty=false) (h2 :(e.key.size:Int)≤255) (h3 :(p.map (leB e.key)).getD false=false) (h4:e.own≠0) (h5:e.own+e.slack≤tot):entErr tot p e=0:=by
 unfold entErr;rw[if_neg (isN h),if_neg (by omega),if_neg (by rw[h3];decide),if_neg (by omega)]
end
section
open Go.RowKit
attribute [local go_sem ↓] Ag_
attribute [local go_sem] Ah_
def gtF (t:Int) (row:List Int):Bool:=row.any fun n=>decide (t<n)
theorem gtF_no {t:Int} {row:List Int} (h:∀j,(hj:j<row.length)→decide (t<row[j])=false):gtF t row=false:=by
 unfold gtF;rw[List.any_eq_false];intro x hx;obtain⟨j,hj,rfl⟩:=List.mem_iff_getElem.1 hx
 simpa using h j hj
theorem dc_ {t:Int} {row:List Int} {j:Nat} (hj:j<row.length) (h:decide (t<row[j])=true):gtF t row=true:=by
 unfold gtF;rw[List.any_eq_true];exact⟨_,mg_ hj,h⟩
def Nn_ (n:Int) (rows:List (List Int)):Bool:=rows.any fun r=>decide ((r.length:Int)≠n)
def Jy_ (t:Int) (rows:List (List Int)):Bool:=rows.any (gtF t)
def Da_ (d n t:Int) (rows:List (List Int)):Int:=if rows.length=0 then 0 else if (rows.length:Int)≠d then 3 else if Nn_ n rows then 3 else if Jy_ t rows then 1 else 0
theorem gv_ {d n t:Int} {rows:List (List Int)} {m:Nat} (e:m=rows.length) (h :((m:Int)==0)=false) (h2 :((m:Int) != d)=true):Da_ d n t rows=3:=by
 have:=beq_eq_false_iff_ne.1 h
 have:=bne_iff_ne.1 h2
 unfold Da_;rw[if_neg (by omega),if_pos (by omega)]
theorem fm_ {d n t:Int} {rows:List (List Int)} {m:Nat} (e:m=rows.length) (h :((m:Int)==0)=false) (h2 :((m:Int) != d)=false):Da_ d n t rows=if Nn_ n rows then 3 else if Jy_ t rows then 1 else 0:=by
 have:=beq_eq_false_iff_ne.1 h
 have:=bne_eq_false_iff_eq.1 h2
 unfold Da_;rw[if_neg (by omega),if_neg (by omega)]
theorem cv_ {α:Type} {p:α→Bool} {l:List α} (h:∀j,(hj:j<l.length)→p l[j]=false):l.any p=false:=by
 rw[List.any_eq_false];intro x hx;obtain⟨j,hj,rfl⟩:=List.mem_iff_getElem.1 hx
 simpa using h j hj
theorem Xn_ {α:Type} {p:α→Bool} {l:List α} {j:Nat} (hj:j<l.length) (h:p l[j]=true):l.any p=true:=by
 rw[List.any_eq_true];exact⟨_,mg_ hj,h⟩
end
section
open Go.RowKit
attribute [local go_sem ↓] Ag_
attribute [local go_sem] Ah_
def fstN (l:List Int):Int:=(l.find? (fun x=>decide (x≠0))).getD 0
theorem O9_ {l:List Int} {j:Nat} (hj:j<l.length) (h:∀i,(hi:i<l.length)→i<j→l[i]=0) (h2:l[j]≠0):fstN l=l[j]:=by
 unfold fstN;rw[(List.find?_eq_some_iff_getElem (p:=fun x=>decide (x≠0)) (b:=l[j])).2 ⟨by simpa using h2,j,hj,rfl,fun i hi=>by simp[h i (by omega) hi]⟩]
 rfl
theorem O8_ {l:List Int} (h:∀i,(hi:i<l.length)→l[i]=0):fstN l=0:=by
 unfold fstN;rw[List.find?_eq_none.2]
 ·rfl
 ·intro x hx
  obtain⟨i,hi,rfl⟩:=List.mem_iff_getElem.1 hx
  simp[h i hi]
def prevK (es:List Ent):Nat→Option ByteArray
 | 0=>none
 | m+1=>es[m]?.map (·.key)
def errAt (tot:Int) (es:List Ent) (i:Nat):Int:=match es[i]? with
 | some e=>entErr tot (prevK es i) e
 | none=>0
def Dd_ (tot:Int) (es:List Ent):Int:=fstN ((List.range es.length).map (errAt tot es))
theorem em_ {tot:Int} {es:List Ent} {j:Nat} (hj:j<es.length) (h:∀i,i<j→errAt tot es i=0) (h2:errAt tot es j≠0):Dd_ tot es=errAt tot es j:=by
 unfold Dd_;rw[O9_ (j:=j) (by simpa using hj) (fun i hi hij=>by simpa using h i hij) (by simpa using h2)]
 simp
theorem es_ {tot:Int} {es:List Ent} (h:∀i,i<es.length→errAt tot es i=0):Dd_ tot es=0:=O8_ fun i hi=>by simpa using h i (by simpa using hi)
def ownE (es:List Ent):Int:=es.foldl (fun n e=>satA n e.own) 0
theorem Wm_ (es:List Ent) (e:Ent):ownE (es++[e])=satA (ownE es) e.own:=by simp[ownE]
def sumErr (d n:Int) (s:Summ):Int:=if 9223372036854775808<s.total∨s.total<s.untr then 1 else if 96<s.es.length then 7 else if Dd_ s.total s.es≠0 then Dd_ s.total s.es else if s.total<ownE s.es then 12 else Da_ d n s.total s.rows
structure SumSmall (s:Summ):Prop where
 key:∀e∈s.es,e.key.size≤9223372036854775807
 rows:s.rows.length≤1000
 row:∀r∈s.rows,r.length≤9223372036854775807
theorem ig_ {d n:Int} {s:Summ} (h:9223372036854775808<s.total∨s.total<s.untr):sumErr d n s=1:=by unfold sumErr;rw[if_pos h]
theorem ia_ {d n:Int} {s:Summ} (h:¬(9223372036854775808<s.total∨s.total<s.untr)) (h2 :(96:Int)<s.es.length):sumErr d n s=7:=by unfold sumErr;rw[if_neg h,if_pos (by omega)]
theorem ge_ {d n:Int} {s:Summ} (h:¬(9223372036854775808<s.total∨s.total<s.untr)) (h2 :(s.es.length:Int)≤96) :
  sumErr d n s=if Dd_ s.total s.es≠0 then Dd_ s.total s.es else if s.total<ownE s.es then 12 else Da_ d n s.total s.rows:=by unfold sumErr;rw[if_neg h,if_neg (by omega)]
end
section
open Go.RowKit
structure GrownS (S:Nat→Prop) (w w':World):Prop where
 os:w'.os=w.os
 tape:w'.tape=w.tape
 output:w'.output=w.output
 size:w.heap.size≤w'.heap.size
 block:∀i,i<w.heap.size→¬S i→w'.heap[i]?=w.heap[i]?
theorem GrownS.refl (S:Nat→Prop) (w:World):GrownS S w w:=⟨rfl,rfl,rfl,le_ _,fun _ _ _=>rfl⟩
theorem GrownS.trans {S T:Nat→Prop} {a b c:World} (h:GrownS S a b) (k:GrownS T b c) (hT:∀i,T i→i<a.heap.size→S i):GrownS S a c:=
 ⟨k.os.trans h.os,k.tape.trans h.tape,k.output.trans h.output,lt_ h.size k.size,fun i hi hn=>(k.block i (ll_ hi h.size) (fun ht=>hn (hT i ht hi))).trans (h.block i hi hn)⟩
theorem GrownS.mono {S T:Nat→Prop} {a b:World} (h:GrownS S a b) (hT:∀i,S i→i<a.heap.size→T i):GrownS T a b:=⟨h.os,h.tape,h.output,h.size,fun i hi hn=>h.block i hi (fun hs=>hn (hT i hs hi))⟩
theorem GrownS.of {S:Nat→Prop} {r:Option Nat} (h:w.grownBy w' r) (hr:∀k,r=some k→S k):GrownS S w w':=
 ⟨h.os,h.tape,h.output,h.size,fun i hi hn=>h.block i hi (fun e=>hn (hr i e.symm))⟩
theorem GrownS.none_ {S:Nat→Prop} (h:w.grownBy w' none):GrownS S w w':=GrownS.of h (by simp)
theorem GrownS.base {S:Nat→Prop} {w0 w w':World} (h:w0.grownBy w none) (k:GrownS S w w') (hS:∀i,S i→w0.heap.size≤i):w0.grownBy w' none:=
 ⟨k.os.trans h.os,k.tape.trans h.tape,k.output.trans h.output,lt_ h.size k.size,fun i hi hn=>(k.block i (ll_ hi h.size) (fun hs=>by have:=hS i hs;omega)).trans (h.block i hi hn)⟩
theorem GrownS.back {S:Nat→Prop} (k:GrownS S w w') (hS:∀i,i<w.heap.size→¬S i):w.grownBy w' none:=⟨k.os,k.tape,k.output,k.size,fun i hi _=>k.block i hi (hS i hi)⟩
theorem Blk.keptS {S:Nat→Prop} {g:Nat} (h:Blk w g cs) (k:GrownS S w w') (hS:¬S g):Blk w' g cs:=by
 have hl:=h.lt;obtain⟨t,h⟩:=h.blk;exact⟨t,(k.block g hl hS).trans h⟩
theorem Own.keptS {α:Type} {f:α→List Value} {s:Nat} {e:TypeId} {B:Nat} {v:Value} {l:List α} {S:Nat→Prop} (h:Own f s e B w v l) (k:GrownS S w w') (hS:∀g,v.ownBlock=some g→¬S g):Own f s e B w' v l:=by
 refine⟨h.1,?_⟩
 rcases h.2 with h0 |⟨g,cap,cur,rfl,h1,h2,h3⟩
 ·exact .inl h0
 ·exact .inr ⟨g,cap,cur,rfl,h1,(k.block g (Array.getElem?_eq_some_iff.1 h2).1 (hS g rfl)).trans h2,h3⟩
theorem Rd.keptS {size:Nat} {v:Value} {n:Nat} {xs:List Value} {S:Nat→Prop} (h:Rd w size v n xs) (k:GrownS S w w') (hS:0<n→∀a n' c,v=.slice (some a) n' c→¬S a.block):Rd w' size v n xs:=by
 obtain⟨h1,h0,h2⟩:=h;refine⟨h1,h0,?_⟩
 rcases h2 with h2 |⟨g,off,cap,hv,hlt,hc⟩
 ·exact .inl h2
 ·rcases Nat.eq_zero_or_pos n with hn|hn
  ·exact .inl ⟨hn,some ⟨g,off,none⟩,cap,by rw[hv,hn]⟩
  ·refine .inr ⟨g,off,cap,hv,ll_ hlt k.size,fun j u hu=>?_⟩
   rw[World.cell?_of_block (a:=⟨g,off+j,none⟩) (k.block g hlt (hS hn _ _ _ hv))];exact hc j u hu
theorem RdL.keptS {α:Type} {f:α→List Value} {s:Nat} {v:Value} {l:List α} {S:Nat→Prop} (h:RdL f s w v l) (k:GrownS S w w') (hS:0<l.length→∀a n' c,v=.slice (some a) n' c→¬S a.block):RdL f s w' v l:=Rd.keptS h k hS
end
end Go.Proofs.YtckmgjmeanloaaaGreat
