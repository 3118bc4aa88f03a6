/- Several texts in one file: contracts of functions of the given program, and plain laws, for the proof of a statement. -/
import Derived.Test.YtckmgjmeanloaaaGreatRows
import Derived.WalkSpells
import Derived.WalkLawsBesides
import Derived.BigQuiet
import Derived.Deep.DeepCutAuto
import Derived.Lib.Hide
import Derived.OpenShut
import Derived.Deep.RegionLaw
import Derived.Deep.AppendLies
import Derived.Sort.Walk0
import Derived.Lib.QuietBelow
import Derived.Deep.RegionHeld3
set_option maxHeartbeats 8000000
set_option maxRecDepth 100000
namespace Go.Proofs.YtckmgjmeanloaaaGreat
theorem hh_{p:Prop}(h:p):Go.RowKit.Hid p:=Go.Lib.hid h
theorem ga_ (w:World) (o:Obj) (r:Option Nat):w.grownBy (w.alloc o) r:=World.grownBy_alloc w o r
theorem gq_{α:Type}{l:List α}{i:Nat}(h:i<l.length):l[i]?=some l[i]:=List.getElem?_eq_getElem h
theorem gs_{α:Type}{l:List α}{i:Nat}{x:α}(h:l[i]?=some x):∃h:i<l.length,l[i]=x:=List.getElem?_eq_some_iff.1 h
theorem wn_{P:Program}{ops:Array Oper}{C:World→Prop}{Q:Act→Prop}{a:Act}(h:Q a):wpQuiet P ops C Q [] a:=wpQuiet_nil h
theorem df_{p:Prop}[Decidable p](h:¬p):decide p=false:=decide_eq_false h
theorem dt_{p:Prop}[Decidable p](h:p):decide p=true:=decide_eq_true h
theorem bf_{α:Type}[BEq α][LawfulBEq α]{a b:α}(h:a≠b):(a==b)=false:=beq_eq_false_iff_ne.2 h
theorem la_{α:Type}{a b:List α}:(a++b).length=a.length+b.length:=List.length_append
theorem le_(n:Nat):n≤n:=Nat.le_refl n
theorem zl_(n:Nat):0≤n:=Nat.zero_le n
theorem lk_{α:Type}{i:Nat}{l:List α}:(l.take i).length=min i l.length:=List.length_take
theorem ls_{α:Type}{a:α}:[a].length=1:=List.length_singleton
theorem lc_{α:Type}{a:α}{l:List α}:(a::l).length=l.length+1:=List.length_cons
theorem ll_{a b c:Nat}(h:a<b)(k:b≤c):a<c:=Nat.lt_of_lt_of_le h k
theorem lt_{a b c:Nat}(h:a≤b)(k:b≤c):a≤c:=Nat.le_trans h k
theorem ms_{α:Type}{a b:α}(h:a∈[b]):a=b:=List.mem_singleton.1 h
theorem ma_{α:Type}{a:α}{s t:List α}(h:a∈s++t):a∈s∨a∈t:=List.mem_append.1 h
theorem mg_{α:Type}{l:List α}{n:Nat}(h:n<l.length):l[n]∈l:=List.getElem_mem h
theorem mo_{α:Type}{l:List α}{i:Nat}{a:α}(h:l[i]?=some a):a∈l:=List.mem_of_getElem? h
theorem tk_{α:Type}{l:List α}{i:Nat}(h:l.length≤i):l.take i=l:=List.take_of_length_le h
theorem tg_{α:Type}{l:List α}{i:Nat}(h:i<l.length):l.take (i+1)=l.take i++[l[i]]:=List.take_succ_eq_append_getElem h
end Go.Proofs.YtckmgjmeanloaaaGreat
namespace Go.Proofs.YtckmgjmeanloaaaGreat
open Go.Proofs.Tryz
section
open Go.RowKit
theorem Ab_ (w:World) (r:Option Nat):w.grownBy w r:=⟨rfl,rfl,rfl,le_ _,fun _ _ _=>rfl⟩
theorem Aa_ {a b c:World} {r:Option Nat} (h:a.grownBy b r) (k:b.grownBy c r):a.grownBy c r:=
 ⟨k.os.trans h.os,k.tape.trans h.tape,k.output.trans h.output,lt_ h.size k.size,
  fun i hi hn=>(k.block i (ll_ hi h.size) hn).trans (h.block i hi hn)⟩
theorem Ak_ {a b:World} (h:a.grownBy b none) (r:Option Nat):a.grownBy b r:=
 ⟨h.os,h.tape,h.output,h.size,fun i hi _=>h.block i hi (by simp)⟩
theorem Af_ {a b c:World} {r:Option Nat} {g:Nat} (h:a.grownBy b r) (k:b.grownBy c (some g)) (hg:a.heap.size≤g):a.grownBy c r:=
 ⟨k.os.trans h.os,k.tape.trans h.tape,k.output.trans h.output,lt_ h.size k.size,
  fun i hi hn=>(k.block i (ll_ hi h.size) (by simp;omega)).trans (h.block i hi hn)⟩
theorem Am_ {a b:World} {r:Option Nat} (h:a.grownBy b r):a.grownBy b.drew r:=⟨h.os,h.tape,h.output,h.size,h.block⟩
theorem Ae_ {a b:World} {r:Option Nat} (h:a.grownBy b r) (n:Nat):a.grownBy (b.drewN n) r:=⟨h.os,h.tape,h.output,h.size,h.block⟩
theorem Ad_ {a b:World} {r:Option Nat} (h:a.grownBy b r) (o:Obj):a.grownBy (b.alloc o) r:=Aa_ h (ga_ b o r)
theorem Ac_ {a b:World} {g:Nat} (h:a.grownBy b (some g)) (o:Nat) (v:Value):a.grownBy (b.setCell ⟨g,o,none⟩ v) (some g):=
 Aa_ h ⟨rfl,rfl,rfl,by simp[World.setCell],fun i _ hn=>Below.heap_setCell _ _ _ _ (by simpa using hn)⟩
theorem Aj_ {a b:World} {r:Option Nat} (h:a.grownBy b r) {p:Addr} (hp:a.heap.size≤p.block) (v:Value):a.grownBy (b.setCell p v) r:=
 ⟨h.os,h.tape,h.output,by have:=h.size;simpa [World.setCell] using this,fun i hi hn=>(Below.heap_setCell _ _ _ _ (by omega)).trans (h.block i hi hn)⟩
theorem Ib_ {a b:World} (h:a.grownBy b none):Below a.heap.size a b:=⟨h.os,h.tape,h.output,h.size,fun i hi=>h.block i hi (by simp)⟩
theorem An_ {a b:World} {r:Option Nat} (h:a.grownBy b r) :(∀k o,k<a.heap.size→some k≠r→b.cell? ⟨k,o,none⟩=a.cell? ⟨k,o,none⟩)∧(∀k o,k<a.heap.size→some k≠r→b.frozen? ⟨k,o,none⟩=a.frozen? ⟨k,o,none⟩):=
 ⟨fun k _ hk hn=>World.cell?_of_block (h.block k hk hn),fun k _ hk hn=>World.frozen?_of_block (h.block k hk hn)⟩
theorem D4_ {w:World} {b o:Nat} {c:Array Value} {t:TypeId} {f:Nat×Nat} (v:Value) (h:w.heap[b]?=some (.cells c t f)) :
  (w.setCell ⟨b,o,none⟩ v).heap[b]?=some (.cells (c.setIfInBounds o v) t f):=by
 simp[World.setCell,Array.getElem?_modify,h]
def Rd (w:World) (size:Nat) (v:Value) (n:Nat) (xs:List Value):Prop:=
 xs.length=n*size∧n≤9223372036854775807∧((n=0∧∃a cap,v=.slice a 0 cap) ∨
  ∃g off cap,v=.slice (some ⟨g,off,none⟩) n cap∧g<w.heap.size∧∀j u,xs[j]?=some u→w.cell? ⟨g,off+j,none⟩=some u)
def NotIn (v:Value) (b:Nat):Prop:=∀a n c,v=.slice (some a) n c→a.block≠b
theorem Rd.kept {w w':World} {size:Nat} {v:Value} {n:Nat} {xs:List Value} {r:Option Nat} (h:Rd w size v n xs) (hg:w.grownBy w' r) (hr:∀b,r=some b→NotIn v b):Rd w' size v n xs:=by
 obtain⟨h1,h0,h2⟩:=h;refine⟨h1,h0,?_⟩
 rcases h2 with h2 |⟨g,off,cap,hv,hlt,hc⟩
 ·exact .inl h2
 ·refine .inr ⟨g,off,cap,hv,ll_ hlt hg.size,fun j u hu=>?_⟩
  rw[World.cell?_of_block (a:=⟨g,off+j,none⟩) (hg.block g hlt ?_)]
  ·exact hc j u hu
  ·intro e;exact hr g e.symm _ _ _ hv rfl
theorem Rd.kept0 {w w':World} {size:Nat} {v:Value} {n:Nat} {xs:List Value} {r:Option Nat} (h:Rd w size v n xs) (hg:w.grownBy w' r) (hr:0<n→∀b,r=some b→NotIn v b):Rd w' size v n xs:=by
 rcases Nat.eq_zero_or_pos n with h0|h0
 ·rcases h.2.2 with⟨_,a,cap,rfl⟩ |⟨g,off,cap,rfl,_⟩
  ·exact⟨h.1,h.2.1,.inl ⟨h0,a,cap,rfl⟩⟩
  ·exact⟨h.1,h.2.1,.inl ⟨h0,some ⟨g,off,none⟩,cap,by rw[h0]⟩⟩
 ·exact h.kept hg (hr h0)
theorem Rd.same {w w':World} {size:Nat} {v:Value} {n:Nat} {xs:List Value} (h:Rd w size v n xs) (hg:w.grownBy w' none):Rd w' size v n xs:=
 h.kept hg (by simp)
theorem Q8_ (x n:Int) (h:0<n) :(x.tmod n+n)%n=x%n:=by
 have h1:x.tmod n=if 0≤x∨n ∣ x then x%n else x%n-n:=by
  rw[Int.tmod_eq_emod];split
  ·simp
  ·have :(n.natAbs:Int)=n:=by omega
   rw[this]
 rw[h1]
 split
 ·rw[Int.add_emod_right,Int.emod_emod]
 ·rw[show x%n-n+n=x%n from by omega,Int.emod_emod]
theorem Nh_ (x n:Int) (h:0<n):-n<x.tmod n∧x.tmod n<n:=by
 have h1:x.tmod n=if 0≤x∨n ∣ x then x%n else x%n-n:=by
  rw[Int.tmod_eq_emod];split
  ·simp
  ·have :(n.natAbs:Int)=n:=by omega
   rw[this]
 have a:=Int.emod_nonneg x (show n≠0 by omega);have b:=Int.emod_lt_of_pos x h;rw[h1];split <;> omega
theorem W3_ (x n:Int) (w:World) (h0:0<n) (h1:n≤4611686018427387904) :
  Calls Tryz.prog 74 #[.int .i64 x,.int .i64 n] w fun e w'=>e=.returned (.int .i64 (x%n))∧w=w':=by
 have H:=hh_ (Q8_ x n h0);obtain⟨ha,hb⟩:=Nh_ x n h0
 go_enter func74,ntmps74
 go_wp2
 go_ret
 exact⟨congrArg (fun i=>Ending.returned (Value.int IntKind.i64 i)) H.out,rfl⟩
def Deck (B:Nat) (w:World) (b:Nat):Prop:=
 ∃sv,∃xs:List Int,∃k n:Nat,w.heap[b]?=some (.cells #[sv,.int .i64 k] 94)∧k≤n∧Rd w 1 sv n (xs.map (fun x=>Value.int .i64 x))∧(0<n→NotIn sv b)∧b<B∧(0<n→∀a n c,sv=.slice (some a) n c→a.block<B)
theorem Deck.lt {B:Nat} {w:World} {b:Nat} (h:Deck B w b):b<w.heap.size:=by
 obtain⟨_,_,_,_,h,_⟩:=h;exact(Array.getElem?_eq_some_iff.1 h).1
theorem Deck.below {B:Nat} {w:World} {b:Nat} (h:Deck B w b):b<B:=by
 obtain⟨_,_,_,_,_,_,_,_,h,_⟩:=h;exact h
theorem Deck.kept {B:Nat} {w w':World} {b:Nat} {r:Option Nat} (h:Deck B w b) (hg:w.grownBy w' r) (hr:∀c,r=some c→B≤c):Deck B w' b:=by
 have hlt:=h.lt;obtain⟨sv,xs,k,n,h1,h3,h4,h5,h6,h7⟩:=h;refine⟨sv,xs,k,n,(hg.block b hlt (fun e=>by have:=hr _ e.symm;omega)).trans h1,h3,h4.kept0 hg ?_,h5,h6,h7⟩;intro h0 c hc a n' c' hv;have h8:=hr c hc;have h9:=h7 h0 _ _ _ hv
 omega
theorem Deck.alloc {B:Nat} {w:World} {b:Nat} (h:Deck B w b) (o:Obj):Deck B (w.alloc o) b:=h.kept (ga_ w o none) (by simp)
def Wf_ (B b:Nat) (m:Int) (w:World) (e:Ending) (w':World):Prop:=
 ∃r,e=.returned (.int .i64 r)∧0≤r∧r<m∧Deck B w' b∧w.grownBy w' (some b)
theorem A3_ {B:Nat} (b:Nat) (m:Int) (w:World) (hd:Deck B w b) (h0:0<m) (h1:m≤4611686018427387904) :
  Calls Tryz.prog 37 #[.pointer (some ⟨b,0,none⟩),.int .i64 m] w (Wf_ B b m w):=by
 have Hd:=hh_ hd;obtain⟨sv,xs,k,n,hb,hk1,hr,hni,hbB,hnB⟩:=hd;have hn63:=hr.2.1
 have hsv:∃a cap,sv=.slice a n cap:=by
  rcases hr.2.2 with⟨rfl,a,cap,rfl⟩ |⟨g,off,cap,rfl,_⟩
  ·exact⟨_,_,rfl⟩
  ·exact⟨_,_,rfl⟩
 obtain⟨a,cap,rfl⟩:=hsv
 have c0:w.cell? ⟨b,0,none⟩=some (.slice a n cap):=by simp[World.cell?,hb]
 have c1:w.cell? ⟨b,1,none⟩=some (.int .i64 k):=by simp[World.cell?,hb]
 have f1:w.frozen? ⟨b,1,none⟩=false:=by simp[World.frozen?,hb]
 by_cases hlt:k<n
 ·rcases hr.2.2 with⟨h0,_⟩ |⟨g,off,cap',hv,hg,hc⟩
  ·omega
  cases hv;have hgb:g≠b:=hni (by omega) _ _ _ rfl
  have hlen:xs.length=n:=by simpa using hr.1
  have cx:w.cell? ⟨g,off+k,none⟩=some (.int .i64 (xs.getD k 0)):=by
   refine hc k _ ?_;rw[List.getElem?_map,gq_ (by omega)]
   simp[List.getD_eq_getElem?_getD,gq_ (show k<xs.length by omega)]
  generalize xs.getD k 0=x at cx;have hr0:=Int.emod_nonneg x (show m≠0 by omega);have hr1:=Int.emod_lt_of_pos x h0;have Hb:=hh_ hb;have Hr:=hh_ hr;have HnB:=hh_ hnB;clear hb hr hc hlen hni hnB
  go_enter func37,ntmps37
  go_wp2
  go_quiet (fail)
  obtain⟨n1,rfl⟩:∃n1,n1=nq:=⟨_,rfl⟩
  go_wp2
  have hwr:IntKind.i64.wrap (k:Int)=k:=IntWalk.i64_in _ (by omega)
  go_quiet ((go_at_call 74;exact Calls.quiet_of_same ((W3_ _ _ _ h0 h1).mono fun _ _ ⟨he,hw⟩=>⟨he,hw.symm⟩)))
  clear hwr
  go_wp2
  go_ret
  have G:w.grownBy (((w.drewN n1).setCell ⟨b,1,none⟩ (.int .i64 ((k:Int)+1))).drewN nq) (some b):=Ae_ (Ac_ (Ae_ (Ab_ w _) _) _ _) _;refine⟨x%m,rfl,hr0,hr1,⟨_,xs,k+1,n,?_,hlt,Hr.out.kept G ?_,?_,hbB,HnB.out⟩,G⟩
  ·exact D4_ _ Hb.out
  ·intro c hc;cases hc;intro a n' c' hv;cases hv;exact hgb
  ·intro _ a n' c' hv;cases hv;exact hgb
 ·have hle:n≤k:=by omega
  clear hlt;have Hb:=hh_ hb;have Hr:=hh_ hr;clear hb hr hnB
  go_enter func37,ntmps37
  go_wp2
  go_quiet (fail)
  go_wp2
  go_ret
  exact⟨0,rfl,Int.le_refl _,h0,Hd.out.kept (Ae_ (Ab_ w none) _) (by simp),Ae_ (Ab_ w _) _⟩
theorem gw_ {w w':World} {r:Option Nat} (h:World.grownBy w w' r:=by repeat(first|exact Ab_ _ _|assumption|refine Ad_ ?_ _|refine Am_ ?_|refine Ae_ ?_ _|refine Aj_ ?_ (by first |(simp;done)|omega |(simp;omega)) _)):World.grownBy w w' r:=h
theorem Rd.shape {w:World} {size:Nat} {v:Value} {n:Nat} {xs:List Value} (h:Rd w size v n xs):∃a cap,v=.slice a n cap:=by
 rcases h.2.2 with⟨rfl,a,cap,rfl⟩ |⟨g,off,cap,rfl,_⟩
 ·exact⟨_,_,rfl⟩
 ·exact⟨_,_,rfl⟩
theorem Rd.blockLt {w:World} {size:Nat} {v:Value} {n:Nat} {xs:List Value} (h:Rd w size v n xs) (h0:0<n):∀a n' c,v=.slice (some a) n' c→a.block<w.heap.size:=by
 intro a n' c hv
 rcases h.2.2 with⟨h,_⟩ |⟨g,off,cap,h,hg,_⟩
 ·omega
 ·rw[h] at hv;cases hv;exact hg
def cellsOf {α:Type} (f:α→List Value) (l:List α):List Value:=l.flatMap f
theorem At_ {α:Type} (f:α→List Value) (s:Nat) (hs:∀x,(f x).length=s) (l:List α) :(cellsOf f l).length=l.length*s:=by
 induction l with
 | nil=>simp[cellsOf]
 | cons x l ih=>simp only[cellsOf,List.flatMap_cons,la_,lc_] at *;rw[ih,hs,Nat.add_mul];omega
theorem El_ {α:Type} (f:α→List Value) (s:Nat) (hs:∀x,(f x).length=s) (l:List α) (i j:Nat) (hj:j<s) (x:α) (hx:l[i]?=some x) :
  (cellsOf f l)[i*s+j]? =(f x)[j]?:=by
 induction l generalizing i with
 | nil=>simp at hx
 | cons y l ih=>
  cases i with
  | zero=>
   simp at hx;subst hx
   simp only[cellsOf,List.flatMap_cons,Nat.zero_mul,Nat.zero_add];rw[List.getElem?_append_left (by rw[hs];exact hj)]
  | succ i=>
   simp only[List.getElem?_cons_succ] at hx
   have:=ih i hx
   simp only[cellsOf,List.flatMap_cons] at *;rw[List.getElem?_append_right (by rw[hs,Nat.add_mul];omega),hs,←this]
   congr 1
   rw[Nat.add_mul];omega
def RdL {α:Type} (f:α→List Value) (s:Nat) (w:World) (v:Value) (l:List α):Prop:=Rd w s v l.length (cellsOf f l)
theorem RdL.cell {α:Type} {f:α→List Value} {s:Nat} {w:World} {v:Value} {l:List α} (h:RdL f s w v l) (hs:∀x,(f x).length=s) (hl:0<l.length) :
  ∃g off cap,v=.slice (some ⟨g,off,none⟩) l.length cap∧g<w.heap.size∧∀i x,l[i]?=some x→∀j u,(f x)[j]?=some u→w.cell? ⟨g,off+i*s+j,none⟩=some u:=by
 rcases h.2.2 with⟨h0,_⟩ |⟨g,off,cap,rfl,hg,hc⟩
 ·omega
 ·refine⟨g,off,cap,rfl,hg,fun i x hx j u hu=>?_⟩
  have hj:j<s:=by rw[←hs x];exact(gs_ hu).1
  rw[Nat.add_assoc];exact hc _ _ ((El_ f s hs l i j hj x hx).trans hu)
def clsF (p:Int×Int):List Value:=[.int .i64 p.1,.int .i64 p.2]
theorem C9_ (p:Int×Int) :(clsF p).length=2:=rfl
def fit (l:List (Int×Int)) (size:Int):Option Nat:=if 1≤size then l.findIdx? (fun p=>decide (size≤p.1)) else none
def fitI (l:List (Int×Int)) (size:Int):Nat:=(fit l size).getD 0
def fitE (l:List (Int×Int)) (size:Int):Int:=if (fit l size).isSome then 0 else 1
def bw_ (l:List (Int×Int)) (size:Int) (w:World) (e:Ending) (w':World):Prop:=
 e=.returned (.tuple #[.int .i64 (fitI l size:Nat),.int .i64 (fitE l size)])∧w.grownBy w' none
theorem Jm_ {l:List (Int×Int)} (n:Int) (h:0<l.length):fitI l n<l.length:=by
 unfold fitI fit
 split
 ·cases hf:l.findIdx? _ with
  | none=>simpa using h
  | some k=>
   rw[List.findIdx?_eq_some_iff_getElem] at hf;obtain⟨h,_⟩:=hf
   simpa using h
 ·simpa using h
theorem Yd_ {l:List (Int×Int)} {size:Int} (h:∀(j:Nat) (p:Int×Int),l[j]?=some p→p.1<size):fit l size=none:=by
 unfold fit;split
 ·rw[List.findIdx?_eq_none_iff]
  intro x hx;obtain⟨i,hi⟩:=List.mem_iff_getElem?.1 hx
  have:=h i x hi
  simp;omega
 ·rfl
theorem Px_ {l:List (Int×Int)} {size:Int} {k:Nat} {p:Int×Int} (hs:1≤size) (h:∀(j:Nat) (p:Int×Int),j<k→l[j]?=some p→p.1<size) (hk:l[k]?=some p) (hp:size≤p.1):fit l size=some k:=by
 unfold fit;rw[if_pos hs,List.findIdx?_eq_some_iff_getElem];obtain⟨hlt,rfl⟩:=gs_ hk;refine⟨hlt,by simpa using hp,fun j hj=>?_⟩
 have:=h j l[j] hj (gq_ _)
 simp;omega
theorem S6_ (v:Value) (l:List (Int×Int)) (size:Int) (w:World) (h:RdL clsF 2 w v l) :
  Calls Tryz.prog 76 #[v,.int .i64 size] w (bw_ l size w):=by
 obtain⟨a,cap,rfl⟩:=h.shape;have hm:=h.2.1
 by_cases hs:1≤size
 ·go_enter func76,ntmps76
  go_wp2
  go_loopw [12] (fun i wr=>∃k:Nat,k≤l.length∧i=.int .i64 k∧(∀j (p:Int×Int),j<k→l[j]?=some p→p.1<size)∧w.grownBy wr none) (fun i _=>l.length-(RowKit.intOf i).toNat)
  case atStart=>exact⟨0,zl_ _,rfl,by simp,Ab_ _ _⟩
  case round=>
   obtain⟨k,hk,rfl,hall,hg⟩:=hrel
   by_cases hlt:k<l.length
   ·obtain⟨g,off,cap',hv,hgl,hc⟩:=h.cell C9_ (by omega)
    cases hv;obtain⟨p,hp⟩:∃p,l[k]?=some p:=⟨l[k],gq_ hlt⟩;have hcell:=An_ hg
    have c0:wr.cell? ⟨g,off+k*2,none⟩=some (.int .i64 p.1):=by rw[hcell.1 _ _ hgl (by simp)];exact hc k p hp 0 _ rfl
    have c1:wr.cell? ⟨g,off+k*2+1,none⟩=some (.int .i64 p.2):=by rw[hcell.1 _ _ hgl (by simp)];exact hc k p hp 1 _ rfl
    clear hcell hc;have Hp:=hh_ hp;have Hall:=hh_ hall;clear hp hall
    by_cases hsz:size≤p.1
    ·go_wp2
     go_ret2
     have hf:=Px_ hs Hall.out Hp.out hsz;exact⟨by simp[fitI,fitE,hf],Ad_ hg _⟩
    ·go_wp2
     refine⟨⟨k+1,by omega,by go_num,?_,Ad_ hg _⟩,?_⟩
     ·intro j q hj hq
      by_cases e:j=k
      ·subst e;rw[Hp.out] at hq;cases hq;omega
      ·exact Hall.out j q (by omega) hq
     ·simp[RowKit.intOf];omega
   ·have hk':k=l.length:=by omega
    have hn:fit l size=none:=Yd_ fun j p hp=>hall j p (by rw[hk'];exact(gs_ hp).1) hp
    have Hn:=hh_ hn;have Hk:=hh_ hk';clear hn hall hk'
    go_wp2
    go_ret2
    exact⟨by simp[fitI,fitE,Hn.out],hg⟩
 ·have hn:fit l size=none:=by unfold fit;rw[if_neg hs]
  go_enter func76,ntmps76
  have Hn:=hh_ hn;clear hn
  go_wp2
  go_ret2
  exact⟨by simp[fitI,fitE,Hn.out],Ab_ _ _⟩
structure Og_ (l:List (Int×Int)):Prop where
 pos:0<l.length
 len:l.length≤8
 size:∀(i:Nat) (p:Int×Int),l[i]?=some p→1≤p.1∧p.1≤4096∧0≤p.2∧p.2≤65536
 asc:∀(i:Nat) (p q:Int×Int),l[i]?=some p→l[i+1]?=some q→p.1<q.1
theorem Ug_ (v:Value) (l:List (Int×Int)) (w:World) (h:RdL clsF 2 w v l) (hok:Og_ l) :
  Calls Tryz.prog 111 #[v] w fun e w'=>e=.returned (.int .i64 0)∧w.grownBy w' none:=by
 obtain⟨a,cap,rfl⟩:=h.shape;have hm:=h.2.1;have hp0:0<l.length:=hok.pos;have hp8:l.length≤8:=hok.len
 have hz :((l.length:Int)==0)=false:=by rw[beq_eq_false_iff_ne];omega
 go_enter func111,ntmps111
 go_wp2
 go_loopw [15] (fun i wr=>∃k:Nat,k≤l.length∧i=.int .i64 k∧w.grownBy wr none) (fun i _=>l.length-(RowKit.intOf i).toNat)
 case atStart=>exact⟨0,zl_ _,rfl,Ab_ _ _⟩
 case round=>
  obtain⟨k,hk,rfl,hg⟩:=hrel
  by_cases hlt:k<l.length
  ·obtain⟨g,off,cap',hv,hgl,hc⟩:=h.cell C9_ (by omega)
   cases hv;obtain⟨p,hp⟩:∃p,l[k]?=some p:=⟨l[k],gq_ hlt⟩;have hcell:=An_ hg
   have c0:wr.cell? ⟨g,off+k*2,none⟩=some (.int .i64 p.1):=by rw[hcell.1 _ _ hgl (by simp)];exact hc k p hp 0 _ rfl
   have c1:wr.cell? ⟨g,off+k*2+1,none⟩=some (.int .i64 p.2):=by rw[hcell.1 _ _ hgl (by simp)];exact hc k p hp 1 _ rfl
   obtain⟨b1,b2,b3,b4⟩:=hok.size k p hp
   by_cases hk0:k=0
   ·subst hk0
    simp only[Nat.zero_mul,Nat.add_zero] at c0 c1;clear hcell hc hp
    go_wp2
    go_quiet (fail)
    go_wp2
    refine⟨⟨1,by omega,by go_num,Ae_ (Ad_ hg _) _⟩,?_⟩
    simp[RowKit.intOf];omega
   ·obtain⟨q,hq⟩:∃q,l[k-1]?=some q:=⟨l[k-1],gq_ (by omega)⟩
    have d0:wr.cell? ⟨g,off+(k-1)*2,none⟩=some (.int .i64 q.1):=by rw[hcell.1 _ _ hgl (by simp)];exact hc (k-1) q hq 0 _ rfl
    have hlt':=hok.asc (k-1) q p hq (by rw[show k-1+1=k from by omega];exact hp)
    have hkp:0<k:=by omega
    have hgw:g<wr.heap.size:=ll_ hgl hg.size;clear hcell hc hp hq hk0
    go_wp2
    have hw1:IntKind.i64.wrap ((k:Int)-1) =(k:Int)-1:=IntWalk.i64_in _ (by omega)
    have hw2 :((k:Int)-1).toNat=k-1:=by omega
    have hw3 :(0:Int)≤(k:Int)-1:=by omega
    have hw4 :(1:Int)≤(k:Int):=by omega
    go_quiet (fail)
    clear hw1 hw2
    go_wp2
    refine⟨⟨k+1,by omega,by go_num,Ae_ (Ad_ hg _) _⟩,?_⟩
    simp[RowKit.intOf];omega
  ·go_wp2
   go_ret
   exact⟨rfl,hg⟩
def wordF (n:Int):List Value:=[.int .u64 n]
theorem A9_ (n:Int) :(wordF n).length=1:=rfl
def intF (n:Int):List Value:=[.int .i64 n]
theorem Ix_ (l:List Int):cellsOf wordF l=l.map (fun x=>Value.int .u64 x):=by
 induction l with
 | nil=>rfl
 | cons x l ih=>simp only[cellsOf,List.flatMap_cons,List.map_cons] at *;rw[ih];rfl
theorem Sa_ (l:List Int):cellsOf (fun n:Int=>[Value.int .i64 n]) l=l.map (fun x=>Value.int .i64 x):=by
 induction l with
 | nil=>rfl
 | cons x l ih=>simp only[cellsOf,List.flatMap_cons,List.map_cons] at *;rw[ih];rfl
theorem A8_ (n:Int) :(intF n).length=1:=rfl
theorem ca_ (v:Value) (l:List Int) (w:World) (h:RdL wordF 1 w v l) (hl:l.length=16) :
  Calls Tryz.prog 147 #[v] w fun e w'=>e=.returned (.int .i64 0)∧w=w':=by
 obtain⟨a,cap,rfl⟩:=h.shape;rw[hl];clear h hl
 go_enter func147,ntmps147
 go_wp2
 go_ret
 exact⟨rfl,rfl⟩
def Xf_ (B b:Nat) (w:World) (e:Ending) (w':World):Prop:=
 ∃r,e=.returned (.int .u64 r)∧0≤r∧r<18446744073709551616∧Deck B w' b∧w.grownBy w' (some b)
theorem a4_ {B:Nat} (b:Nat) (w:World) (hd:Deck B w b) :
  Calls Tryz.prog 39 #[.pointer (some ⟨b,0,none⟩)] w (Xf_ B b w):=by
 go_enter func39,ntmps39
 go_wp2_with fail
 refine(A3_ b _ w hd (by omega) (by omega)).mono ?_;rintro e w1 ⟨r1,rfl,ha1,hb1,hd1,hg1⟩
 go_wp2_with fail
 refine(A3_ b _ w1 hd1 (by omega) (by omega)).mono ?_;rintro e w2 ⟨r2,rfl,ha2,hb2,hd2,hg2⟩
 go_wp2_with fail
 go_ret
 have hb:=bounds_u64 (wf_bits BinOp.xor IntKind.u64 (r1*4294967296) r2);exact⟨_,rfl,hb.1,by omega,hd2,Aa_ hg1 hg2⟩
def J0_ (l:List Int):Prop:=∀x∈l,0≤x∧x<18446744073709551616
def U9_ (B b:Nat) (w:World) (e:Ending) (w':World):Prop:=
 ∃v,∃l:List Int,e=.returned v∧RdL wordF 1 w' v l∧l.length=16∧J0_ l∧NotIn v b∧(∀a n c,v=.slice (some a) n c→w.heap.size≤a.block)∧Deck B w' b∧w.grownBy w' (some b)
def Xg_ (B b C:Nat) (w:World) (wr:World):Prop:=
 ∃ws:List Int,ws.length=16∧J0_ ws∧wr.heap[C]?=some (.cells (ws.map (fun x=>Value.int .u64 x)).toArray 22)∧Deck B wr b∧w.grownBy wr (some b)
def bv_:Array Value:=((List.replicate 16 0).map (fun x:Int=>Value.int .u64 x)).toArray
theorem ey_ (w:World) :(Instr.makeSlice 24 (.int .i64 16) (.int .i64 16)).run Tryz.prog w=.ok (.slice (some ⟨w.heap.size,0,none⟩) 16 16) (w.alloc (.cells bv_ 22)):=by kernel_rfl
theorem Xu_ {B:Nat} (b:Nat) (w:World) (hd:Deck B w b) (hB:B≤w.heap.size) :
  Calls Tryz.prog 38 #[.pointer (some ⟨b,0,none⟩)] w (U9_ B b w):=by
 have hb:=hd.lt;have hmk:=ey_
 go_enter func38,ntmps38
 go_wp2_with fail
 refine(A3_ b _ _ (hd.alloc _) (by omega) (by omega)).mono ?_;rintro e w1 ⟨r1,rfl,ha1,hb1,hd1,hg1⟩;have HB:=hh_ (hg1.block w.heap.size (by simp) (by simp;omega));clear hmk
 go_wp2_with fail
 go_loopw [12] (fun i wr=>∃k:Nat,k≤16∧i=.int .i64 k∧Xg_ B b w.heap.size w wr) (fun i _=>16-(RowKit.intOf i).toNat)
 case atStart=>
  refine⟨0,by omega,rfl,List.replicate 16 0,rfl,?_,?_,hd1,Aa_ (ga_ w _ _) hg1⟩
  ·intro x hx;rw[List.eq_of_mem_replicate hx];omega
  ·rw[HB.out];exact heap_alloc_new w _
 case round=>
  obtain⟨k,hk,rfl,ws,hws,hok,hheap,hdr,hg⟩:=hrel
  by_cases hlt:k<16
  ·have hkk:k<ws.length:=by omega
   go_wp2_with fail
   ·refine(a4_ b wr hdr).mono ?_
    rintro e w2 ⟨r2,rfl,ha2,hb2,hd2,hg2⟩
    have hB2:w2.heap[w.heap.size]?=some (.cells (ws.map (fun x=>Value.int .u64 x)).toArray 22):=by
     rw[hg2.block _ (Array.getElem?_eq_some_iff.1 hheap).1 (by simp;omega)];exact hheap
    have hc2:w2.cell? ⟨w.heap.size,k,none⟩=some (.int .u64 ws[k]):=by
     simp[World.cell?,hB2,gq_ hkk]
    have hf2:w2.frozen? ⟨w.heap.size,k,none⟩=false:=by simp[World.frozen?,hB2]
    have HB2:=hh_ hB2;clear hB2 hheap
    go_wp2_with fail
    have G :(w2.setCell ⟨w.heap.size,k,none⟩ (.int .u64 r2)).heap[w.heap.size]?=some (.cells ((ws.set k r2).map (fun x=>Value.int .u64 x)).toArray 22):=by
     rw[D4_ _ HB2.out];simp[List.map_set]
    refine⟨⟨k+1,by omega,by go_num,ws.set k r2,by simpa using hws,?_,G,?_,?_⟩,?_⟩
    ·intro x hx
     rcases List.mem_or_eq_of_mem_set hx with h|h
     ·exact hok x h
     ·subst h;exact⟨ha2,hb2⟩
    ·exact hd2.kept (Ac_ (Ab_ w2 _) _ _) (by intro c hc;cases hc;exact hB)
    ·exact Aj_ (Aa_ hg hg2) (le_ _) _
    ·simp[RowKit.intOf];omega
   ·exact⟨⟨k+1,by omega,by go_num,ws,hws,hok,hheap,hdr,hg⟩,by simp[RowKit.intOf];omega⟩
  ·have hk':k=16:=by omega
   go_wp2_with fail
   go_ret
   refine⟨_,ws,rfl,?_,hws,hok,?_,?_,hdr,hg⟩
   ·refine⟨?_,?_,.inr ⟨w.heap.size,0,16,?_,(Array.getElem?_eq_some_iff.1 hheap).1,?_⟩⟩
    ·rw[At_ _ 1 A9_]
    ·omega
    ·rw[hws];rfl
    ·intro j u hu
     rw[Ix_] at hu;simp only[World.cell?,hheap,Nat.zero_add]
     simpa using hu
   ·intro a n c h;cases h;simp;omega
   ·intro a n c h;cases h;simp
end
section
open Go.RowKit
def Own {α:Type} (f:α→List Value) (s:Nat) (e:TypeId) (B:Nat) (w:World) (v:Value) (l:List α):Prop:=w.ownsRow B e s v l.length (cellsOf f l)
theorem Own.shape {α:Type} {f:α→List Value} {s:Nat} {e:TypeId} {B:Nat} {w:World} {v:Value} {l:List α} (h:Own f s e B w v l):∃a cap,v=.slice a l.length cap:=by
 rcases h.2 with⟨rfl,h0⟩ |⟨g,cap,cur,rfl,_⟩
 ·exact⟨_,_,by rw[h0]⟩
 ·exact⟨_,_,rfl⟩
theorem Own.nil {α:Type} (f:α→List Value) (s:Nat) (e:TypeId) (B:Nat) (w:World):Own f s e B w (.slice none 0 0) []:=World.ownsRow_nil w B e s
theorem Own.lt {α:Type} {f:α→List Value} {s:Nat} {e:TypeId} {B:Nat} {w:World} {v:Value} {l:List α} (h:Own f s e B w v l):∀k,v.ownBlock=some k→B≤k∧k<w.heap.size:=World.ownsRow.lt h
theorem Own.kept {α:Type} {f:α→List Value} {s:Nat} {e:TypeId} {B:Nat} {w w':World} {v:Value} {l:List α} {r:Option Nat} (h:Own f s e B w v l) (hg:w.grownBy w' r) (hne:∀k,v.ownBlock=some k→r≠some k):Own f s e B w' v l:=by
 refine World.ownsRow.kept h hg ?_
 cases hv:v.ownBlock with
 | none=>exact .inl rfl
 | some k=>exact .inr (fun e=>hne k hv e.symm)
theorem Own.same {α:Type} {f:α→List Value} {s:Nat} {e:TypeId} {B:Nat} {w w':World} {v:Value} {l:List α} (h:Own f s e B w v l) (hg:w.grownBy w' none):Own f s e B w' v l:=h.kept hg (by simp)
theorem Own.len {α:Type} {f:α→List Value} {s:Nat} {e:TypeId} {B:Nat} {w:World} {v:Value} {l:List α} (h:Own f s e B w v l):l.length≤9223372036854775807:=by
 rcases h.2 with⟨rfl,h0⟩ |⟨g,cap,cur,rfl,_,_,h1,h2,_⟩
 ·omega
 ·unfold maxLen at h2;omega
theorem Own.rd {α:Type} {f:α→List Value} {s:Nat} {e:TypeId} {B:Nat} {w:World} {v:Value} {l:List α} (h:Own f s e B w v l):RdL f s w v l:=by
 refine⟨h.1,h.len,?_⟩
 rcases h.2 with⟨rfl,h0⟩ |⟨g,cap,cur,rfl,_,hg,h1,h2,_⟩
 ·exact .inl ⟨h0,none,0,rfl⟩
 ·refine .inr ⟨g,0,cap,rfl,(Array.getElem?_eq_some_iff.1 hg).1,fun j u hu=>?_⟩
  have:=World.ownsRow.cells h (g:=g) rfl j u hu
  have e :(⟨g,0,none⟩:Addr).add j =⟨g,0+j,none⟩:=by unfold Addr.add;split <;> simp_all
  rw[e] at this;exact this
theorem Own.base {α:Type} {f:α→List Value} {s:Nat} {e:TypeId} {B B':Nat} {w:World} {v:Value} {l:List α} (h:Own f s e B w v l) (hb:∀k,v.ownBlock=some k→B'≤k):Own f s e B' w v l:=by
 refine⟨h.1,?_⟩
 rcases h.2 with h0 |⟨g,cap,cur,rfl,_,hh⟩
 ·exact .inl h0
 ·exact .inr ⟨g,cap,cur,rfl,hb g rfl,hh⟩
theorem Ao_ {α:Type} {f:α→List Value} {s:Nat} {e:TypeId} {w w0 w':World} {v:Value} {l:List α} {r:Option Nat} {B:Nat} (hg:w.grownBy w0 r) (h:Own f s e B w0 v l) (hB:w.heap.size≤B) (k:w0.grownBy w' v.ownBlock):w.grownBy w' r:=by
 cases hv:v.ownBlock with
 | none=>rw[hv] at k;exact Aa_ hg (Ak_ k _)
 | some g=>rw[hv] at k;exact Af_ hg k (by have:=h.lt g hv;omega)
def Fu_ (v u:Value):Prop:=∀g,v.ownBlock=some g→u.ownBlock≠some g
theorem Fu_.symm {v u:Value} (h:Fu_ v u):Fu_ u v:=fun g hg e=>h g e hg
theorem Dm_ (u:Value):Fu_ (.slice none 0 0) u:=fun g hg=>by simp[Value.ownBlock] at hg
def Lies (v v':Value) (n:Nat):Prop:=v'.ownBlock=v.ownBlock∨∃g,v'.ownBlock=some g∧n≤g
theorem Fu_.app {v u v':Value} {n:Nat} (h:Fu_ v u) (hu:∀k,u.ownBlock=some k→k<n) (hl:Lies v v' n):Fu_ v' u:=by
 intro g hg e
 rcases hl with h1 |⟨k,h1,h2⟩
 ·exact h g (h1▸hg) e
 ·rw[h1] at hg;cases hg;have:=hu _ e;omega
theorem Lies.ge {v v':Value} {n m:Nat} (h:Lies v v' n) (hv:∀k,v.ownBlock=some k→m≤k) (hm:m≤n):∀k,v'.ownBlock=some k→m≤k:=by
 intro k hk
 rcases h with h |⟨g,h1,h2⟩
 ·exact hv k (h▸hk)
 ·rw[h1] at hk;cases hk;omega
theorem K7_ (n a b:Nat):∀k,Value.ownBlock (.slice (some ⟨n,0,none⟩) a b)=some k→n≤k:=by
 intro k hk
 have:n=k:=by simpa [Value.ownBlock] using hk
 omega
structure Elt (st e:TypeId) (z:Value) (size bytes:Nat):Prop where
 ht:Tryz.prog.underlying st=some (.slice e)
 info :(Tryz.prog.info? e).map (fun i=>(i.zero,i.size,i.bytes))=some (some z,size,bytes)
 cells:z.cells.size=size
 pos:0<size
theorem Eo_ {w:World} {st e ty:TypeId} {z:Value} {size bytes:Nat} (E:Elt st e z size bytes) {base:Nat} {v:Value} {n:Nat} {xs:List Value} (hown:w.ownsRow base e size v n xs) (c:Nat) :
  (Builtin.append_ #[st,st] ty #[v,.slice none 0 c]).run Tryz.prog w=.ok v w:=by
 obtain⟨i,hi,_⟩:=info_parts E.info
 rcases hown.2 with⟨rfl,rfl⟩ |⟨g,cap,cur,rfl,_,_,hnc,_⟩
 ·simp[Builtin.append_,run_underlying E.ht,sizeOf,typeInfo,hi,Builtin.lenOf,Builtin.firstCells]
 ·simp[Builtin.append_,run_underlying E.ht,sizeOf,typeInfo,hi,Builtin.lenOf,Builtin.firstCells,hnc,storeCells]
theorem Fm_ {w:World} {st e ty:TypeId} {z:Value} {size bytes:Nat} (E:Elt st e z size bytes) {base:Nat} {v:Value} {n:Nat} {xs:List Value} (hown:w.ownsRow base e size v n xs)
  {A:Option Addr} {m c:Nat} {news:List Value} (hr:Rd w size (.slice A m c) m news) (h1:∀u∈news,u.oneCell'=true) (h63:n+m≤maxLen) (hb :(n+m)*bytes≤140737488355328) (hbase:base≤w.heap.size) :
  ∃v' w',(Builtin.append_ #[st,st] ty #[v,.slice A m c]).run Tryz.prog w=.ok v' w'∧w'.ownsRow base e size v' (n+m) (xs++news)∧w.grownBy w' v.ownBlock∧Lies v v' w.heap.size:=by
 obtain⟨i,hi,hz0,hz1,hz2⟩:=info_parts E.info
 have key:∀ad:Addr,(∀j u,news[j]?=some u→w.cell? (ad.add j)=some u)→∃v' w',(Builtin.append_ #[st,st] ty #[v,.slice (some ad) m c]).run Tryz.prog w=.ok v' w'∧w'.ownsRow base e size v' (n+m) (xs++news)∧w.grownBy w' v.ownBlock∧Lies v v' w.heap.size:=by
  intro ad hc;obtain⟨v',w',hrun,h2,h3,_,h5⟩:=run_append_own_at (P:=Tryz.prog) w base st ty e i z size bytes E.ht hi hz0 hz1 hz2 E.cells E.pos v n xs hown ad m c news hr.1 hc h1 h63 hb hbase;exact⟨v',w',hrun,h2,h3,h5.imp id fun h=>⟨_,h,le_ _⟩⟩
 rcases hr.2.2 with⟨rfl,a,cap,hv⟩ |⟨g,off,cap,hv,_,hc⟩
 ·have hn:news=[]:=List.eq_nil_of_length_eq_zero (by simpa using hr.1)
  subst hn
  cases A with
  | none=>exact⟨v,w,Eo_ E hown c,by simpa using hown,World.grownBy.refl w _,.inl rfl⟩
  | some ad=>exact key ad (by simp)
 ·cases hv
  refine key _ fun j u hu=>?_
  have e :(⟨g,off,none⟩:Addr).add j =⟨g,off+j,none⟩:=by unfold Addr.add;split <;> simp_all
  rw[e];exact hc j u hu
theorem Aq_ {α:Type} (f:α→List Value) (l l':List α):cellsOf f (l++l')=cellsOf f l++cellsOf f l':=by simp[cellsOf]
def OneF {α:Type} (f:α→List Value):Prop:=∀x,∀u∈f x,u.oneCell'=true
theorem OneF.cells {α:Type} {f:α→List Value} (h:OneF f) (l:List α):∀u∈cellsOf f l,u.oneCell'=true:=by
 intro u hu;obtain⟨x,_,hx⟩:=List.mem_flatMap.1 hu;exact h x u hx
section
variable {α:Type} {f:α→List Value} {st e:TypeId} {z:Value} {size bytes:Nat} {w:World} {B:Nat} {v:Value} {l l2:List α} {A:Option Addr} {m c:Nat}
variable {o:Oper} {a:Act} {ops:Array Oper} {rest:List Oper} {Q:Exit→Act→World→Prop}
theorem az_ (E:Elt st e z size bytes) (h1:OneF f) (hown:Own f size e B w v l) (hr:RdL f size w (.slice A m c) l2) (hm:m=l2.length) (hb :(l.length+l2.length)*bytes≤140737488355328) (h63:l.length+l2.length≤9223372036854775807) (hbase:B≤w.heap.size)
  (s x:Operand) (ho:o.op=.call { callee:=.builtin .append,args:=#[s,x],argTypes:=#[st,st] }) (hs:a.eval s=v) (hx:a.eval x=.slice A m c) {K:Act→World→Prop}
  (h:∀v' w',Own f size e B w' v' (l++l2)→w.grownBy w' v.ownBlock→Lies v v' w.heap.size→K (a.put o.dst v') w'):o.wp Tryz.prog a w K Q:=by
 subst hm;obtain⟨v',w',hrun,h2,h3,h4⟩:=Fm_ (ty:=o.type) E hown hr (h1.cells l2) (by unfold maxLen;exact h63) hb hbase;unfold Oper.wp execOp;simp only[ho,resolve,invoke,builtin,Sem.run_bind,Sem.run_pure,Result.andThen_ok,List.map_toArray,List.map_cons,List.map_nil,hs,hx,hrun];exact h v' w' (by unfold Own;rw[Aq_,la_];exact h2) h3 h4
theorem app (E:Elt st e z size bytes) (h1:OneF f) (hown:Own f size e B w v l) (hr:RdL f size w (.slice A m c) l2) (hm:m=l2.length) (hb :(l.length+l2.length)*bytes≤140737488355328) (h63:l.length+l2.length≤9223372036854775807) (hbase:B≤w.heap.size)
  (hgd:o.guard=none) (s x:Operand) (ho:o.op=.call { callee:=.builtin .append,args:=#[s,x],argTypes:=#[st,st] }) (hs:a.eval s=v) (hx:a.eval x=.slice A m c)
  (h:∀v' w',Own f size e B w' v' (l++l2)→w.grownBy w' v.ownBlock→Lies v v' w.heap.size→wpList Tryz.prog ops Q rest (a.put o.dst v') w'):wpList Tryz.prog ops Q (o::rest) a w:=
 wpList_plain hgd fun _ hK=>az_ E h1 hown hr hm hb h63 hbase s x ho hs hx fun v' w' h2 h3 h4=>hK _ _ (h v' w' h2 h3 h4)
theorem Ge_ (E:Elt st e z size bytes) (h1:OneF f) (hown:Own f size e B w v l) (hr:RdL f size w (.slice A m c) l2) (hm:m=l2.length) (hb :(l.length+l2.length)*bytes≤140737488355328) (h63:l.length+l2.length≤9223372036854775807) (hbase:B≤w.heap.size)
  (hgd:o.guard=none) (s x:Operand) (ho:o.op=.call { callee:=.builtin .append,args:=#[s,x],argTypes:=#[st,st] }) (hs:a.eval s=v) (hx:a.eval x=.slice A m c) {K:Act→World→Prop} {R:Prop}
  (h:∀v' w',Own f size e B w' v' (l++l2)→w.grownBy w' v.ownBlock→Lies v v' w.heap.size→K (a.put o.dst v') w'):if Region.wanted o (yielded ops a.tmps)=true then Oper.wp Tryz.prog o a w K Q else R:=by
 have hw:Region.wanted o (yielded ops a.tmps)=true:=by simp[Region.wanted,hgd]
 rw[if_pos hw];exact az_ E h1 hown hr hm hb h63 hbase s x ho hs hx h
theorem Hn_ (hf:∀x,(f x).length=size) (w0:World) (y:α) (cs:Array Value) (te:TypeId) (hcs:cs.toList=f y):RdL f size (w0.alloc (.cells cs te)) (.slice (some ⟨w0.heap.size,0,none⟩) 1 1) [y]:=by
 refine⟨by simp[cellsOf,hf],by simp,.inr ⟨w0.heap.size,0,1,rfl,by simp,fun j u hu=>?_⟩⟩;simp only[cellsOf,List.flatMap_cons,List.flatMap_nil,List.append_nil,←hcs] at hu
 have:=heap_alloc_new w0 (.cells cs te)
 simp only[World.cell?,this,Nat.zero_add]
 simpa using hu
theorem A6_ (E:Elt st e z size bytes) (h1:OneF f) (hf:∀x,(f x).length=size) (hown:Own f size e B w v l) (y:α) (hb :(l.length+1)*bytes≤140737488355328) (h63:l.length+1≤9223372036854775807) (hbase:B≤w.heap.size) {te:TypeId} {cs:Array Value} (hcs:cs.toList=f y)
  (hgd:o.guard=none) (s x:Operand) (ho:o.op=.call { callee:=.builtin .append,args:=#[s,x],argTypes:=#[st,st] }) (hs:a.eval s=v) (hx:a.eval x=.slice (some ⟨w.heap.size,0,none⟩) 1 1)
  (h:∀v' w',Own f size e B w' v' (l++[y])→w.grownBy w' v.ownBlock→Lies v v' w.heap.size→wpList Tryz.prog ops Q rest (a.put o.dst v') w'):wpList Tryz.prog ops Q (o::rest) a (w.alloc (.cells cs te)):=
 app (l2:=[y]) E h1 (hown.same (ga_ w _ _)) (Hn_ hf w y cs te hcs) rfl (by simpa using hb) (by simpa using h63) (by simp;omega) hgd s x ho hs hx
  fun v' w' h2 h3 h4=>h v' w' h2 (Aa_ (ga_ w _ _) h3) (h4.imp id fun⟨g,e1,e2⟩=>⟨g,e1,by simp at e2;omega⟩)
theorem Lt_ (E:Elt st e z size bytes) (h1:OneF f) (hf:∀x,(f x).length=size) (hown:Own f size e B w v l) (y:α) (hb :(l.length+1)*bytes≤140737488355328) (h63:l.length+1≤9223372036854775807) (hbase:B≤w.heap.size) {te:TypeId} {cs:Array Value} (hcs:cs.toList=f y)
  (hgd:o.guard=none) (s x:Operand) (ho:o.op=.call { callee:=.builtin .append,args:=#[s,x],argTypes:=#[st,st] }) (hs:a.eval s=v) (hx:a.eval x=.slice (some ⟨w.heap.size,0,none⟩) 1 1) {K:Act→World→Prop} {R:Prop}
  (h:∀v' w',Own f size e B w' v' (l++[y])→w.grownBy w' v.ownBlock→Lies v v' w.heap.size→K (a.put o.dst v') w'):if Region.wanted o (yielded ops a.tmps)=true then Oper.wp Tryz.prog o a (w.alloc (.cells cs te)) K Q else R:=
 Ge_ (l2:=[y]) E h1 (hown.same (ga_ w _ _)) (Hn_ hf w y cs te hcs) rfl (by simpa using hb) (by simpa using h63) (by simp;omega) hgd s x ho hs hx
  fun v' w' h2 h3 h4=>h v' w' h2 (Aa_ (ga_ w _ _) h3) (h4.imp id fun⟨g,e1,e2⟩=>⟨g,e1,by simp at e2;omega⟩)
end
theorem RdL.take {α:Type} {f:α→List Value} {s:Nat} {w:World} {A:Option Addr} {n cap:Nat} {l:List α} (hf:∀x,(f x).length=s) (h:RdL f s w (.slice A n cap) l) {k:Nat} (hk:k≤l.length) (c:Nat):RdL f s w (.slice A k c) (l.take k):=by
 have hl :(l.take k).length=k:=by simp;omega
 refine⟨At_ f s hf _,by have:=h.2.1;omega,?_⟩
 rcases h.2.2 with⟨h0,_⟩ |⟨g,off,cap',hv,hg,hc⟩
 ·obtain rfl:k=0:=by omega
  exact .inl ⟨by omega,A,c,rfl⟩
 ·cases hv
  refine .inr ⟨g,off,c,by rw[hl],hg,fun j u hu=>hc j u ?_⟩
  have e:cellsOf f l=cellsOf f (l.take k)++cellsOf f (l.drop k):=by rw[←Aq_,List.take_append_drop]
  rw[e,List.getElem?_append_left (gs_ hu).1];exact hu
theorem RdL.drop {α:Type} {f:α→List Value} {s:Nat} {w:World} {A:Option Addr} {n cap:Nat} {l:List α} (hf:∀x,(f x).length=s) (h:RdL f s w (.slice A n cap) l) {k:Nat} (hk:k≤l.length) (hcap:l.length≤cap) (c:Nat) :
  RdL f s w (.slice (if cap=k then A else A.map (·.add (k*s))) (l.length-k) c) (l.drop k):=by
 have hl :(l.drop k).length=l.length-k:=by simp
 refine⟨At_ f s hf _,by have:=h.2.1;omega,?_⟩
 rcases Nat.eq_zero_or_pos (l.length-k) with h0|h0
 ·exact .inl ⟨by omega,_,c,by rw[h0]⟩
 ·rcases h.2.2 with⟨h1,_⟩ |⟨g,off,cap',hv,hg,hc⟩
  ·omega
  ·cases hv
   rw[if_neg (by omega)];refine .inr ⟨g,off+k*s,c,?_,hg,fun j u hu=>?_⟩
   ·rw[hl];simp only[Option.map_some]
    unfold Addr.add;split <;> simp_all
   ·have e:cellsOf f l=cellsOf f (l.take k)++cellsOf f (l.drop k):=by rw[←Aq_,List.take_append_drop]
    have e2 :(cellsOf f (l.take k)).length=k*s:=by rw[At_ f s hf,lk_,Nat.min_eq_left hk]
    rw[Nat.add_assoc];refine hc _ u ?_;rw[e,List.getElem?_append_right (by omega),e2,show k*s+j-k*s=j by omega];exact hu
theorem RdL.dropS {α:Type} {f:α→List Value} {s:Nat} {w:World} {g off n cap:Nat} {l:List α} (hf:∀x,(f x).length=s) (h:RdL f s w (.slice (some ⟨g,off,none⟩) n cap) l) {k:Nat} (hk:k≤l.length) (hcap:l.length≤cap) (c:Nat) :
  RdL f s w (.slice (if cap=k then some ⟨g,off,none⟩ else some ⟨g,off+k*s,none⟩) (l.length-k) c) (l.drop k):=by
 have:=h.drop hf hk hcap c
 have e:Option.map (fun a=>Addr.add a (k*s)) (some (⟨g,off,none⟩:Addr))=some ⟨g,off+k*s,none⟩:=by
  simp only[Option.map_some];unfold Addr.add;split <;> simp_all
 rw[e] at this;exact this
theorem RdL.drop1 {α:Type} {f:α→List Value} {w:World} {g off n cap:Nat} {l:List α} (hf:∀x,(f x).length=1) (h:RdL f 1 w (.slice (some ⟨g,off,none⟩) n cap) l) {k:Nat} (hk:k≤l.length) (hcap:l.length≤cap) (c:Nat) :
  RdL f 1 w (.slice (if cap=k then some ⟨g,off,none⟩ else some ⟨g,off+k,none⟩) (l.length-k) c) (l.drop k):=by
 have:=h.dropS hf hk hcap c
 rwa [Nat.mul_one] at this
theorem RdL.same {α:Type} {f:α→List Value} {s:Nat} {w w':World} {v:Value} {l:List α} (h:RdL f s w v l) (hg:w.grownBy w' none):RdL f s w' v l:=Rd.same h hg
theorem RdL.at_ {α:Type} {f:α→List Value} {w:World} {v:Value} {l:List α} {s:Nat} (h:RdL f s w v l) (hf:∀x,(f x).length=s) {k:Nat} (hk:k<l.length) :
  ∃g off cap,v=.slice (some ⟨g,off,none⟩) l.length cap∧g<w.heap.size∧∀j u,(f l[k])[j]?=some u→w.cell? ⟨g,off+k*s+j,none⟩=some u:=by
 obtain⟨g,off,cap,hv,hg,hc⟩:=h.cell hf (by omega);exact⟨g,off,cap,hv,hg,fun j u hu=>hc k l[k] (gq_ hk) j u hu⟩
theorem RdL.one {α:Type} {f:α→List Value} {u:α→Value} (hu:∀x,f x=[u x]) {w:World} {v:Value} {l:List α} (h:RdL f 1 w v l) {k:Nat} (hk:k<l.length) :
  ∃g off cap,v=.slice (some ⟨g,off,none⟩) l.length cap∧g<w.heap.size∧w.cell? ⟨g,off+k,none⟩=some (u l[k]):=by
 obtain⟨g,off,cap,hv,hg,hc⟩:=h.at_ (fun x=>by rw[hu];rfl) hk;refine⟨g,off,cap,hv,hg,?_⟩
 have:=hc 0 (u l[k]) (by rw[hu];rfl)
 simpa using this
theorem Aw_ {α:Type} (f:α→List Value) (s:Nat) {e:TypeId} {B:Nat} {w:World} (hB:B≤w.heap.size):Own f s e B (w.alloc (.cells #[] e)) (.slice (some ⟨w.heap.size,0,none⟩) 0 0) []:=
 ⟨by simp[cellsOf],.inr ⟨w.heap.size,0,#[],rfl,hB,heap_alloc_new w _,le_ _,zl_ _,by simp,by simp[cellsOf]⟩⟩
theorem Own.cap {α:Type} {f:α→List Value} {s:Nat} {e:TypeId} {B:Nat} {w:World} {a:Option Addr} {n c:Nat} {l:List α} (h:Own f s e B w (.slice a n c) l):l.length≤c:=by
 rcases h.2 with⟨hv,h0⟩ |⟨g,cap,cur,hv,_,_,h1,_⟩
 ·omega
 ·cases hv;exact h1
theorem Ca_ (x:Int):wordF x=[Value.int .u64 x]:=rfl
theorem Of_ (x:Int):intF x=[Value.int .i64 x]:=rfl
end
section
open Go.RowKit
def RetInt (k:Int) (w:World) (e:Ending) (w':World):Prop:=e=.returned (.int .i64 k)∧w.grownBy w' none
def B6_ (b:Bool) (w:World) (e:Ending) (w':World):Prop:=e=.returned (.bool b)∧w.grownBy w' none
theorem Ai_ {k k':Int} {w w':World} (h:k=k') (hg:w.grownBy w' none):RetInt k w (.returned (.int .i64 k')) w':=⟨by rw[h],hg⟩
theorem A7_ {k k':Bool} {w w':World} (h:k=k') (hg:w.grownBy w' none):B6_ k w (.returned (.bool k')) w':=⟨by rw[h],hg⟩
def RetWord (k:Int) (w:World) (e:Ending) (w':World):Prop:=e=.returned (.int .u64 k)∧w.grownBy w' none
theorem Bs_ {k k':Int} {w w':World} (h:k=k') (hg:w.grownBy w' none):RetWord k w (.returned (.int .u64 k')) w':=⟨by rw[h],hg⟩
def B8_ (v:Value) (w:World) (e:Ending) (w':World):Prop:=e=.returned v∧w.grownBy w' none
theorem Bf_ {v v':Value} {w w':World} (h:v=v') (hg:w.grownBy w' none):B8_ v w (.returned v') w':=⟨by rw[h],hg⟩
def W64 (n:Int):Prop:=0≤n∧n≤18446744073709551615
theorem Im_ {n:Int} (h :(Lit.int .u64 n).wf=true):W64 n:=by have:=bounds_u64 h;unfold W64;omega
theorem a3_ {n:Int} (h0:0≤n) (h1:n≤18446744073709551615):W64 n:=⟨h0,h1⟩
def satA (a b:Int):Int:=if a+b≤18446744073709551615 then a+b else 18446744073709551615
def fitA (a b:Int):Bool:=decide (a+b≤18446744073709551615)
def C8_ (k:Int) (b:Bool) (w:World) (e:Ending) (w':World):Prop:=e=.returned (.tuple #[.int .u64 k,.bool b])∧w=w'
theorem Lp_ {k k':Int} {b b':Bool} {w:World} (h:k=k') (hb:b=b'):C8_ k b w (.returned (.tuple #[.int .u64 k',.bool b'])) w:=⟨by rw[h,hb],rfl⟩
theorem B9_ {a b:Int} (ha:W64 a) (hb:W64 b):W64 (satA a b):=by unfold W64 satA at *;split <;> omega
def sumA (a b:Int):Int:=(a+b+0)%18446744073709551616
def carA (a b:Int):Int:=(a+b+0)/18446744073709551616
theorem P2_ {a b:Int} (ha:W64 a) (hb:W64 b) (h:fitA a b=true):sumA a b=satA a b∧(carA a b != 0)=false:=by
 unfold W64 fitA sumA satA carA at *;simp only[decide_eq_true_eq] at h;rw[if_pos h,bne_eq_false_iff_eq];omega
theorem Oo_ {a b:Int} (_:W64 a) (_:W64 b) (h:fitA a b=false):satA a b=18446744073709551615∧(carA a b != 0)=true:=by
 unfold W64 fitA satA carA at *;simp only[decide_eq_false_iff_not] at h;rw[if_neg h,bne_iff_ne];omega
theorem Qf_ (a b:Int) (ha:W64 a) (hb:W64 b) (w:World) :(callFunc 67 #[.int .u64 a,.int .u64 b,.int .u64 0]).run Tryz.prog w=.ok (.value (.tuple #[.int .u64 (sumA a b),.int .u64 (carA a b)])) w:=by
 rw[run_callFunc_extern (e:=add64Entry) func67 (by kernel_rfl) (by kernel_rfl) (by kernel_rfl) (by kernel_rfl),run_add64 a b 0 ha.1 hb.1 (by omega) (by omega)]
 rfl
theorem D2_ (a b:Int) (w:World) (ha:W64 a) (hb:W64 b):Calls Tryz.prog 28 #[.int .u64 a,.int .u64 b] w (C8_ (satA a b) (fitA a b) w):=by
 have hc:=Qf_ a b ha hb;cases hf:fitA a b
 ·obtain⟨h1,h2⟩:=Oo_ ha hb hf
  have H1:=hh_ h1;clear h1 hf ha hb
  go_enter func28,ntmps28
  go_wp2
  go_ret2
  exact Lp_ H1.out rfl
 ·obtain⟨h1,h2⟩:=P2_ ha hb hf
  have H1:=hh_ h1;clear h1 hf ha hb
  go_enter func28,ntmps28
  go_wp2
  go_ret2
  exact Lp_ H1.out.symm rfl
theorem ef_ (a b:Int):decide (18446744073709551615-b<a)=!fitA a b:=by
 unfold fitA;rw[Bool.eq_iff_iff];simp;omega
theorem Ub_ (a b:Int) (w:World) (ha:W64 a) (hb:W64 b):Calls Tryz.prog 31 #[.int .u64 a,.int .u64 b] w (C8_ (satA a b) (fitA a b) w):=by
 have hw:IntKind.u64.wrap (18446744073709551615-b)=18446744073709551615-b:=IntWalk.u64_in _ (by unfold W64 at *;omega);have hl:=ef_ a b;cases hf:fitA a b
 ·obtain⟨h1,h2⟩:=Oo_ ha hb hf
  have H1:=hh_ h1;rw[hf] at hl;clear h1 h2 hf ha hb
  go_enter func31,ntmps31
  go_wp2
  go_ret2
  exact Lp_ H1.out rfl
 ·obtain⟨h1,h2⟩:=P2_ ha hb hf
  have h3:satA a b=a+b:=by unfold satA;unfold fitA at hf;rw[if_pos (of_decide_eq_true hf)]
  have hw2:IntKind.u64.wrap (a+b)=a+b:=by rw[←h3];have:=B9_ ha hb;exact IntWalk.u64_in _ (by unfold W64 at this;omega)
  have H3:=hh_ h3;rw[hf] at hl;clear h1 h2 h3 hf ha hb
  go_enter func31,ntmps31
  go_wp2
  go_ret2
  exact Lp_ H3.out rfl
theorem Eg_ (a b:Int) (w:World) (ha:W64 a) (hb:W64 b):Calls Tryz.prog 68 #[.int .u64 a,.int .u64 b] w (fun e w'=>e=.returned (.int .u64 (satA a b))∧w=w'):=by
 go_enter func68,ntmps68
 go_wp2_with (go_at_call 31;refine(Ub_ a b _ ha hb).mono ?_;rintro e w' ⟨rfl,rfl⟩)
 go_ret
 exact⟨rfl,rfl⟩
end
section
open Go.RowKit Go.Sort
structure Ln where
 (key:ByteArray) (lo hi:Int)
def lnF (x:Ln):List Value:=[.string x.key,.int .u64 x.lo,.int .u64 x.hi]
theorem Ar_ (x:Ln) :(lnF x).length=3:=rfl
theorem Ey_:OneF lnF:=by intro x u hu;simp[lnF] at hu;rcases hu with rfl|rfl|rfl <;> rfl
theorem Ez_:Elt 23 46 (.agg #[.string ⟨#[]⟩,.int .u64 0,.int .u64 0]) 3 32:=⟨underlying23,by kernel_rfl,rfl,by decide⟩
abbrev lnV (x:Ln):Value:=.agg #[.string x.key,.int .u64 x.lo,.int .u64 x.hi]
def befB (x y:Ln):Bool:=decide (y.hi<x.hi)||(decide (x.hi=y.hi)&&decide (x.key.data.toList<y.key.data.toList))
theorem ac_ (a b:ByteArray):Op.bytesLess a.toList b.toList=decide (a.data.toList<b.data.toList):=by
 rw[ByteArray.toList_eq,ByteArray.toList_eq,bytesLess_eq]
theorem Yo_ (x y:Ln) (w:World):Calls Tryz.prog 102 #[lnV x,lnV y] w (B6_ (befB x y) w):=by
 have hb:=ac_ x.key y.key;obtain⟨b,hd⟩:∃b,decide (x.key.data.toList<y.key.data.toList)=b:=⟨_,rfl⟩;rw[hd] at hb
 by_cases h1:y.hi<x.hi
 ·have HB:=hh_ (show befB x y=true by simp[befB,h1])
  clear hd;generalize befB x y=q at *
  go_enter func102,ntmps102
  go_wp2
  go_ret
  exact A7_ HB.out (Ad_ (Ad_ (Ab_ _ _) _) _)
 ·have h1':decide (y.hi<x.hi)=false:=by simpa using h1
  by_cases h2:x.hi=y.hi
  ·have h2' :((x.hi:Int)==y.hi)=true:=by simp[h2]
   have HB:=hh_ (show befB x y=b by unfold befB;rw[h1',hd,dt_ h2];rfl);clear hd h2;generalize befB x y=q at *
   go_enter func102,ntmps102
   go_wp2
   go_ret
   exact A7_ HB.out (Ad_ (Ad_ (Ab_ _ _) _) _)
  ·have h2' :((x.hi:Int)==y.hi)=false:=by simp[h2]
   have HB:=hh_ (show befB x y=false by simp[befB,h1',h2]);clear hd h2;generalize befB x y=q at *
   go_enter func102,ntmps102
   go_wp2
   go_ret
   exact A7_ HB.out (Ad_ (Ad_ (Ab_ _ _) _) _)
end
section
namespace Tail
variable {n:Nat} {P:Program} {ops:Array Oper} {C:World→Prop} {Q:Exit→Act→World→Prop}
def waitsB (ops:Array Oper):Nat→Nat→Nat→Bool
 | 0,_,_=>false
 | f+1,j,i=>match ops[j]? with
  | none=>false
  | some o=>o.after.any fun e=>Region.binds .any e&&(e.on==i||waitsB ops f e.on i)
def okB (ops:Array Oper) (n:Nat):Bool:=
 (List.range ops.size).all fun j=>match ops[j]? with
  | none=>true
  | some o=>(o.after.all fun e=>!Region.binds .any e||decide (e.on<j)) &&
    (decide (j<n)||(List.range j).all fun i=>waitsB ops 4 j i)
theorem back (h:okB ops n=true) {j:Nat} {o:Oper} (hj:ops[j]?=some o):∀e∈o.after,Region.binds .any e=true→e.on<j:=by
 intro e he hb;have h1:=List.all_eq_true.1 h j (List.mem_range.2 (Array.getElem?_eq_some_iff.1 hj).1);simp only[hj,Bool.and_eq_true] at h1;have h2:=Array.all_eq_true_iff_forall_mem.1 h1.1 e he
 simpa [hb] using h2
def Closed (ops:Array Oper) (listed:Array Bool):Prop:=∀(j:Nat) (o:Oper),ops[j]?=some o→listed.getD j true=true→∀e∈o.after,Region.binds .any e=true→listed.getD e.on false=true
theorem reach {listed:Array Bool} (hc:Closed ops listed):∀(f j i:Nat) (o:Oper),ops[j]?=some o→(∀e∈o.after,Region.binds .any e=true→listed.getD e.on false=true)→waitsB ops f j i=true→listed.getD i false=true
 | 0,_,_,_,_,_,h=>by simp[waitsB] at h
 | f+1,j,i,o,hj,hd,h=>by
  simp only[waitsB,hj] at h;obtain⟨e,he,h4⟩:=Array.any_eq_true'.1 h;simp only[Bool.and_eq_true,Bool.or_eq_true,beq_iff_eq] at h4;have h5:=hd e he h4.1
  rcases h4.2 with h6|h6
  ·rw[←h6];exact h5
  ·cases ho:ops[e.on]? with
   | none=>cases f <;> simp[waitsB,ho] at h6
   | some o'=>
    refine reach hc f e.on i o' ho (hc e.on o' ho ?_) h6
    have:e.on<listed.size:=by
     rcases Nat.lt_or_ge e.on listed.size with h'|h'
     ·exact h'
     ·simp[Array.getElem?_eq_none h'] at h5
    simp[this] at h5 ⊢;exact h5
theorem waits (h:okB ops n=true) {listed:Array Bool} (hc:Closed ops listed) {j:Nat} {o:Oper} (hj:ops[j]?=some o) (hn:n≤j) {i:Nat} (hi:i<j)
  (hd:∀e∈o.after,Region.binds .any e=true→listed.getD e.on false=true):listed.getD i false=true:=by
 have h1:=List.all_eq_true.1 h j (List.mem_range.2 (Array.getElem?_eq_some_iff.1 hj).1);simp only[hj,Bool.and_eq_true,Bool.or_eq_true,decide_eq_true_eq] at h1
 rcases h1.2 with h2|h2
 ·omega
 ·exact reach hc 4 j i o hj hd (List.all_eq_true.1 h2 i (List.mem_range.2 hi))
def Upto (listed:Array Bool) (N m:Nat):Prop:=listed.size=N∧∀i,i<N→listed.getD i true=decide (i<m)
theorem Upto.getF {listed:Array Bool} {N m:Nat} (h:Upto listed N m) {i:Nat} (hi:i<N):listed.getD i false=decide (i<m):=by
 rw[←h.2 i hi]
 have:i<listed.size:=by rw[h.1];exact hi
 simp[this]
theorem Upto.closed {listed:Array Bool} {m:Nat} (hok:okB ops n=true) (h:Upto listed ops.size m):Closed ops listed:=by
 intro j o hj hl e he hb;have h1:=back hok hj e he hb;have h2:=(Array.getElem?_eq_some_iff.1 hj).1;rw[h.2 j h2] at hl;simp only[decide_eq_true_eq] at hl;rw[h.getF (by omega)]
 simp;omega
theorem Upto.next {listed:Array Bool} {N m:Nat} (h:Upto listed N m) (_:m<N):Upto (listed.setIfInBounds m true) N (m+1):=by
 refine⟨by simp[h.1],fun i hi=>?_⟩
 by_cases e:m=i
 ·subst e
  have:m<listed.size:=by rw[h.1];exact hi
  simp[this]
 ·rw[getD_set_ne true e,h.2 i hi]
  simp;omega
theorem tail_any (hok:okB ops n=true):∀(k m:Nat) (listed:Array Bool) (a:Act) (w:World) (fuel:Nat),n≤m→m+k=ops.size→k≤fuel→Upto listed ops.size m →
  wpList P ops Q (ops.toList.drop m) a w→wpAny P .any ops Q fuel listed a w:=by
 intro k
 induction k with
 | zero=>
  intro m listed a w fuel hn hm hf hu h
  have hr:Region.ready .any ops listed=[]:=by
   rw[List.eq_nil_iff_forall_not_mem];intro i hi;rw[mem_ready] at hi;obtain⟨h0,o,ho,_⟩:=hi;have hi':=(Array.getElem?_eq_some_iff.1 ho).1;rw[hu.2 i hi'] at h0
   simp at h0;omega
  have hd:ops.toList.drop m=[]:=List.drop_eq_nil_of_le (by simp;omega);rw[hd] at h
  cases fuel with
  | zero=>exact⟨hr,h⟩
  | succ f=>exact⟨fun _=>h,by rw[hr];simp⟩
 | succ k ih=>
  intro m listed a w fuel hn hm hf hu h
  have hlt:m<ops.size:=by omega
  have ho:ops[m]?=some ops[m]:=Array.getElem?_eq_getElem hlt
  have hin:m∈Region.ready .any ops listed:=by
   rw[mem_ready];refine⟨by rw[hu.2 m hlt];simp,_,ho,fun e he hb=>?_⟩
   have:=back hok ho e he hb
   rw[hu.getF (by omega)];simpa using this
  have hall:∀i∈Region.ready .any ops listed,i=m:=by
   intro i hi;rw[mem_ready] at hi;obtain⟨h0,o,hoi,hdep⟩:=hi;have hi':=(Array.getElem?_eq_some_iff.1 hoi).1;rw[hu.2 i hi'] at h0
   simp at h0
   by_cases e:i=m
   ·exact e
   ·exfalso
    have:=waits hok (hu.closed hok) hoi (by omega) (show m<i by omega) hdep
    rw[hu.getF hlt] at this
    simp at this
  cases fuel with
  | zero=>omega
  | succ f=>
   refine⟨fun h0=>(by rw[h0] at hin;cases hin),fun i hi=>?_⟩;rw[hall i hi]
   have hd:ops.toList.drop m=ops[m]::ops.toList.drop (m+1):=by
    rw[List.drop_eq_getElem_cons (by simpa using hlt)];simp
   rw[hd] at h
   have h':wpOp P ops Q m (wpList P ops Q (ops.toList.drop (m+1))) a w:=by
    unfold wpOp;simp only[ho];exact h
   exact wpOp_mono (fun a' w' hk=>ih (m+1) _ a' w' f (by omega) (by omega) (by omega) (hu.next hlt) hk) h'
def Pair (n N:Nat) (lt lf:Array Bool):Prop:=lt.size=N∧lf.size=N∧∀i,i<N→(i<n→lt.getD i true=lf.getD i true)∧(n≤i→lt.getD i true=true∧lf.getD i true=false)
theorem getF_of {l:Array Bool} {N i:Nat} (h:l.size=N) (hi:i<N):l.getD i false=l.getD i true:=by
 have:i<l.size:=by rw[h];exact hi
 simp[this]
theorem Closed.next {lf:Array Bool} (hc:Closed ops lf) (_:okB ops n=true) {i:Nat} (hi:i∈Region.ready .any ops lf):Closed ops (lf.setIfInBounds i true):=by
 obtain⟨_,o,ho,hd⟩:=mem_ready.1 hi;intro j o' hj hl e he hb;refine getD_set_true ?_
 by_cases h:i=j
 ·subst h;rw[ho] at hj;cases hj;exact hd e he hb
 ·rw[getD_set_ne true h] at hl;exact hc j o' hj hl e he hb
theorem head_any (hn:n≤ops.size) (hok:okB ops n=true) {QQ:Act→Prop} (hQ:∀a w,C w→QQ a→wpList P ops Q (ops.toList.drop n) a w) :
  ∀(fuel:Nat) (lt lf:Array Bool) (a:Act) (w:World) (fuel':Nat),fuel+(ops.size-n)≤fuel'→Pair n ops.size lt lf→Closed ops lf→C w→wpAnyQ P .any ops C QQ fuel lt a→wpAny P .any ops Q fuel' lf a w:=by
 intro fuel
 -- if nothing is ready in the quiet walk, all of the head has come up
 have done:∀(lt lf:Array Bool),Pair n ops.size lt lf→Region.ready .any ops lt=[]→Upto lf ops.size n:=by
  intro lt lf hp hr;refine⟨hp.2.1,?_⟩
  have key:∀i,i<n→lf.getD i true=true:=by
   intro i
   induction i using Nat.strongRecOn with
   | _ i ih=>
    intro hi
    have hlt:i<ops.size:=by omega
    cases hv:lf.getD i true with
    | true=>rfl
    | false=>
     exfalso
     have hin:i∈Region.ready .any ops lt:=by
      rw[mem_ready];refine⟨by rw[(hp.2.2 i hlt).1 hi,hv],_,Array.getElem?_eq_getElem hlt,fun e he hb=>?_⟩;have hb':=back hok (Array.getElem?_eq_getElem hlt) e he hb;rw[getF_of hp.1 (show e.on<ops.size by omega),(hp.2.2 e.on (by omega)).1 (by omega)];exact ih e.on hb' (by omega)
     rw[hr] at hin;cases hin
  intro i hi
  by_cases h:i<n
  ·rw[key i h];simpa using h
  ·rw[((hp.2.2 i hi).2 (by omega)).2];simpa using h
 induction fuel with
 | zero=>
  intro lt lf a w fuel' hf hp hcl hC h;exact tail_any hok (ops.size-n) n lf a w fuel' (le_ _) (by omega) (by omega) (done lt lf hp h.1) (hQ a w hC h.2)
 | succ fuel ih=>
  intro lt lf a w fuel' hf hp hcl hC h
  by_cases hr:Region.ready .any ops lt=[]
  ·exact tail_any hok (ops.size-n) n lf a w fuel' (le_ _) (by omega) (by omega) (done lt lf hp hr) (hQ a w hC (h.1 hr))
  ·obtain⟨i0,hi0⟩:=List.exists_mem_of_ne_nil _ hr
   have h0:=mem_ready.1 hi0;obtain⟨hun,o0,ho0,hd0⟩:=h0
   have hi0n:i0<n:=by
    rcases Nat.lt_or_ge i0 n with h'|h'
    ·exact h'
    ·have:=((hp.2.2 i0 (Array.getElem?_eq_some_iff.1 ho0).1).2 h').1
     rw[this] at hun;cases hun
   have hi0s:=(Array.getElem?_eq_some_iff.1 ho0).1
   -- what is ready in the one is ready in the other
   have hsub:∀i∈Region.ready .any ops lf,i<n∧i∈Region.ready .any ops lt:=by
    intro i hi;obtain⟨hu,o,ho,hd⟩:=mem_ready.1 hi;have his:=(Array.getElem?_eq_some_iff.1 ho).1
    rcases Nat.lt_or_ge i n with h'|h'
    ·refine⟨h',mem_ready.2 ⟨by rw[(hp.2.2 i his).1 h'];exact hu,o,ho,fun e he hb=>?_⟩⟩
     have hb':=back hok ho e he hb;rw[getF_of hp.1 (by omega),(hp.2.2 e.on (by omega)).1 (by omega),←getF_of hp.2.1 (by omega)];exact hd e he hb
    ·exfalso
     have:=waits hok hcl ho h' (show i0<i by omega) hd
     rw[getF_of hp.2.1 hi0s,←(hp.2.2 i0 hi0s).1 hi0n,hun] at this;cases this
   have hrf:i0∈Region.ready .any ops lf:=by
    refine mem_ready.2 ⟨by rw[←(hp.2.2 i0 hi0s).1 hi0n];exact hun,o0,ho0,fun e he hb=>?_⟩;have hb':=back hok ho0 e he hb;rw[getF_of hp.2.1 (by omega),←(hp.2.2 e.on (by omega)).1 (by omega),←getF_of hp.1 (by omega)];exact hd0 e he hb
   cases fuel' with
   | zero=>omega
   | succ f=>
    refine⟨fun h0=>(by rw[h0] at hrf;cases hrf),fun i hi=>?_⟩;obtain⟨hin,hil⟩:=hsub i hi;refine wpOp_of_qOp (C:=C) hC (fun a' w' hC' hk=>ih _ _ a' w' f (by omega) ?_ (hcl.next hok hi) hC' hk) (h.2 i hil);refine⟨by simp[hp.1],by simp[hp.2.1],fun j hj=>?_⟩
    by_cases e:i=j
    ·subst e
     have q1:i<lt.size:=by rw[hp.1];exact hj
     have q2:i<lf.size:=by rw[hp.2.1];exact hj
     exact⟨fun _=>by simp[q1,q2],fun h=>by omega⟩
    ·rw[getD_set_ne true e,getD_set_ne true e];exact hp.2.2 j hj
theorem lexH (hs:Region.noSelect ops=true) {QQ:Act→Prop}:∀(l:List Oper) (k:Nat) (listed:Array Bool) (a:Act),(∀j,j<l.length→l[j]?=ops[k+j]?) →
  Region.lexFrom .any ops l.length k listed=true→wpQuiet P ops C QQ l a→wpAnyQ P .any ops C QQ l.length listed a
 | [],_,_,_,_,hB,h=>⟨by simpa [Region.lexFrom] using hB,h⟩
 | o::l,k,listed,a,hl,hB,h=>by
  have h0:ops[k]?=some o:=by simpa using (hl 0 (by simp)).symm
  simp only[lc_,Region.lexFrom,Bool.and_eq_true] at hB;obtain⟨⟨hr,hf⟩,hB'⟩:=hB;obtain⟨v,hy,hK⟩:=yieldsIn_of_qOp h0 (show qOp P ops C k (wpQuiet P ops C QQ l) a by unfold qOp;simp only[h0];exact h)
  exact wpAnyQ_first h0 (Region.noSelect_spec hs) l.length listed a (Region.free_spec h0 hf) (by simpa using hr) hy
   (lexH hs l (k+1) _ _ (fun j hj=>by have:=hl (j+1) (by simpa using hj);simpa [Nat.add_assoc,Nat.add_comm 1 j] using this) hB' hK)
def tailB (ops:Array Oper) (n:Nat):Bool:=
 decide (n≤ops.size)&&okB ops n&&Region.noSelect ops&&Region.lexFrom .any ops n 0 (Array.replicate n false++Array.replicate (ops.size-n) true)
theorem wp_region_tail {id:Nat} {a:Act} {w:World} {l:List Oper} (n:Nat) (hm:P.follows .mixedOrders=true) (hB:tailB l.toArray n=true) (hC:C { w with drawn:=w.drawn+1 })
  (h:wpQuiet P l.toArray C (fun a'=>∀w',C w'→wpList P l.toArray Q (l.drop n) a' w') (l.take n) a) :(Code.region id l.toArray true).wp P Q a w:=by
 simp only[tailB,Bool.and_eq_true,decide_eq_true_eq] at hB;obtain⟨⟨⟨hn,hok⟩,hs⟩,hlex⟩:=hB
 have hn':n≤l.length:=by simpa using hn
 have hl :(l.take n).length=n:=by simp;omega
 refine wp_region_any hm ?_
 refine head_any (C:=C) (QQ:=fun a'=>∀w',C w'→wpList P l.toArray Q (l.drop n) a' w') hn hok (fun a w hC h=>by simpa using h w hC) n
  (Array.replicate n false++Array.replicate (l.toArray.size-n) true) (Array.replicate l.toArray.size false) a _ l.toArray.size (by omega) ?_ ?_ hC ?_
 ·refine⟨by simp;omega,by simp,fun i hi=>⟨fun h=>?_,fun h=>?_⟩⟩
  ·have hi':i<l.length:=by simpa using hi
   simp[Array.getElem?_append,h,hi']
  ·have hi':i<l.length:=by simpa using hi
   have h1:¬i<n:=by omega
   have h2:i-n<l.length-n:=by omega
   simp[Array.getElem?_append,h1,h2,hi']
 ·intro j o hj hl
  have hj':=(Array.getElem?_eq_some_iff.1 hj).1
  have hj2:j<l.length:=by simpa using hj'
  have hf :(Array.replicate l.toArray.size false).getD j true=false:=by simp[hj2]
  rw[hf] at hl;cases hl
 ·have:=lexH (P:=P) (C:=C) hs (QQ:=fun a'=>∀w',C w'→wpList P l.toArray Q (l.drop n) a' w') (l.take n) 0 (Array.replicate n false++Array.replicate (l.toArray.size-n) true) a
   (fun j hj=>by rw[hl] at hj;simp[hj]) (by rw[hl];exact hlex) h
  rw[hl] at this;exact this
theorem Closed.next' {lf:Array Bool} (hc:Closed ops lf) {i:Nat} (hi:i∈Region.ready .any ops lf):Closed ops (lf.setIfInBounds i true):=by
 obtain⟨_,o,ho,hd⟩:=mem_ready.1 hi;intro j o' hj hl e he hb;refine getD_set_true ?_
 by_cases h:i=j
 ·subst h;rw[ho] at hj;cases hj;exact hd e he hb
 ·rw[getD_set_ne true h] at hl;exact hc j o' hj hl e he hb
def closedB (ops:Array Oper) (listed:Array Bool):Bool:=
 (List.range ops.size).all fun j=>match ops[j]? with
  | none=>true
  | some o=>!listed.getD j true||o.after.all fun e=>!Region.binds .any e||listed.getD e.on false
theorem closed_of {listed:Array Bool} (h:closedB ops listed=true):Closed ops listed:=by
 intro j o hj hl e he hb;have h1:=List.all_eq_true.1 h j (List.mem_range.2 (Array.getElem?_eq_some_iff.1 hj).1);simp only[hj,hl,Bool.not_true,Bool.false_or] at h1;have h2:=Array.all_eq_true_iff_forall_mem.1 h1 e he
 simpa [hb] using h2
theorem take_put {md:Region.Mode} (i d:Nat) (v:Value) {oi:Oper} {fuel:Nat} {listed:Array Bool} {a:Act} {w:World} (hi:ops[i]?=some oi) (hd:oi.dst=some d)
  (hs:Region.noSelect ops=true) (hf:Region.free md ops listed i=true) (hr :(Region.ready md ops listed).contains i=true)
  (hQ:∀c a w,Q (.panic c) (a.put oi.dst v) w→Q (.panic c) a w) (hy:Yields P ops oi v a)
  (h:wpAny P md ops Q fuel (listed.setIfInBounds i true) ⟨a.tmps.setIfInBounds d v,a.defers⟩ w):wpAny P md ops Q (fuel+1) listed a w:=
 wpAny_take hi hs hf hr hQ hy (by unfold Act.put;rw[hd];exact h)
open Go.RowKit Go.Sort
theorem wp_region_tail_grown {id:Nat} {a:Act} {w:World} {l:List Oper} (n:Nat) (hm:P.follows .mixedOrders=true) (hB:tailB l.toArray n=true)
  (h:wpQuiet P l.toArray (fun w'=>∃p:Regrown,w'=grow (redrawn w p.d) p.os) (fun a'=>∀w',(∃p:Regrown,w'=grow (redrawn w p.d) p.os)→wpList P l.toArray Q (l.drop n) a' w') (l.take n) a) :(Code.region id l.toArray true).wp P Q a w:=
 wp_region_tail (C:=fun w'=>∃p:Regrown,w'=grow (redrawn w p.d) p.os) n hm hB ⟨⟨w.drawn+1,#[]⟩,by rw[grow_empty];rfl⟩ h
theorem wp_region_tail_drawn {id:Nat} {a:Act} {w:World} {l:List Oper} (n:Nat) (hm:P.follows .mixedOrders=true) (hB:tailB l.toArray n=true)
  (h:wpQuiet P l.toArray (fun w'=>∃k,w'=w.drewN k) (fun a'=>∀w',(∃k,w'=w.drewN k)→wpList P l.toArray Q (l.drop n) a' w') (l.take n) a) :(Code.region id l.toArray true).wp P Q a w:=
 wp_region_tail (C:=fun w'=>∃k,w'=w.drewN k) n hm hB ⟨1,rfl⟩ h
end Tail
theorem Gy_ {a b:World} (h:a.grownBy b none):Go.RowKit.Below a.heap.size a b:=⟨h.os,h.tape,h.output,h.size,fun i hi=>h.block i hi (by simp)⟩
open Go.Sort in
theorem A1_ (w:World) (d:Nat) (os:Array Obj):w.grownBy (grow (redrawn w d) os) none:=by
 have h:=below_regrown w d os;exact⟨h.os,h.tape,h.output,h.size,fun k hk _=>h.block k hk⟩
open Go.Sort in
theorem Bi_ {P:Program} {f:FuncId} {args:Array Value} {w:World} {v:Value}
  (h:∀w',w.grownBy w' none→Calls P f args w' fun e w''=>e=.returned v∧w'.grownBy w'' none) (d:Nat) (os:Array Obj) :
  Calls P f args (grow (redrawn w d) os) fun e w''=>e=.returned v∧∃p:Regrown,w''=grow (redrawn w p.d) p.os:=
 Calls.regrown_of ((h _ (A1_ w d os)).mono fun _ _ ⟨he,hg⟩=>⟨he,Gy_ hg⟩)
end
section
open Go.RowKit
abbrev bndV (lo hi:Int):Value:=.agg #[.int .u64 lo,.int .u64 hi]
abbrev entV (k:ByteArray) (own slack:Int):Value:=.agg #[.string k,.int .u64 own,.int .u64 slack]
theorem f6_ (k:ByteArray) (own slack:Int) (w:World) (h1:W64 own) (h2:W64 slack):Calls Tryz.prog 187 #[entV k own slack] w (B8_ (bndV own (satA own slack)) w):=by
 go_enter func187,ntmps187
 go_wp2_with fail
 (refine Tail.wp_region_tail_drawn 8 (by kernel_rfl) (by kernel_rfl) ?_;simp only[List.take,List.drop];(repeat(go_big_quiet_step ((go_at_call 68;exact Calls.quiet_of_same ((Eg_ own slack _ h1 h2).mono fun _ _ ⟨he,hw⟩=>⟨he,hw.symm⟩)))));refine wn_ ?_;rintro _ ⟨nq,rfl⟩)
 go_wp2_with fail
 refine bodyPost_ret (v:=bndV own (satA own slack)) (by simp[results,results187,go_sem]) rfl ?_;exact Bf_ rfl gw_
theorem aj_ (lo hi m:Int) (w:World):Calls Tryz.prog 186 #[bndV lo hi,.int .u64 m] w (B8_ (bndV (min lo m) (min hi m)) w):=by
 go_enter func186,ntmps186
 go_wp2
 refine bodyPost_ret (v:=bndV (min lo m) (min hi m)) (by simp[results,results186,go_sem]) rfl ?_;exact Bf_ rfl gw_
theorem ej_ (lo hi lo' hi':Int) (w:World) (h1:W64 lo) (h2:W64 hi) (h3:W64 lo') (h4:W64 hi'):Calls Tryz.prog 168 #[bndV lo hi,bndV lo' hi'] w (B8_ (bndV (satA lo lo') (satA hi hi')) w):=by
 go_enter func168,ntmps168
 go_wp2_with fail
 have r4:=fun w=>Eg_ lo lo' w h1 h3
 have r5:=fun w=>Eg_ hi hi' w h2 h4
 (refine Tail.wp_region_tail_drawn 11 (by kernel_rfl) (by kernel_rfl) ?_;simp only[List.take,List.drop];(repeat(go_big_quiet_step (first |(with_reducible exact Calls.quiet_of_same ((r4 _).mono fun _ _ ⟨he,hw⟩=>⟨he,hw.symm⟩)) |(with_reducible exact Calls.quiet_of_same ((r5 _).mono fun _ _ ⟨he,hw⟩=>⟨he,hw.symm⟩)))));refine wn_ ?_;rintro _ ⟨nq,rfl⟩)
 clear r4 r5
 go_wp2_with fail
 refine bodyPost_ret (v:=bndV (satA lo lo') (satA hi hi')) (by simp[results,results168,go_sem]) rfl ?_;exact Bf_ rfl gw_
def G9_ (own slack m:Int):Bool:=decide (own+slack≤m)
theorem Pe_ (own slack m:Int) (w:World) (h1:W64 own) (h2:W64 slack) (h3:W64 m):Calls Tryz.prog 185 #[.int .u64 own,.int .u64 slack,.int .u64 m] w (B6_ (G9_ own slack m) w):=by
 by_cases hle:own≤m
 ·have d1:decide (own≤m)=true:=dt_ hle
  have hw:IntKind.u64.wrap (m-own)=m-own:=IntWalk.u64_in _ (by unfold W64 at *;omega)
  have hx:G9_ own slack m=decide (slack≤m-own):=by unfold G9_;rw[Bool.eq_iff_iff];simp;omega
  have Hx:=hh_ hx;clear hx hle h1 h2 h3
  go_enter func185,ntmps185
  go_wp2
  go_ret
  exact A7_ Hx.out (Ab_ _ _)
 ·have d1:decide (own≤m)=false:=df_ hle
  have hx:G9_ own slack m=false:=by unfold G9_;unfold W64 at *;simp;omega
  have Hx:=hh_ hx;clear hx hle h1 h2 h3
  go_enter func185,ntmps185
  go_wp2
  go_ret
  exact A7_ Hx.out (Ab_ _ _)
abbrev ez_ (k:ByteArray) (lo hi:Int):Value:=.agg #[.string k,.int .u64 lo,.int .u64 hi]
structure Ent where
 (key:ByteArray) (own slack:Int)
def entF (e:Ent):List Value:=[.string e.key,.int .u64 e.own,.int .u64 e.slack]
theorem Az_ (e:Ent) :(entF e).length=3:=rfl
def valF (v:Value):List Value:=[v]
theorem Nt_ (v:Value):valF v=[v]:=rfl
structure Summ where
 (total:Int) (ve:Value) (untr:Int) (vr:Value) (es:List Ent) (vs:List Value) (rows:List (List Int))
def sumF (s:Summ):List Value:=[.int .u64 s.total,s.ve,.int .u64 s.untr,s.vr]
theorem Pj_ (s:Summ) :(sumF s).length=4:=rfl
abbrev sumV (total:Int) (ve:Value) (untr:Int) (vr:Value):Value:=.agg #[.int .u64 total,ve,.int .u64 untr,vr]
structure SumRd (w:World) (s:Summ):Prop where
 es:RdL entF 3 w s.ve s.es
 vs:RdL valF 1 w s.vr s.vs
 len:s.vs.length=s.rows.length
 rows:∀(i:Nat) v row,s.vs[i]?=some v→s.rows[i]?=some row→RdL wordF 1 w v row
theorem SumRd.same {w w':World} {s:Summ} (h:SumRd w s) (hg:w.grownBy w' none):SumRd w' s:=
 ⟨h.es.same hg,h.vs.same hg,h.len,fun i v row hv hr=>(h.rows i v row hv hr).same hg⟩
structure SumW (s:Summ):Prop where
 total:W64 s.total
 untr:W64 s.untr
 es:∀e∈s.es,W64 e.own∧W64 e.slack
 rows:∀row∈s.rows,∀x∈row,W64 x
structure Cn_ (w:World) (v:Value) (l:List Summ):Prop where
 rd:RdL sumF 4 w v l
 all:∀s∈l,SumRd w s
 wf:∀s∈l,SumW s
theorem Cn_.same {w w':World} {v:Value} {l:List Summ} (h:Cn_ w v l) (hg:w.grownBy w' none):Cn_ w' v l:=
 ⟨h.rd.same hg,fun s hs=>(h.all s hs).same hg,h.wf⟩
theorem Cn_.at_ {w:World} {v:Value} {l:List Summ} (h:Cn_ w v l) {k:Nat} (hk:k<l.length) :
  ∃g off cap,v=.slice (some ⟨g,off,none⟩) l.length cap∧g<w.heap.size∧w.cell? ⟨g,off+k*4,none⟩=some (.int .u64 l[k].total)∧w.cell? ⟨g,off+k*4+1,none⟩=some l[k].ve ∧
   w.cell? ⟨g,off+k*4+2,none⟩=some (.int .u64 l[k].untr)∧w.cell? ⟨g,off+k*4+3,none⟩=some l[k].vr∧SumRd w l[k]∧SumW l[k]:=by
 obtain⟨g,off,cap,hv,hg,hc⟩:=h.rd.at_ Pj_ hk;exact⟨g,off,cap,hv,hg,hc 0 _ rfl,hc 1 _ rfl,hc 2 _ rfl,hc 3 _ rfl,h.all _ (mg_ hk),h.wf _ (mg_ hk)⟩
theorem B4_ {α:Type} {l:List α} {k:Nat} (h:k<l.length):l.take (k+1)=l.take k++[l[k]]:=tg_ h
def totalF (l:List Summ):Int:=l.foldl (fun n s=>satA n s.total) 0
theorem Nr_ (l:List Summ) (s:Summ):totalF (l++[s])=satA (totalF l) s.total:=by simp[totalF]
theorem Dr_:W64 0:=⟨by omega,by omega⟩
theorem Pk_ (v:Value) (l:List Summ) (w:World) (h:Cn_ w v l):Calls Tryz.prog 97 #[v] w (RetWord (totalF l) w):=by
 obtain⟨a,c,rfl⟩:=h.rd.shape;have hm:=h.rd.2.1;have H:=hh_ h;clear h
 go_enter func97,ntmps97
 go_wp2_with fail
 go_loopw [3,8] (fun s3 s8 wr=>∃k:Nat,k≤l.length∧s8=.int .i64 k∧s3=.int .u64 (totalF (l.take k))∧W64 (totalF (l.take k))∧w.grownBy wr none) (fun _ s8 _=>l.length-(RowKit.intOf s8).toNat)
 case atStart=>exact⟨0,zl_ _,rfl,rfl,Dr_,Ab_ _ _⟩
 case round=>
  obtain⟨k,hk,rfl,rfl,hT,hg⟩:=hrel
  by_cases hlt:k<l.length
  ·obtain⟨g,off,cap,hv,hgl,c0,c1,c2,c3,hR,hW⟩:=(H.out.same hg).at_ hlt
   cases hv;have HS:=hh_ (B4_ hlt);have Hs:=hh_ (Nr_ (l.take k) l[k]);have hW1:=hW.total;have hW2:=B9_ hT hW1;obtain⟨a1,k1,e1⟩:=hR.es.shape;obtain⟨a2,k2,e2⟩:=hR.vs.shape;rw[e1] at c1;rw[e2] at c3;clear hR hW e1 e2;generalize totalF (l.take k)=T at *;generalize l[k].total=t at *;generalize l[k].untr=u at *
   go_wp2_with (go_at_call 68;refine(Eg_ T t _ hT hW1).mono ?_;rintro e w' ⟨rfl,rfl⟩)
   exact⟨⟨k+1,by omega,by go_num,by rw[HS.out,Hs.out],by rw[HS.out,Hs.out];exact hW2,Ad_ hg _⟩,by simp[RowKit.intOf];omega⟩
  ·have hl:l.take k=l:=tk_ (by omega)
   rw[hl];clear hl
   go_wp2_with fail
   go_ret
   exact Bs_ rfl hg
end
section
open Go.RowKit
structure Cfg where
 (Length Lateness Windows Shards Spread Queue Mode Slots Exact Promote Depth Width Top Key:Int)
 (Classes Table:Value)
 (Seed:Int)
abbrev Cfg.val (c:Cfg):Value:=.agg #[.int .i64 c.Length,.int .i64 c.Lateness,.int .i64 c.Windows,.int .i64 c.Shards,.int .i64 c.Spread,.int .i64 c.Queue,.int .i64 c.Mode,.int .i64 c.Slots,.int .i64 c.Exact,.int .u64 c.Promote,.int .i64 c.Depth,.int .i64 c.Width,.int .i64 c.Top,.int .i64 c.Key,c.Classes,c.Table,.int .u64 c.Seed]
abbrev Cfg.arr (c:Cfg):Array Value:=#[.int .i64 c.Length,.int .i64 c.Lateness,.int .i64 c.Windows,.int .i64 c.Shards,.int .i64 c.Spread,.int .i64 c.Queue,.int .i64 c.Mode,.int .i64 c.Slots,.int .i64 c.Exact,.int .u64 c.Promote,.int .i64 c.Depth,.int .i64 c.Width,.int .i64 c.Top,.int .i64 c.Key,c.Classes,c.Table,.int .u64 c.Seed]
theorem Db_ :(Tryz.prog.info? 31).map (·.size)=some 17:=by kernel_rfl
structure BoxAt (w:World) (b:Nat) (c:Cfg):Prop where
 block:∃t f,w.heap[b]?=some (.cells c.arr t f)∧f =(0,0)
theorem BoxAt.lt {w:World} {b:Nat} {c:Cfg} (h:BoxAt w b c):b<w.heap.size:=by
 obtain⟨_,_,h,_⟩:=h.block;exact(Array.getElem?_eq_some_iff.1 h).1
theorem BoxAt.cell {w:World} {b:Nat} {c:Cfg} (h:BoxAt w b c) (i:Nat):w.cell? ⟨b,i,none⟩=c.arr[i]?:=by
 obtain⟨t,f,h,_⟩:=h.block;simp[World.cell?,h]
theorem BoxAt.kept {w w':World} {b:Nat} {c:Cfg} {r:Option Nat} (h:BoxAt w b c) (hg:w.grownBy w' r) (hr:r≠some b):BoxAt w' b c:=by
 obtain⟨t,f,hb,hf⟩:=h.block;exact⟨t,f,(hg.block b h.lt (fun e=>hr e.symm)).trans hb,hf⟩
theorem BoxAt.same {w w':World} {b:Nat} {c:Cfg} (h:BoxAt w b c) (hg:w.grownBy w' none):BoxAt w' b c:=h.kept hg (by simp)
theorem Al_ {ops:Array Oper} {rest:List Oper} {o:Oper} {a:Act} {w:World} {Q:Exit→Act→World→Prop} (hgd:o.guard=none) (x:Operand) (ho:o.op=.load 31 x)
  (b:Nat) (hx:a.eval x=.pointer (some ⟨b,0,none⟩)) (c:Cfg) (hb:BoxAt w b c) (h:wpList Tryz.prog ops Q rest (a.put o.dst c.val) w):wpList Tryz.prog ops Q (o::rest) a w:=by
 obtain⟨t,f,hbl,_⟩:=hb.block;exact wpList_load_row hgd _ x ho b hx t _ f _ hbl underlying31 rfl Db_ h
theorem A0_ {ops:Array Oper} {rest:List Oper} {o:Oper} {a:Act} {w:World} {Q:Exit→Act→World→Prop} (hw:Region.wanted o (yielded ops a.tmps)=true) (x:Operand) (ho:o.op=.load 31 x)
  (b:Nat) (hx:a.eval x=.pointer (some ⟨b,0,none⟩)) (c:Cfg) (hb:BoxAt w b c) (h:wpList Tryz.prog ops Q rest (a.put o.dst c.val) w):wpList Tryz.prog ops Q (o::rest) a w:=by
 obtain⟨t,f,hbl,_⟩:=hb.block
 exact BigFrame.wpList_want hw fun K hK=>wp_load_row _ x ho b hx t _ f _ hbl underlying31 rfl Db_ (hK _ _ h)
def readCfg (w:World) (b:Nat):Value:=match w.heap[b]? with|some (.cells cs _ _)=>.agg cs | _=>undef
def isCfg (w:World) (b:Nat):Bool:=match w.heap[b]? with|some (.cells cs _ _)=>cs.size==17 | _=>false
def Ki_ (v:Value):Sem Next:=do pure (.value (←Instr.loadAt 31 v))
theorem Ag_ (ρ:Operand→Value) (dst:Option Tmp) (x:Operand) (ty:TypeId) (pos:String) (after:Array Edge) (guard:Option (Nat×Bool)) :
  execOp ρ ⟨dst,.load 31 x,ty,pos,after,guard⟩=Ki_ (ρ x):=rfl
theorem Ah_ (w:World) (b:Nat) (h:isCfg w b=true) :(Ki_ (.pointer (some ⟨b,0,none⟩))).run Tryz.prog w=.ok (.value (readCfg w b)) w:=by
 unfold isCfg at h
 cases hb:w.heap[b]? with
 | none=>rw[hb] at h;cases h
 | some o=>
  cases o with
  | cells cs t f=>
   rw[hb] at h
   have hs:cs.size=17:=by simpa using h
   have:=run_loadVar_row (P:=Tryz.prog) w b t 31 cs f _ hb underlying31 rfl (by rw[Db_,hs])
   simp only[Ki_,Instr.loadAt,Instr.sureAddr,Sem.run_bind,Sem.run_pure,Result.andThen_ok,this,readCfg,hb]
  | _=>rw[hb] at h;cases h
theorem BoxAt.is {w:World} {b:Nat} {c:Cfg} (h:BoxAt w b c):isCfg w b=true:=by
 obtain⟨t,f,h,_⟩:=h.block;simp[isCfg,h]
theorem BoxAt.reads {w:World} {b:Nat} {c:Cfg} (h:BoxAt w b c):readCfg w b=c.val:=by
 obtain⟨t,f,h,_⟩:=h.block;simp[readCfg,h]
open Go.Sort in
theorem BoxAt.re {w:World} {b:Nat} {c:Cfg} (h:BoxAt w b c) :(∀d os,isCfg (grow (redrawn w d) os) b=true)∧(∀d os,readCfg (grow (redrawn w d) os) b=c.val)∧(∀d os i,(grow (redrawn w d) os).cell? ⟨b,i,none⟩=c.arr[i]?):=
 ⟨fun d os=>(h.same (A1_ w d os)).is,fun d os=>(h.same (A1_ w d os)).reads,fun d os=>(h.same (A1_ w d os)).cell⟩
theorem Nl_ (c:Cfg) (w:World) :(Instr.box 31 c.val).run Tryz.prog w=.ok (.pointer (some ⟨w.heap.size,0,none⟩)) (w.alloc (.cells c.arr 31)):=by kernel_rfl
theorem Au_ {ops:Array Oper} {rest:List Oper} {o:Oper} {a:Act} {w:World} {Q:Exit→Act→World→Prop} (hgd:o.guard=none) (x:Operand) (ho:o.op=.box 31 x)
  (c:Cfg) (hx:a.eval x=c.val) (h:∀w',BoxAt w' w.heap.size c→w.grownBy w' none→w.heap.size<w'.heap.size→wpList Tryz.prog ops Q rest (a.put o.dst (.pointer (some ⟨w.heap.size,0,none⟩))) w'):wpList Tryz.prog ops Q (o::rest) a w:=
 wpList_plain hgd fun _ hK=>by
  unfold Oper.wp execOp;simp only[ho,hx,Nl_,Sem.run_bind,Sem.run_pure,Result.andThen_ok];exact hK _ _ (h _ ⟨_,_,heap_alloc_new w _,rfl⟩ (ga_ w _ _) (by simp))
theorem BoxAt.free {w:World} {b:Nat} {c:Cfg} (h:BoxAt w b c) (i:Nat):w.frozen? ⟨b,i,none⟩=false:=by
 obtain⟨t,f,h,rfl⟩:=h.block;exact frozen_of_row w b i _ t h
theorem BoxAt.setF {w:World} {b:Nat} {c c':Cfg} (h:BoxAt w b c) (o:Nat) (v:Value) (hc:c.arr.setIfInBounds o v=c'.arr):BoxAt (w.setCell ⟨b,o,none⟩ v) b c':=by
 obtain⟨t,f,h,rfl⟩:=h.block;exact⟨t,_,by rw[D4_ v h,hc],rfl⟩
def Cfg.zero:Cfg:=⟨0,0,0,0,0,0,0,0,0,0,0,0,0,0,.slice none 0 0,.slice none 0 0,0⟩
theorem J9_ (w:World) :(Instr.alloc 31 true (.tuple #[])).run Tryz.prog w=.ok (.pointer (some ⟨w.heap.size,0,none⟩)) (w.alloc (.cells Cfg.zero.arr 31)):=by kernel_rfl
theorem C0_ {ops:Array Oper} {rest:List Oper} {o:Oper} {a:Act} {w:World} {Q:Exit→Act→World→Prop} (hgd:o.guard=none) (ho:o.op=.alloc 31)
  (h:∀w',BoxAt w' w.heap.size Cfg.zero→w.grownBy w' none→w.heap.size<w'.heap.size→wpList Tryz.prog ops Q rest (a.put o.dst (.pointer (some ⟨w.heap.size,0,none⟩))) w'):wpList Tryz.prog ops Q (o::rest) a w:=
 wpList_plain hgd fun _ hK=>by
  unfold Oper.wp execOp;simp only[ho,J9_,Sem.run_bind,Sem.run_pure,Result.andThen_ok];exact hK _ _ (h _ ⟨_,_,heap_alloc_new w _,rfl⟩ (ga_ w _ _) (by simp))
theorem C3_ {ops:Array Oper} {rest:List Oper} {o:Oper} {a:Act} {w:World} {Q:Exit→Act→World→Prop} (hgd:o.guard=none) (x y:Operand) (ho:o.op=.store 31 x y)
  (b:Nat) (hx:a.eval x=.pointer (some ⟨b,0,none⟩)) (c:Cfg) (hy:a.eval y=c.val) (h1:c.Classes.oneCell'=true) (h2:c.Table.oneCell'=true) (c0:Cfg) (hb:BoxAt w b c0)
  (h:∀w',BoxAt w' b c→w.grownBy w' (some b)→wpList Tryz.prog ops Q rest (a.put o.dst undef) w'):wpList Tryz.prog ops Q (o::rest) a w:=by
 obtain⟨t,f,hbl,rfl⟩:=hb.block;have hst:=run_storeCells_at Tryz.prog b 0 t c.arr.toList 0 c0.arr w hbl (by simp) (by intro v hv;simp at hv;rcases hv with rfl|rfl|rfl|rfl|rfl|rfl|rfl|rfl|rfl|rfl|rfl|rfl|rfl|rfl|rfl|rfl|rfl <;> first|rfl|assumption)
 have hz :(sizeOf 31).run Tryz.prog w=.ok 17 w:=by
  have:=Db_
  cases hq:Tryz.prog.info? 31 with
  | none=>rw[hq] at this;simp at this
  | some i=>rw[hq] at this;simp[sizeOf,typeInfo,hq];simpa using this
 refine wpList_plain hgd fun _ hK=>?_
 unfold Oper.wp execOp;simp only[ho,hx,hy,Instr.storeAt,Instr.sureAddr,storeVar,Sem.run_bind,Sem.run_pure,Result.andThen_ok,hz];simp only[Value.cells,List.size_toArray,lc_,List.length_nil,Nat.reduceAdd,ne_eq,not_true_eq_false,if_false];rw[hst];refine hK _ _ (h _ ⟨t,(0,0),?_,rfl⟩ ⟨rfl,rfl,rfl,by simp,fun k _ hk=>setRow_other w b k _ (fun e=>hk (by simp[e]))⟩);rw[setRow_heap w b c0.arr _ t _ hbl]
 simp
structure CfgNums (c:Cfg):Prop where
 length:1≤c.Length∧c.Length≤1048576
 lateness:0≤c.Lateness∧c.Lateness≤1048576
 windows:1≤c.Windows∧c.Windows≤8
 shards:1≤c.Shards∧c.Shards≤8
 spread:1≤c.Spread∧c.Spread≤c.Shards
 queue:1≤c.Queue∧c.Queue≤64
 mode:c.Mode=1∨c.Mode=2
 slots:1≤c.Slots∧c.Slots≤64
 exact:0≤c.Exact∧c.Exact≤32
 promote:0≤c.Promote∧c.Promote<18446744073709551616
 depth:1≤c.Depth∧c.Depth≤4
 width:1≤c.Width∧c.Width≤256
 top:1≤c.Top∧c.Top≤64
 key:1≤c.Key∧c.Key≤255
 seed:0≤c.Seed∧c.Seed<18446744073709551616
structure CfgMem (c:Cfg) (l:List (Int×Int)) (t:List Int) (w:World):Prop where
 classes:RdL clsF 2 w c.Classes l
 table:RdL wordF 1 w c.Table t
 tlen:t.length=16
 twords:J0_ t
theorem CfgMem.same {c:Cfg} {l:List (Int×Int)} {t:List Int} {w w':World} (h:CfgMem c l t w) (hg:w.grownBy w' none):CfgMem c l t w':=
 ⟨h.classes.same hg,h.table.same hg,h.tlen,h.twords⟩
structure F1_ (c:Cfg) (l:List (Int×Int)):Prop where
 ok:Og_ l
 last:∀p,l[l.length-1]?=some p→32≤p.1∧8*c.Width≤p.1∧c.Key≤p.1
theorem Y1_ (c:Cfg) (w:World) (hn:CfgNums c) :
  Calls Tryz.prog 109 #[c.val] w fun e w'=>e=.returned (.int .i64 0)∧w.grownBy w' none:=by
 obtain⟨h1,h2⟩:=hn.length;obtain⟨h3,h4⟩:=hn.lateness;obtain⟨h5,h6⟩:=hn.windows
 go_enter func109,ntmps109
 go_wp2
 go_ret
 exact⟨rfl,ga_ w _ _⟩
theorem Wz_ (c:Cfg) (l:List (Int×Int)) (t:List Int) (w:World) (hn:CfgNums c) (hm:CfgMem c l t w) :
  Calls Tryz.prog 110 #[c.val] w fun e w'=>e=.returned (.int .i64 0)∧w.grownBy w' none:=by
 obtain⟨h1,h2⟩:=hn.shards;obtain⟨h3,h4⟩:=hn.spread
 go_enter func110,ntmps110
 go_wp2_with (go_at_call 147;refine(ca_ _ t _ (hm.table.same (ga_ w _ _)) hm.tlen).mono ?_;rintro e w' ⟨rfl,rfl⟩)
 go_ret
 exact⟨rfl,ga_ w _ _⟩
end
section
open Go.RowKit
def Cd_ (l:List Int):Array Value:=(l.map (fun x=>Value.int .i64 x)).toArray
theorem Y6_ :(Tryz.prog.info? 3).map (fun i=>(i.zero,i.size,i.bytes))=some (some (.int .i64 0),1,8):=by kernel_rfl
theorem R1_ (n:Nat):madeCells #[Value.int .i64 0] n=Cd_ (List.replicate n 0):=by
 unfold madeCells Cd_
 apply Array.ext
 ·simp
 ·intro i h1 h2
  simp[Nat.mod_one]
theorem Sj_ (n:Nat) (hn:n≤1000000) (w:World) :
  (Instr.makeSlice 27 (.int .i64 n) (.int .i64 n)).run Tryz.prog w=.ok (.slice (some ⟨w.heap.size,0,none⟩) n n) (w.alloc (.cells (Cd_ (List.replicate n 0)) 3)):=by
 obtain⟨i0,hi,hz0,hz1,hz2⟩:=info_parts Y6_
 have:=run_make (P:=Tryz.prog) w 27 3 i0 (.int .i64 0) underlying27 hi hz0 .i64 .i64 n n (by omega) (by omega) (by rw[hz2];omega) (by omega)
 rw[this,hz1];simp only[Int.toNat_natCast,Nat.mul_one,Value.cells,R1_]
def OutAt (w:World) (B:Nat) (out:List Int):Prop:=w.heap[B]?=some (.cells (Cd_ out) 3)
theorem OutAt.new (w:World) (n:Nat):OutAt (w.alloc (.cells (Cd_ (List.replicate n 0)) 3)) w.heap.size (List.replicate n 0):=heap_alloc_new w _
theorem OutAt.lt {w:World} {B:Nat} {out:List Int} (h:OutAt w B out):B<w.heap.size:=(Array.getElem?_eq_some_iff.1 h).1
theorem OutAt.kept {w w':World} {B:Nat} {out:List Int} {r:Option Nat} (h:OutAt w B out) (hg:w.grownBy w' r) (hr:r≠some B):OutAt w' B out:=
 (hg.block B h.lt (fun e=>hr e.symm)).trans h
theorem OutAt.cell {w:World} {B:Nat} {out:List Int} (h:OutAt w B out) {k:Nat} (hk:k<out.length):w.cell? ⟨B,k,none⟩=some (.int .i64 (out.getD k 0)):=by
 unfold OutAt at h
 simp[World.cell?,h,Cd_,gq_ hk,List.getD_eq_getElem?_getD]
theorem OutAt.free {w:World} {B:Nat} {out:List Int} (h:OutAt w B out) (k:Nat):w.frozen? ⟨B,k,none⟩=false:=by
 unfold OutAt at h
 simp[World.frozen?,h]
theorem OutAt.set {w:World} {B:Nat} {out:List Int} (h:OutAt w B out) (k:Nat) (x:Int):OutAt (w.setCell ⟨B,k,none⟩ (.int .i64 x)) B (out.set k x):=by
 unfold OutAt;rw[D4_ _ h]
 simp[Cd_,List.map_set]
theorem OutAt.rd {w:World} {B:Nat} {out:List Int} (h:OutAt w B out) (hl:out.length≤9223372036854775807):RdL intF 1 w (.slice (some ⟨B,0,none⟩) out.length out.length) out:=by
 refine⟨by rw[At_ _ 1 A8_],hl,.inr ⟨B,0,out.length,rfl,h.lt,fun j u hu=>?_⟩⟩;have e:cellsOf intF out=out.map (fun x=>Value.int .i64 x):=Sa_ out;rw[e] at hu;unfold OutAt at h;simp only[World.cell?,h,Cd_,Nat.zero_add]
 simpa using hu
def Xc_ (k:Int) (w:World) (e:Ending) (w':World):Prop:=e=.returned (.int .u64 k)∧w=w'
def rotF (h k:Int):Int:=bits BinOp.or IntKind.u64 (IntKind.u64.wrap (h*2 ^ k.toNat)) (h/2 ^ (64-k).toNat)
theorem Qb_ (op:BinOp) (a b:Int):W64 (bits op IntKind.u64 a b):=by
 have h:=bounds_u64 (wf_bits op IntKind.u64 a b);unfold W64;omega
theorem Zz_ (h k:Int) (w:World) (_:W64 h) (h2:1≤k) (h3:k≤63):Calls Tryz.prog 179 #[.int .u64 h,.int .u64 k] w (Xc_ (rotF h k) w):=by
 go_enter func179,ntmps179
 go_wp2
 go_ret
 exact⟨rfl,rfl⟩
def slotF (h n:Int):Int:=h%n
theorem Gb_ (h n:Int) (hn:1≤n):0≤slotF h n∧slotF h n<n:=⟨Int.emod_nonneg _ (by omega),Int.emod_lt_of_pos _ (by omega)⟩
def No_ (k:Int) (w:World) (e:Ending) (w':World):Prop:=e=.returned (.int .i64 k)∧w=w'
theorem fw_ (h n:Int) (h1:W64 h) (h2:1≤n) (h3:n≤4611686018427387904):wrap64 (h.tmod n)=slotF h n:=by
 have e:h.tmod n=h%n:=Int.tmod_eq_emod_of_nonneg h1.1
 have:=Gb_ h n h2
 rw[e,wrap64];unfold slotF at this ⊢;omega
theorem Nn_ (h n:Int) (w:World) (h1:W64 h) (h2:1≤n) (h3:n≤4611686018427387904):Calls Tryz.prog 151 #[.int .u64 h,.int .i64 n] w (No_ (slotF h n) w):=by
 have H:=hh_ (fw_ h n h1 h2 h3);have hd:decide (n<1)=false:=df_ (by omega)
 go_enter func151,ntmps151
 go_wp2
 go_ret
 exact⟨congrArg (fun i=>Ending.returned (Value.int IntKind.i64 i)) H.out,rfl⟩
theorem Gn_ (a:Option Addr) (c:Nat) (w:World):Calls Tryz.prog 147 #[.slice a 16 c] w (No_ 0 w):=by
 go_enter func147,ntmps147
 go_wp2
 go_ret
 exact⟨rfl,rfl⟩
def stepF (t:List Int) (x:Int) (b:Nat):Int:=
 IntKind.u64.wrap (IntKind.u64.wrap (rotF (bits BinOp.xor IntKind.u64 (rotF x 5) (t.getD (b/16) 0)) 7+t.getD (b%16) 0)*11400714819323198485)
def F3_ (t:List Int) (s:Int) (l:List UInt8):Int:=l.foldl (fun x b=>stepF t x b.toNat) s
theorem Oa_ (t:List Int) (s:Int) (l:List UInt8) (b:UInt8):F3_ t s (l++[b])=stepF t (F3_ t s l) b.toNat:=by simp[F3_]
theorem U2_ (k:ByteArray) (i:Nat) (h:i<k.size):k.data.toList.take (i+1)=k.data.toList.take i++[k[i]]:=by
 rw[tg_ (by simpa using h)];rfl
def hashF (t:List Int) (s:Int) (k:ByteArray):Int:=
 bits BinOp.xor IntKind.u64 (F3_ t s k.data.toList) (F3_ t s k.data.toList/4294967296)
theorem Y0_ (t:List Int) (x:Int) (b:Nat):W64 (stepF t x b):=by
 unfold stepF
 have:=bounds_u64 (wf_wrap .u64 (IntKind.u64.wrap (rotF (bits BinOp.xor IntKind.u64 (rotF x 5) (t.getD (b/16) 0)) 7+t.getD (b%16) 0)*11400714819323198485))
 unfold W64;omega
theorem Kg_ (t:List Int) (s:Int) (k:ByteArray):W64 (hashF t s k):=Qb_ _ _ _
theorem R8_ (v:Value) (t:List Int) (s:Int) (k:ByteArray) (w:World) (h:RdL wordF 1 w v t) (ht:t.length=16) (hs:W64 s) (hk:k.size≤9223372036854775807) :
  Calls Tryz.prog 152 #[v,.int .u64 s,.string k] w (RetWord (hashF t s k) w):=by
 obtain⟨a,c,rfl⟩:=h.shape;have H:=hh_ h;have Hx:=hh_ (p:=hashF t s k=bits BinOp.xor IntKind.u64 (F3_ t s k.data.toList) (F3_ t s k.data.toList/4294967296)) rfl;rw[ht];clear h
 go_enter func152,ntmps152
 go_wp2_with (go_at_call 147;refine(Gn_ _ _ _).mono ?_;rintro e w' ⟨rfl,rfl⟩)
 go_loopw [7,8] (fun s7 s8 wr=>∃(i:Nat) (x:Int),i≤k.size∧s8=.int .i64 i∧s7=.int .u64 x∧x=F3_ t s (k.data.toList.take i)∧W64 x∧w.grownBy wr none) (fun _ s8 _=>k.size-(RowKit.intOf s8).toNat)
 case atStart=>exact⟨0,s,zl_ _,rfl,rfl,rfl,hs,Ab_ _ _⟩
 case round=>
  obtain⟨i,x,hi,rfl,rfl,hxe,hx,hg⟩:=hrel;have He:=hh_ hxe;clear hxe
  by_cases hlt:i<k.size
  ·have q0 :(0:Int)≤(i:Int):=by omega
   have q00 :(i:Int)<(k.size:Int):=by omega
   have HT:=hh_ (U2_ k i hlt);have HS:=hh_ (Oa_ t s (k.data.toList.take i) k[i]);have hb:k[i].toNat<256:=k[i].toNat_lt;obtain⟨b,hbe⟩:∃b,k[i].toNat=b:=⟨_,rfl⟩;rw[hbe] at HS hb
   have hq:b/16<t.length:=by omega
   have hr:b%16<t.length:=by omega
   obtain⟨g,off,cap,hv,hgl,c1⟩:=(H.out.same hg).one Ca_ hq;cases hv;obtain⟨g',off',cap',hv',hgl',c2⟩:=(H.out.same hg).one Ca_ hr;cases hv'
   have e1:t.getD (b/16) 0=t[b/16]:=by simp[List.getD_eq_getElem?_getD,gq_ hq]
   have e2:t.getD (b%16) 0=t[b%16]:=by simp[List.getD_eq_getElem?_getD,gq_ hr]
   have Hst:=hh_ (p:=stepF t x b=IntKind.u64.wrap (IntKind.u64.wrap (rotF (bits BinOp.xor IntKind.u64 (rotF x 5) t[b/16]) 7+t[b%16])*11400714819323198485)) (by unfold stepF;rw[e1,e2]);have hws:=Y0_ t x b;have hwb:=Qb_ BinOp.xor (rotF x 5) t[b/16]
   have q1 :(0:Int)≤(b:Int)/16:=by omega
   have q2 :(b:Int)/16<16:=by omega
   have q3 :((b:Int)/16).toNat=b/16:=by omega
   have q4 :(0:Int)≤(b:Int)%16:=by omega
   have q5 :(b:Int)%16<16:=by omega
   have q6 :((b:Int)%16).toNat=b%16:=by omega
   generalize t[b/16]=y1 at *;generalize t[b%16]=y2 at *;clear e1 e2 hq hr
   go_upto_region 7 with fail
   go_quiet ((go_at_call 179;exact Calls.quiet_of_same ((Zz_ x 5 _ hx (by omega) (by omega)).mono fun _ _ ⟨he,hw⟩=>⟨he,hw.symm⟩)))
   generalize bits BinOp.xor IntKind.u64 (rotF x 5) y1=x1 at *;have c2q :(wr.drewN nq).cell? ⟨g,off+b%16,none⟩=some (.int .u64 y2):=c2;have hgq:=Ae_ hg nq;clear c1 c2 hgl hgl' hg;generalize wr.drewN nq=wq at *
   go_upto_region 8 with fail
   go_quiet ((go_at_call 179;exact Calls.quiet_of_same ((Zz_ x1 7 _ hwb (by omega) (by omega)).mono fun _ _ ⟨he,hw⟩=>⟨he,hw.symm⟩)))
   clear q1 q2 q3 q4 q5 q6 hbe
   go_wp2_with fail
   exact⟨⟨i+1,_,by omega,by go_num,rfl,by rw[HT.out,HS.out,←He.out,Hst.out],by rw[←Hst.out];exact hws,Ae_ hgq _⟩,by simp[RowKit.intOf];omega⟩
  ·have hl:k.data.toList.take i=k.data.toList:=tk_ (by simp;omega)
   have h3:hashF t s k=bits BinOp.xor IntKind.u64 x (x/4294967296):=by rw[Hx.out,He.out,hl]
   have H3:=hh_ h3;clear h3 hl
   go_wp2_with fail
   go_ret
   exact Bs_ H3.out hg
def seedF (s r:Int):Int:=IntKind.u64.wrap (s+IntKind.u64.wrap ((r+1)*15111065706836454659))
theorem Yi_ (x:Int):W64 (IntKind.u64.wrap x):=by
 have:=bounds_u64 (wf_wrap .u64 x)
 unfold W64;omega
theorem Zy_ (v:Value) (t:List Int) (s r:Int) (k:ByteArray) (w:World) (h:RdL wordF 1 w v t) (ht:t.length=16) (_:W64 s) (hr0:0≤r) (hr1:r≤1000) (hk:k.size≤9223372036854775807) :
  Calls Tryz.prog 181 #[v,.int .u64 s,.int .i64 r,.string k] w (RetWord (hashF t (seedF s r) k) w):=by
 go_enter func181,ntmps181
 go_wp2_with (go_at_call 152;refine(R8_ v t (seedF s r) k _ h ht (Yi_ _) hk).mono ?_;rintro e w' ⟨rfl,G⟩)
 go_ret
 exact Bs_ rfl G
structure RCfg (w:World) (c:Cfg) (t:List Int):Prop where
 shards:1≤c.Shards∧c.Shards≤8
 spread:1≤c.Spread∧c.Spread≤c.Shards
 table:RdL wordF 1 w c.Table t
 tlen:t.length=16
 seed:W64 c.Seed
theorem RCfg.same {w w':World} {c:Cfg} {t:List Int} (h:RCfg w c t) (hg:w.grownBy w' none):RCfg w' c t:=⟨h.shards,h.spread,h.table.same hg,h.tlen,h.seed⟩
theorem RCfg.shape {w:World} {c:Cfg} {t:List Int} (h:RCfg w c t):∃a k,c.Table=.slice a 16 k:=by
 obtain⟨a,k,e⟩:=h.table.shape;rw[h.tlen] at e;exact⟨a,k,e⟩
theorem E8_ (c:Cfg) (t:List Int) (w:World) (h:RCfg w c t):Calls Tryz.prog 110 #[c.val] w (RetInt 0 w):=by
 obtain⟨a,k,e⟩:=h.shape;obtain⟨h1,h2⟩:=h.shards;obtain⟨h3,h4⟩:=h.spread
 go_enter func110,ntmps110
 go_wp2_with (go_at_call 147;refine(Gn_ a k _).mono ?_;rintro e w' ⟨rfl,rfl⟩)
 go_ret
 exact Ai_ rfl (ga_ w _ _)
def S8_ (c:Cfg) (t:List Int) (k:ByteArray):Int:=slotF (hashF t c.Seed k) c.Shards
theorem Q0_ {e:Ending} {v:Value} {w w':World} (h:e=.returned v∧w=w'):e=.returned v∧w.grownBy w' none:=⟨h.1,h.2▸Ab_ _ _⟩
theorem cf_ (c:Cfg) (t:List Int) (k:ByteArray) (w:World) (h:RCfg w c t) (hk:k.size≤9223372036854775807):Calls Tryz.prog 120 #[c.val,.string k] w (RetInt (S8_ c t k) w):=by
 have H:=hh_ h;obtain⟨h1,h2⟩:=h.shards;have hs:=h.seed;clear h
 go_enter func120,ntmps120
 go_upto_region 3 with(first |(refine Au_ rfl _ rfl c rfl ?_;intro w1 B1 G1 z1) |(refine Al_ rfl _ rfl _ rfl c (by assumption) ?_) |(go_at_call 110;refine(E8_ c t _ (H.out.same G1)).mono ?_;rintro e w2 ⟨rfl,G2⟩))
 have G:=Aa_ G1 G2;obtain⟨r1,r2,r3⟩:=(B1.same G2).re
 have r4:=Bi_ (w:=w2) fun w' hg=>R8_ c.Table t c.Seed k w' (H.out.same (Aa_ G hg)).table H.out.tlen hs hk
 have r5:=Bi_ (w:=w2) fun w' hg=>(Nn_ (hashF t c.Seed k) c.Shards w' (Kg_ _ _ _) h1 (by omega)).mono fun _ _=>Q0_
 (refine Tail.wp_region_tail_grown 10 (by kernel_rfl) (by kernel_rfl) ?_;simp only[List.take,List.drop];(repeat(go_big_quiet_step (first |(with_reducible exact r4 _ _) |(with_reducible exact r5 _ _))));refine wn_ ?_;rintro _ ⟨⟨d5,os5⟩,rfl⟩)
 have G5:=Aa_ G (A1_ w2 d5 os5);clear r1 r2 r3 r4 r5
 go_wp2_with fail
 go_ret
 exact Ai_ rfl G5
end
section
open Go.RowKit
structure Blk (w:World) (g:Nat) (cs:Array Value):Prop where
 blk:∃t,w.heap[g]?=some (.cells cs t (0,0))
theorem Blk.lt {w:World} {g:Nat} {cs:Array Value} (h:Blk w g cs):g<w.heap.size:=by
 obtain⟨t,h⟩:=h.blk;exact(Array.getElem?_eq_some_iff.1 h).1
theorem Blk.cell {w:World} {g:Nat} {cs:Array Value} (h:Blk w g cs) (i:Nat):w.cell? ⟨g,i,none⟩=cs[i]?:=by
 obtain⟨t,h⟩:=h.blk;simp[World.cell?,h]
theorem Blk.free {w:World} {g:Nat} {cs:Array Value} (h:Blk w g cs) (i:Nat):w.frozen? ⟨g,i,none⟩=false:=by
 obtain⟨t,h⟩:=h.blk;simp[World.frozen?,h]
theorem Blk.kept {w w':World} {g:Nat} {cs:Array Value} {r:Option Nat} (h:Blk w g cs) (hg:w.grownBy w' r) (hr:r≠some g):Blk w' g cs:=by
 have hl:=h.lt;obtain⟨t,h⟩:=h.blk;exact⟨t,(hg.block g hl (fun e=>hr e.symm)).trans h⟩
theorem Blk.same {w w':World} {g:Nat} {cs:Array Value} (h:Blk w g cs) (hg:w.grownBy w' none):Blk w' g cs:=h.kept hg (by simp)
theorem Blk.set {w:World} {g:Nat} {cs:Array Value} (h:Blk w g cs) (i:Nat) (v:Value):Blk (w.setCell ⟨g,i,none⟩ v) g (cs.setIfInBounds i v):=by
 obtain⟨t,h⟩:=h.blk;exact⟨t,D4_ v h⟩
theorem Blk.off {w:World} {g g':Nat} {cs:Array Value} (h:Blk w g cs) (hne:g'≠g) (i:Nat) (v:Value):Blk (w.setCell ⟨g',i,none⟩ v) g cs:=
 h.kept (Ac_ (Ab_ w (some g')) i v) (by simpa using hne)
theorem Blk.drew {w:World} {g:Nat} {cs:Array Value} (h:Blk w g cs) (n:Nat):Blk (w.drewN n) g cs:=⟨h.blk⟩
theorem Blk.drew1 {w:World} {g:Nat} {cs:Array Value} (h:Blk w g cs):Blk w.drew g cs:=⟨h.blk⟩
theorem Blk.new (w:World) (cs:Array Value) (t:TypeId):Blk (w.alloc (.cells cs t)) w.heap.size cs:=⟨t,heap_alloc_new w _⟩
theorem Blk.new' (w:World) (cs:Array Value) (t:TypeId) {g:Nat} (h:g=w.heap.size):Blk (w.alloc (.cells cs t)) g cs:=h▸Blk.new w cs t
theorem Blk.set_ {w:World} {g:Nat} {cs cs':Array Value} (h:Blk w g cs) (i:Nat) (v:Value) (he:cs.setIfInBounds i v=cs'):Blk (w.setCell ⟨g,i,none⟩ v) g cs':=he▸h.set i v
open Go.Sort in
theorem Blk.re {w:World} {g:Nat} {cs:Array Value} (h:Blk w g cs):∀d os i,(grow (redrawn w d) os).cell? ⟨g,i,none⟩=cs[i]?:=
 fun d os i=>(h.same (A1_ w d os)).cell i
theorem bk_ {w:World} {b:Nat} {cs:Array Value} (h:Blk w b cs:=by repeat(first|exact Blk.new' _ _ _ (by simp)|refine Blk.same ?_ (World.grownBy_alloc _ _ _)|refine Blk.drew ?_ _|refine Blk.drew1 ?_|refine Blk.set_ (by assumption) _ _ rfl|refine Blk.off ?_ (by first|omega |(simp;done) |(simp;omega)) _ _|assumption)):Blk w b cs:=h
theorem nb_ (w:World) (cs:Array Value) (t:TypeId):Blk (w.alloc (.cells cs t)) w.heap.size cs∧w.grownBy (w.alloc (.cells cs t)) none:=⟨Blk.new w cs t,World.grownBy_alloc w _ none⟩
end
section
open Go.RowKit
theorem Hx_ {α:Type} {f:α→List Value} {s:Nat} (hs:∀x,(f x).length=s):∀{l:List α} {i j:Nat} {u:Value} {y:α},(hi:i<l.length)→j<s→f y =(f l[i]).set j u→cellsOf f (l.set i y) =(cellsOf f l).set (i*s+j) u
 | [],i,_,_,_,hi,_,_=>by simp at hi
 | a::l,0,j,u,y,_,hj,hy=>by
  simp only[List.set_cons_zero,cellsOf,List.flatMap_cons,Nat.zero_mul,Nat.zero_add];rw[List.set_append_left _ _ (by rw[hs];exact hj)];rw[hy];rfl
 | a::l,i+1,j,u,y,hi,hj,hy=>by
  have ih:=Hx_ hs (l:=l) (i:=i) (j:=j) (u:=u) (y:=y) (by simpa using hi) hj (by simpa using hy);simp only[List.set_cons_succ,cellsOf,List.flatMap_cons] at *;rw[ih,List.set_append_right _ _ (by rw[hs,Nat.add_mul];omega),hs]
  congr 2
  rw[Nat.add_mul];omega
theorem Own.stored {α:Type} {f:α→List Value} {s:Nat} {e:TypeId} {B:Nat} {w:World} {g n cap:Nat} {l:List α} (h:Own f s e B w (.slice (some ⟨g,0,none⟩) n cap) l) (hs:∀x,(f x).length=s) {i j:Nat} (hi:i<l.length) (hj:j<s) (u:Value) (y:α) (hy:f y =(f l[i]).set j u) :
  Own f s e B (w.setCell ⟨g,i*s+j,none⟩ u) (.slice (some ⟨g,0,none⟩) n cap) (l.set i y)∧w.grownBy (w.setCell ⟨g,i*s+j,none⟩ u) (some g):=by
 obtain⟨a,c,hv⟩:=h.shape;cases hv
 have:=World.ownsRow.stored (w:=w) (base:=B) (e:=e) (size:=s) (g:=g) (n:=l.length) (cap:=cap) (xs:=cellsOf f l) h (i*s+j) u
 refine⟨?_,this.2⟩;unfold Own;rw[Hx_ hs hi hj hy,List.length_set];exact this.1
theorem Own.at_ {α:Type} {f:α→List Value} {s:Nat} {e:TypeId} {B:Nat} {w:World} {v:Value} {l:List α} (h:Own f s e B w v l) (hs:∀x,(f x).length=s) {i:Nat} (hi:i<l.length) :
  ∃g cap,v=.slice (some ⟨g,0,none⟩) l.length cap∧B≤g∧g<w.heap.size∧l.length≤cap∧(∀j u,(f l[i])[j]?=some u→w.cell? ⟨g,i*s+j,none⟩=some u)∧∀j,w.frozen? ⟨g,j,none⟩=false:=by
 have hR:=h.rd;have hlt:=h.lt
 rcases h.2 with⟨rfl,h0⟩ |⟨g,cap,cur,rfl,hb,hg,h1,h2,_⟩
 ·omega
 ·obtain⟨g',off,cap',hv,hg',hc⟩:=hR.at_ hs hi
  cases hv;refine⟨g,cap,rfl,hb,hg',h1,fun j u hu=>by simpa using hc j u hu,fun j=>World.ownsRow.frozenAt (n:=l.length) (cap:=cap) h j⟩
end
end Go.Proofs.YtckmgjmeanloaaaGreat
