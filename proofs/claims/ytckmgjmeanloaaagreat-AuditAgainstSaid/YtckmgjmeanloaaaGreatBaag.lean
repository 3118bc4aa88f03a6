/- Several texts in one file: contracts of functions of the given program, and plain laws, for the proof of a statement. -/
import Derived.Test.YtckmgjmeanloaaaGreatBaaf
set_option maxHeartbeats 8000000
set_option maxRecDepth 100000
namespace Go.Proofs.YtckmgjmeanloaaaGreat
open Go.Proofs.Tryz
section
open Go.RowKit
def posW:List Int→Int→Option Nat
 | [],_=>none
 | x::r,w=>if x=w then some 0 else (posW r w).map (·+1)
def cntW:List Int→Int→Nat
 | [],_=>0
 | x::r,w=>if x<w then cntW r w+1 else 0
theorem Md_ {w:Int}:∀{ws:List Int} {i:Nat},posW ws w=some i→ws[i]?=some w∧∀j,j<i→ws[j]?≠some w
 | [],i,h=>by simp[posW] at h
 | x::r,i,h=>by
  unfold posW at h
  split at h
  ·rename_i e;cases h;exact⟨by simp[e],fun j hj=>by omega⟩
  ·rename_i e
   cases hr:posW r w with
   | none=>rw[hr] at h;simp at h
   | some k=>
    rw[hr] at h
    simp at h
    subst h;obtain⟨h1,h2⟩:=Md_ hr;refine⟨by simpa using h1,fun j hj=>?_⟩
    cases j with
    | zero=>simpa using e
    | succ j=>simpa using h2 j (by omega)
theorem He_ {w:Int}:∀{ws:List Int},posW ws w=none↔w∉ws
 | []=>by simp[posW]
 | x::r=>by
  unfold posW
  split
  ·rename_i e;simp[e]
  ·rename_i e
   rw[Option.map_eq_none_iff,He_ (ws:=r)]
   simp[Ne.symm e]
theorem Mv_ {w:Int}:∀{ws:List Int} {i:Nat},(∀j,j<i→ws[j]?≠some w)→ws[i]?=some w→posW ws w=some i
 | [],i,_,h=>by simp at h
 | x::r,0,_,h=>by unfold posW;rw[if_pos (by simpa using h)]
 | x::r,i+1,h1,h=>by
  unfold posW;rw[if_neg (by simpa using h1 0 (by omega)),Mv_ (ws:=r) (i:=i) (fun j hj=>by simpa using h1 (j+1) (by omega)) (by simpa using h)]
  rfl
theorem U8_ {w:Int}:∀{ws:List Int},cntW ws w≤ws.length
 | []=>le_ _
 | x::r=>by unfold cntW;split <;> (have:=U8_ (w:=w) (ws:=r);simp only[lc_];omega)
theorem Sn_ {w:Int}:∀{ws:List Int} {j:Nat} {x:Int},j<cntW ws w→ws[j]?=some x→x<w
 | [],j,x,h,_=>by simp[cntW] at h
 | y::r,j,x,h,hx=>by
  unfold cntW at h
  split at h
  ·rename_i hy
   cases j with
   | zero=>simp at hx;omega
   | succ j=>exact Sn_ (ws:=r) (j:=j) (by omega) (by simpa using hx)
  ·omega
theorem U6_ {w:Int}:∀{ws:List Int} {x:Int},ws[cntW ws w]?=some x→¬x<w
 | [],x,h=>by simp[cntW] at h
 | y::r,x,h=>by
  unfold cntW at h
  split at h
  ·exact U6_ (ws:=r) (by simpa using h)
  ·simp at h;omega
theorem J7_ {α:Type} {l:List α} {k:Nat} (hk:k≤l.length) (x:α) (i:Nat) :(l.take k++[x]++l.drop k)[i]?=if i<k then l[i]? else if i=k then some x else l[i-1]?:=by
 have hl :(l.take k).length=k:=by simp;omega
 have hl2 :(l.take k++[x]).length=k+1:=by simp;omega
 by_cases h1:i<k
 ·rw[if_pos h1,List.append_assoc,List.getElem?_append_left (by omega),List.getElem?_take_of_lt h1]
 ·rw[if_neg h1]
  by_cases h2:i=k
  ·subst h2
   rw[if_pos rfl,List.getElem?_append_left (by omega),List.getElem?_append_right (by omega),hl]
   simp
  ·rw[if_neg h2,List.getElem?_append_right (by omega),hl2,List.getElem?_drop]
   congr 1;omega
theorem co_ {α:Type} {l:List α} {k:Nat} (hk:k≤l.length) (x y:α) :(l.take k++[x]++l.drop k).set k y=l.take k++[y]++l.drop k:=by
 have hl :(l.take k).length=k:=by simp;omega
 rw[List.append_assoc,List.set_append_right _ _ (by omega),hl,Nat.sub_self]
 simp
theorem mem_ins {α:Type} {l:List α} {k:Nat} {x y:α}:y∈l.take k++[x]++l.drop k↔y=x∨y∈l:=by
 conv=>rhs;rw[←List.take_append_drop k l]
 simp only[List.mem_append,List.mem_singleton]
 constructor
 ·rintro((h|h)|h)
  ·exact .inr (.inl h)
  ·exact .inl h
  ·exact .inr (.inr h)
 ·rintro(h|h|h)
  ·exact .inl (.inr h)
  ·exact .inl (.inl h)
  ·exact .inr h
theorem Zp_ {α:Type} {R:α→α→Prop} {l:List α} {k:Nat} {x:α} (h:l.Pairwise R) (h1:∀y∈l,R y x) (h2:∀y∈l,R x y) :(l.take k++[x]++l.drop k).Pairwise R:=by
 have h3:=h;rw[←List.take_append_drop k l] at h3;obtain⟨a,b,c⟩:=List.pairwise_append.1 h3;refine List.pairwise_append.2 ⟨List.pairwise_append.2 ⟨a,by simp,fun y hy z hz=>?_⟩,b,fun y hy z hz=>?_⟩
 ·rw[ms_ hz];exact h1 y (List.mem_of_mem_take hy)
 ·rcases ma_ hy with hy|hy
  ·exact c y hy z hz
  ·rw[ms_ hy];exact h2 z (List.mem_of_mem_drop hz)
theorem Vp_ {α:Type} (A D:List α) (x:α):∀T:List α,(T <+: A++[x]++D∨T=[x])→T.length≤A.length∨T <+: A++[x]∨A++[x] <+: T:=by
 rintro T (h|rfl)
 ·rcases List.prefix_or_prefix_of_prefix h (List.prefix_append (A++[x]) D) with h|h
  ·exact .inr (.inl h)
  ·exact .inr (.inr h)
 ·cases A with
  | nil=>exact .inr (.inl (List.prefix_refl _))
  | cons a A=>exact .inl (by simp)
theorem Ud_ {α:Type} (A D:List α) (x:α):∀T:List α,(T <+: A++[x]++D∨T=[x])→T.length≤(A++[x]).length∨T <+: A++[x]++D∨A++[x]++D <+: T:=by
 rintro T (h|rfl)
 ·exact .inr (.inl h)
 ·exact .inl (by simp)
structure Cq_ where
 (win:Int) (it:ItR)
def waitF (x:Cq_):List Value:=[.int .i64 x.win,.string x.it.key,.int .i64 x.it.time,.int .u64 x.it.weight]
theorem Br_ (x:Cq_) :(waitF x).length=4:=rfl
theorem Pp_:OneF waitF:=by intro x u hu;simp[waitF] at hu;rcases hu with rfl|rfl|rfl|rfl <;> rfl
structure ShM where
 (queue:List Cq_) (ts:List (Int×As_))
def ShM.ws (S:ShM):List Int:=S.ts.map (·.1)
def As_.addE (c:Cfg) (t:List Int) (X:As_) (k:ByteArray) (w:Int):As_:=if X.err k w=0 then X.add c t k w else X
def tierAt (L:List (Int×As_)) (win:Int):Option As_:=match posW (L.map (·.1)) win with
 | some i=>L[i]?.map (·.2)
 | none=>none
def tsAdd (c:Cfg) (t:List Int) (L:List (Int×As_)) (x:Cq_):List (Int×As_):=
 match posW (L.map (·.1)) x.win with
 | some i=>L.set i (x.win,(((L[i]?).map (·.2)).getD (tier0 c)).addE c t x.it.key x.it.weight)
 | none=>L.take (cntW (L.map (·.1)) x.win)++[(x.win,(tier0 c).addE c t x.it.key x.it.weight)]++L.drop (cntW (L.map (·.1)) x.win)
def stepS (c:Cfg) (t:List Int) (S:ShM):ShM:=match S.queue with
 | []=>S
 | x::q=>⟨q,tsAdd c t S.ts x⟩
def stepsS (c:Cfg) (t:List Int):Nat→ShM→ShM
 | 0,S=>S
 | n+1,S=>stepS c t (stepsS c t n S)
def untilQ (q:List Cq_) (win:Int):Nat:=(q.foldl (fun(a:Nat×Nat) x=>(a.1+1,if x.win≤win then a.1+1 else a.2)) (0,0)).2
theorem Rs_ (q:List Cq_) (win:Int) :(q.foldl (fun(a:Nat×Nat) x=>(a.1+1,if x.win≤win then a.1+1 else a.2)) (0,0)).1=q.length:=by
 have:∀(q:List Cq_) (a:Nat×Nat),(q.foldl (fun(a:Nat×Nat) x=>(a.1+1,if x.win≤win then a.1+1 else a.2)) a).1=a.1+q.length:=by
  intro q
  induction q with
  | nil=>intro a;simp
  | cons x q ih=>intro a;rw[List.foldl_cons,ih];simp only[lc_];omega
 rw[this];simp
theorem Ns_ (q:List Cq_) (x:Cq_) (win:Int):untilQ (q++[x]) win=if x.win≤win then q.length+1 else untilQ q win:=by
 unfold untilQ;rw[List.foldl_append,List.foldl_cons,List.foldl_nil];dsimp only;rw[Rs_]
theorem Hc_ {q:List Cq_} {k:Nat} (win:Int) (h:k<q.length):untilQ (q.take (k+1)) win=if q[k].win≤win then k+1 else untilQ (q.take k) win:=by
 rw[tg_ h,Ns_,lk_,Nat.min_eq_left (by omega)]
theorem V8_ (q:List Cq_) (win:Int):∀k,k≤q.length→untilQ (q.take k) win≤k:=by
 intro k
 induction k with
 | zero=>intro _;simp[untilQ]
 | succ k ih=>
  intro hk;rw[Hc_ win (by omega)]
  have:=ih (by omega)
  split <;> omega
def drainS (c:Cfg) (t:List Int) (S:ShM) (win:Int):ShM:=stepsS c t (untilQ S.queue win) S
def closeS (S:ShM) (win:Int):ShM:=match posW S.ws win with
 | some i=>{ S with ts:=S.ts.take i++S.ts.drop (i+1) }
 | none=>S
structure ShOk (c:Cfg) (S:ShM):Prop where
 queue :(S.queue.length:Int)≤c.Queue
 waits:∀x∈S.queue,(0≤x.win∧x.win≤1099511627776)∧(0≤x.it.time∧x.it.time≤1099511627776)∧W64 x.it.weight∧(0<x.it.key.size∧x.it.key.size≤255)
 tiers:∀p∈S.ts,(0≤p.1∧p.1≤1099511627776)∧TierOk c p.2
theorem R9_ {c:Cfg} {t:List Int} {X:As_} (h:TierOk c X) (hc:Bu_ c) {k:ByteArray} {w:Int} (hw:0≤w):TierOk c (X.addE c t k w):=by
 unfold As_.addE
 split
 ·rename_i he
  unfold As_.err at he
  split at he
  ·omega
  ·split at he
   ·omega
   ·split at he
    ·omega
    ·split at he
     ·omega
     ·exact h.add hc.depth (by omega) (by omega) (by omega)
 ·exact h
theorem Kl_ {c:Cfg} (hc:Bu_ c):TierOk c (tier0 c):=(Si_.new [] hc).ok
theorem Zu_ {c:Cfg} {t:List Int} {L:List (Int×As_)} (hc:Bu_ c) (h:∀p∈L,(0≤p.1∧p.1≤1099511627776)∧TierOk c p.2) {x:Cq_} (hx :(0≤x.win∧x.win≤1099511627776)∧W64 x.it.weight):∀p∈tsAdd c t L x,(0≤p.1∧p.1≤1099511627776)∧TierOk c p.2:=by
 have hw:=hx.2.1;intro p hp;unfold tsAdd at hp
 split at hp
 ·rename_i i hi
  rcases List.mem_or_eq_of_mem_set hp with hp|rfl
  ·exact h p hp
  ·refine⟨hx.1,R9_ ?_ hc hw⟩
   cases hL:L[i]? with
   | none=>exact Kl_ hc
   | some q=>exact(h q (mo_ hL)).2
 ·rw[List.append_assoc] at hp
  rcases ma_ hp with hp|hp
  ·exact h p (List.mem_of_mem_take hp)
  ·rcases ma_ hp with hp|hp
   ·rw[ms_ hp]
    exact⟨hx.1,R9_ (Kl_ hc) hc hw⟩
   ·exact h p (List.mem_of_mem_drop hp)
theorem X2_ {c:Cfg} {t:List Int} {S:ShM} (hc:Bu_ c) (h:ShOk c S):ShOk c (stepS c t S):=by
 unfold stepS
 split
 ·exact h
 ·rename_i x q hq
  have hq1:=h.queue;have hw:=h.waits;rw[hq] at hq1 hw;exact⟨by simp at hq1 ⊢;omega,fun y hy=>hw y (by simp[hy]),Zu_ hc h.tiers ⟨(hw x (by simp)).1,(hw x (by simp)).2.2.1⟩⟩
theorem Gz_ {c:Cfg} {t:List Int} {S:ShM} (hc:Bu_ c) (h:ShOk c S):∀n,ShOk c (stepsS c t n S)
 | 0=>h
 | n+1=>X2_ hc (Gz_ hc h n)
theorem So_ {c:Cfg} {S:ShM} (h:ShOk c S) (win:Int):ShOk c (closeS S win):=by
 unfold closeS
 split
 ·refine⟨h.queue,h.waits,fun p hp=>?_⟩
  rcases ma_ hp with hp|hp
  ·exact h.tiers p (List.mem_of_mem_take hp)
  ·exact h.tiers p (List.mem_of_mem_drop hp)
 ·exact h
structure CluM where
 (mark:Int) (str:StrM) (led:List (Int×Int)) (acc:Int) (rej:List Int) (sh:List ShM) (items:List ItR)
def routeF (c:Cfg) (t:List Int) (k:ByteArray) (n:Int):Int:=(setF c t k).getD (n%c.Spread).toNat 0
def qLen (K:CluM) (s:Int):Int:=((K.sh[s.toNat]?.map (fun S=>(S.queue.length:Int))).getD 0)
def judgeV (c:Cfg) (t:List Int) (K:CluM) (x:InpR):Int×Int:=
 if x.ver≠0 then (x.ver,0)
 else if verV c K.mark x.it.time≠0 then (verV c K.mark x.it.time,0)
 else if fitsB (ldAt K.led (winV c x.it.time)) x.it.weight=false then (5,0)
 else if qLen K (routeF c t x.it.key K.acc)=c.Queue then (6,0)
 else (0,routeF c t x.it.key K.acc)
def pushS (S:ShM) (win:Int) (it:ItR):ShM:={ S with queue:=S.queue++[⟨win,it⟩] }
def inpK (c:Cfg) (t:List Int) (K:CluM) (x:InpR):CluM×Int:=
 if (judgeV c t K x).1≠0 then ({ K with rej:=rejR K.rej (judgeV c t K x).1 },(judgeV c t K x).1)
 else ({ K with led:=ldPut K.led (winV c x.it.time) x.it.weight,acc:=K.acc+1,sh:=K.sh.set (judgeV c t K x).2.toNat (pushS ((K.sh[(judgeV c t K x).2.toNat]?).getD ⟨[],[]⟩) (winV c x.it.time) x.it),items:=K.items++[x.it] },0)
def inpsK (c:Cfg) (t:List Int) (K:CluM) (l:List InpR):CluM×List Int:=l.foldl (fun a x=>((inpK c t a.1 x).1,a.2++[(inpK c t a.1 x).2])) (K,[])
theorem Fz_ (c:Cfg) (t:List Int) (K:CluM) (l:List InpR) (x:InpR):inpsK c t K (l++[x]) =((inpK c t (inpsK c t K l).1 x).1,(inpsK c t K l).2++[(inpK c t (inpsK c t K l).1 x).2]):=by simp[inpsK]
def chInps (c:Cfg) (x:ChM):List InpR:=if x.ver=0 then inputsF c.Key x.body else [⟨itZ,x.ver⟩]
def feedK (c:Cfg) (t:List Int) (K:CluM) (l:List UInt8):CluM×List Int:=
 inpsK c t { K with str:=(strF K.str l).1 } ((strF K.str l).2.flatMap (chInps c))
def closeK (c:Cfg) (t:List Int) (K:CluM) (win:Int):CluM:={ K with sh:=K.sh.map fun S=>closeS (drainS c t S win) win,led:=ldDel K.led win }
def low1 (c:Cfg) (mark:Int):List Int→List Int:=List.takeWhile fun w=>decide (w<lowV c mark)
def tickK (c:Cfg) (t:List Int) (K:CluM) (time:Int):CluM:=
 (low1 c (max K.mark time) (K.led.map (·.1))).foldl (closeK c t) { K with mark:=max K.mark time }
abbrev Fp:=Nat→Prop
def Off (F G:Fp):Prop:=∀i,F i→¬G i
theorem Off.symm {F G:Fp} (h:Off F G):Off G F:=fun i hg hf=>h i hf hg
theorem Off.left {F F' G:Fp} (h:Off F G) (k:∀i,F' i→F i):Off F' G:=fun i hf=>h i (k i hf)
theorem Off.right {F G G':Fp} (h:Off F G) (k:∀i,G' i→G i):Off F G':=fun i hf hg=>h i hf (k i hg)
def Low (w:World) (F:Fp):Prop:=∀i,F i→i<w.heap.size
theorem Low.up {w w':World} {F:Fp} (h:Low w F) (k:w.heap.size≤w'.heap.size):Low w' F:=fun i hi=>ll_ (h i hi) k
structure Mov (F F':Fp) (w w':World):Prop where
 grown:GrownS F w w'
 new:∀i,F' i→F i∨w.heap.size≤i
theorem Mov.refl (F:Fp) (w:World):Mov F F w w:=⟨GrownS.refl F w,fun _ h=>.inl h⟩
theorem Mov.trans {F F' F'':Fp} {a b c:World} (h:Mov F F' a b) (k:Mov F' F'' b c):Mov F F'' a c:=
 ⟨h.grown.trans k.grown fun i hi hlt=>(h.new i hi).elim id fun e=>absurd hlt (by omega),fun i hi=>(k.new i hi).elim (h.new i) fun e=>.inr (lt_ h.grown.size e)⟩
theorem Mov.of {F F':Fp} {w w':World} (h:w.grownBy w' none) (k:∀i,F' i→F i∨w.heap.size≤i):Mov F F' w w':=⟨GrownS.none_ h,k⟩
theorem Mov.same {F:Fp} {w w':World} (h:w.grownBy w' none):Mov F F w w':=Mov.of h fun _ hi=>.inl hi
theorem Mov.wide {F F' G G':Fp} {w w':World} (h:Mov F F' w w') (h1:∀i,F i→G i) (h2:∀i,G' i→G i∨F' i):Mov G G' w w':=
 ⟨h.grown.mono fun i hi _=>h1 i hi,fun i hi=>(h2 i hi).elim .inl fun hf=>(h.new i hf).imp (h1 i) id⟩
theorem Mov.off {F F' G:Fp} {w w':World} (h:Mov F F' w w') (hl:Low w G) (ho:Off G F):Off G F':=fun i hg hf=>(h.new i hf).elim (ho i hg) fun e=>by have:=hl i hg;omega
theorem Mov.size {F F':Fp} {w w':World} (h:Mov F F' w w'):w.heap.size≤w'.heap.size:=h.grown.size
theorem Mov.back {F F':Fp} {w0 w w':World} (g:w0.grownBy w none) (h:Mov F F' w w') (hF:∀i,F i→w0.heap.size≤i):w0.grownBy w' none:=h.grown.base g hF
theorem Mov.above {F F':Fp} {w0:Nat} {w w':World} (h:Mov F F' w w') (h0:w0≤w.heap.size) (hF:∀i,F i→w0≤i):∀i,F' i→w0≤i:=fun i hi=>(h.new i hi).elim (hF i) fun e=>lt_ h0 e
def ownF (v:Value):Fp:=fun i=>v.ownBlock=some i
theorem Ay_ (i:Nat):¬ownF (.slice none 0 0) i:=by simp[ownF,Value.ownBlock]
def oneF (g:Nat):Fp:=fun i=>i=g
theorem Own.low {α:Type} {f:α→List Value} {s:Nat} {e:TypeId} {B:Nat} {w:World} {v:Value} {l:List α} (h:Own f s e B w v l):Low w (ownF v):=fun i hi=>(h.lt i hi).2
theorem Own.offS {α:Type} {f:α→List Value} {s:Nat} {e:TypeId} {B:Nat} {w w':World} {v:Value} {l:List α} {S:Fp} (h:Own f s e B w v l) (k:GrownS S w w') (ho:Off (ownF v) S):Own f s e B w' v l:=h.keptS k fun g hg=>ho g hg
theorem Own.zero {α:Type} {f:α→List Value} {s:Nat} {e:TypeId} {B:Nat} {w:World} {v:Value} {l:List α} (h:Own f s e B w v l):Own f s e 0 w v l:=h.base fun _ _=>zl_ _
end
section
open Go.RowKit Go.Sort
theorem Bh_:Elt 126 224 (.agg #[.string ⟨#[]⟩,.int .u64 0,.int .u64 0]) 3 32:=⟨underlying126,by kernel_rfl,rfl,by decide⟩
theorem Bg_:OneF entF:=by intro x u hu;simp[entF] at hu;rcases hu with rfl|rfl|rfl <;> rfl
theorem RdL.entr {w:World} {v:Value} {l:List Ent} (h:RdL entF 3 w v l) {k:Nat} (hk:k<l.length):∃g off cap,v=.slice (some ⟨g,off,none⟩) l.length cap∧g<w.heap.size ∧
  w.cell? ⟨g,off+k*3,none⟩=some (.string l[k].key)∧w.cell? ⟨g,off+k*3+1,none⟩=some (.int .u64 l[k].own)∧w.cell? ⟨g,off+k*3+2,none⟩=some (.int .u64 l[k].slack):=by
 obtain⟨g,off,cap,hv,hg,hc⟩:=h.at_ Az_ hk;exact⟨g,off,cap,hv,hg,hc 0 _ rfl,hc 1 _ rfl,hc 2 _ rfl⟩
theorem ex_ (a b:ByteArray) :(a.toList==b.toList)=decide (a=b):=by
 rw[ByteArray.toList_eq,ByteArray.toList_eq,Bool.eq_iff_iff];simp only[beq_iff_eq,decide_eq_true_eq]
 constructor
 ·intro h;exact Kz_ h
 ·rintro rfl;rfl
def plN (L:List Ent) (k:ByteArray):Nat:=L.findIdx (hasK k)
def plI (L:List Ent) (k:ByteArray):Int:=if plN L k<L.length then plN L k else -1
theorem d9_ {L:List Ent} {k:ByteArray} {i:Nat} (h:i<plN L k) (hi:i<L.length):hasK k L[i]=false:=by
 have:=List.not_of_lt_findIdx h
 simpa using this
theorem ae_ {L:List Ent} {k:ByteArray} (h:plN L k<L.length):hasK k L[plN L k]=true:=List.findIdx_getElem (w:=h)
theorem d2_ (L:List Ent) (k:ByteArray):plN L k≤L.length:=List.findIdx_le_length
theorem Uu_ (L:List Ent) (k:ByteArray):getE L k=L[plN L k]?:=by
 unfold getE plN;rw[←List.find?_eq_getElem?_findIdx]
theorem Hy_ {L:List Ent} {k:ByteArray} (h:getE L k=none):plI L k=-1:=by
 rw[Uu_,List.getElem?_eq_none_iff] at h;exact if_neg (by omega)
theorem Cp_ {L:List Ent} {k:ByteArray} {e:Ent} (h:getE L k=some e):plI L k=plN L k∧plN L k<L.length∧L[plN L k]?=some e∧delE L k=L.eraseIdx (plN L k):=by
 rw[Uu_] at h;have hl:=(gs_ h).1;refine⟨if_pos hl,hl,h,?_⟩;unfold delE plN;rw[List.eraseP_eq_eraseIdx]
 have:L.findIdx? (hasK k)=some (L.findIdx (hasK k)):=List.findIdx?_eq_some_of_exists (by
  exact⟨_,mg_ hl,ae_ hl⟩)
 rw[this]
theorem B7_ (v:Value) (L:List Ent) (k:ByteArray) (w:World) (h:RdL entF 3 w v L):Calls Tryz.prog 182 #[v,.string k] w (RetInt (plI L k) w):=by
 obtain⟨a,c,rfl⟩:=h.shape;have hm:=h.2.1;have H:=hh_ h;have HN1:=hh_ (d2_ L k)
 have HN2:=hh_ fun i (h:i<plN L k) h2=>d9_ (k:=k) h h2
 have HN3:=hh_ fun h=>ae_ (L:=L) (k:=k) h
 have HI:=hh_ (show plI L k=if plN L k<L.length then (plN L k:Int) else -1 from rfl);clear h;generalize plN L k=N at *;generalize plI L k=I at *;have hN:=HN1.out
 go_enter func182,ntmps182
 go_upto_region 2 with fail
 go_loopw [9] (fun s9 wr=>∃i:Nat,i≤N∧s9=.int .i64 i∧w.grownBy wr none) (fun s9 _=>N-(RowKit.intOf s9).toNat)
 case atStart=>exact⟨0,zl_ _,rfl,Ab_ _ _⟩
 case round=>
  obtain⟨i,hi,rfl,hg⟩:=hrel
  by_cases hl:i<L.length
  ·obtain⟨g,off,cap,hv,hgl,d0,d1,d2⟩:=RdL.entr (RdL.same H.out hg) hl
   cases hv;have hse:=ex_ L[i].key k
   by_cases hiN:i<N
   ·have hx:=HN2.out i hiN hl
    unfold hasK at hx;rw[hx] at hse;clear hx;generalize L[i]=en at *
    go_upto_region 4 with fail
    have G1:=Ad_ hg (.cells #[.string en.key,.int .u64 en.own,.int .u64 en.slack] 224);have A1:=(Blk.new wr #[.string en.key,.int .u64 en.own,.int .u64 en.slack] 224).cell 0;generalize wr.alloc _=w1 at *;generalize wr.heap.size=gk at *;clear d0 d1 d2 hgl hg
    go_wp2_with fail
    exact⟨⟨i+1,by omega,by go_num,G1⟩,by simp[RowKit.intOf];omega⟩
   ·obtain rfl:i=N:=by omega
    have hx:=HN3.out hl;unfold hasK at hx;rw[hx] at hse;clear hx;have hI:=HI.out;rw[if_pos hl] at hI;have HI2:=hh_ hI;clear hI;generalize L[i]=en at *
    go_upto_region 4 with fail
    have G1:=Ad_ hg (.cells #[.string en.key,.int .u64 en.own,.int .u64 en.slack] 224);have A1:=(Blk.new wr #[.string en.key,.int .u64 en.own,.int .u64 en.slack] 224).cell 0;generalize wr.alloc _=w1 at *;generalize wr.heap.size=gk at *;clear d0 d1 d2 hgl hg
    go_wp2_with fail
    go_ret
    exact Ai_ (by rw[HI2.out]) G1
  ·have hI:=HI.out
   rw[if_neg (by omega)] at hI;have HI2:=hh_ hI;clear hI
   go_wp2_with fail
   go_ret
   exact Ai_ (by rw[HI2.out]) hg
theorem D0_ (B:Nat) (v:Value) (L:List Ent) (p:Nat) (w:World) (h:Own entF 3 224 B w v L) (hp:p<L.length) (hL:L.length≤1000000):Calls Tryz.prog 183 #[v,.int .i64 p] w (RetOwn entF 3 224 (L.eraseIdx p) w):=by
 obtain⟨a,c,rfl⟩:=h.shape;have hcap:L.length≤c:=h.cap
 have hc1 :(p:Int)≤(c:Int):=by omega
 have hc2 :(p:Int)+1≤(L.length:Int):=by omega
 have hc3 :(L.length:Int)≤(c:Int):=by omega
 have hp0 :(0:Int)≤(p:Int):=by omega
 have hp1 :(p:Int)≤(L.length:Int):=by omega
 have hlt1 :(L.take p).length=p:=by simp;omega
 have hlt2 :(L.drop (p+1)).length=L.length-(p+1):=by simp
 have hb3 :(([]:List Ent).length+(L.take p).length)*32≤140737488355328:=by rw[hlt1];simp;omega
 have hb4 :([]:List Ent).length+(L.take p).length≤9223372036854775807:=by rw[hlt1];simp;omega
 have hb5 :(([]++L.take p:List Ent).length+(L.drop (p+1)).length)*32≤140737488355328:=by rw[List.nil_append,hlt1,hlt2];omega
 have hb6 :([]++L.take p:List Ent).length+(L.drop (p+1)).length≤9223372036854775807:=by rw[List.nil_append,hlt1,hlt2];omega
 have hR1:RdL entF 3 (w.alloc (.cells #[] 224)).drew (.slice a p c) (L.take p):=(h.rd.take Az_ (by omega) c).same (Am_ (ga_ w _ none));have hO0:Own entF 3 224 w.heap.size (w.alloc (.cells #[] 224)).drew (.slice (some ⟨w.heap.size,0,none⟩) 0 0) []:=Aw_ entF 3 (le_ _)
 have hs2:w.heap.size≤(w.alloc (.cells #[] 224)).drew.heap.size:=by simp[World.drew]
 have HR2:=hh_ fun w' (q:w.grownBy w' none)=>RdL.same (h.rd.drop Az_ (show p+1≤L.length by omega) hcap (c-(p+1))) q
 have Hlt1:=hh_ hlt1.symm;have Hlt2:=hh_ hlt2.symm;have he3:=hh_ (show([]++L.take p++L.drop (p+1):List Ent)=L.eraseIdx p by rw[List.nil_append];exact(List.eraseIdx_eq_take_drop_succ L p).symm);have hw1:IntKind.i64.wrap ((p:Int)+1) =(p:Int)+1:=IntWalk.i64_in _ (by omega)
 have hw2 :((p:Int)+1).toNat=p+1:=by omega
 have hw3 :(0:Int)≤(p:Int)+1:=by omega
 have hpl:p+1≤L.length:=by omega
 have tok:=hh_ hp;clear h hlt1 hlt2 hp
 go_enter func183,ntmps183
 go_upto_region 1 with fail
 go_region_law ((first
  |(have _t:=tok;refine Ge_ Bh_ Bg_ hO0 hR1 Hlt1.out hb3 hb4 hs2 (by rfl) _ _ (by rfl) (by rfl) (by rfl) ?_;intro v2 w2 o2 g2 l2;clear tok;have hg2:=Ao_ (Am_ (Ad_ (Ab_ w none) _)) hO0 (le_ _) g2;have hR2:=HR2.out _ hg2;have hs3:=hg2.size)
  |(refine Ge_ Bh_ Bg_ o2 hR2 Hlt2.out hb5 hb6 hs3 (by rfl) _ _ (by rfl) (by rfl) (by rfl) ?_;intro v3 w3 o3 g3 l3)))
 have hg3:=Ao_ hg2 o2 (le_ _) g3;rw[he3.out] at o3;obtain⟨a3,c3,hv3⟩:=o3.shape;subst hv3;clear hR2 HR2;generalize (if c=p+1 then a else Option.map (fun x=>x.add ((p+1)*3)) a)=od at *
 go_wp2_with fail
 go_ret
 exact⟨_,rfl,o3,hg3⟩
abbrev eV (e:Ent):Value:=.agg #[.string e.key,.int .u64 e.own,.int .u64 e.slack]
abbrev ent0:Ent:=⟨⟨#[]⟩,0,0⟩
def optV (o:Option Ent):Value:=.tuple #[eV (o.getD ent0),.bool o.isSome]
abbrev rtA (T:TabM) (v:Value):Array Value:=#[.int .i64 T.mode,.int .i64 T.m,v,.int .u64 T.base,.int .u64 T.sum]
structure RTab (w:World) (g:Nat) (v:Value) (T:TabM):Prop where
 blk:Blk w g (rtA T v)
 own:Own entF 3 224 0 w v T.L
 ne:¬ownF v g
def rtF (g:Nat) (v:Value):Fp:=fun i=>i=g∨ownF v i
theorem RTab.low {w:World} {g:Nat} {v:Value} {T:TabM} (h:RTab w g v T):Low w (rtF g v):=fun i hi=>hi.elim (fun e=>e▸h.blk.lt) (h.own.low i)
theorem RTab.keptS {w w':World} {g:Nat} {v:Value} {T:TabM} {S:Fp} (h:RTab w g v T) (k:GrownS S w w') (ho:Off (rtF g v) S):RTab w' g v T:=
 ⟨h.blk.keptS k (ho g (.inl rfl)),h.own.offS k (ho.left fun _ hi=>.inr hi),h.ne⟩
theorem RTab.same {w w':World} {g:Nat} {v:Value} {T:TabM} (h:RTab w g v T) (k:w.grownBy w' none):RTab w' g v T:=h.keptS (GrownS.none_ (S:=fun _=>False) k) fun _ _=>id
theorem G1_ {x:Int} (h0:0≤x) (h1:x≤mostW):W64 x:=by unfold mostW at h1;exact⟨h0,by omega⟩
theorem Bt_.w64 {T:TabM} (h:Bt_ T):W64 T.base∧W64 T.sum∧∀e∈T.L,W64 e.own∧W64 e.slack∧e.own+e.slack≤mostW∧e.own≤T.sum:=by
 have hb:=h.base;have hs:=h.sum;refine⟨G1_ hb.1 (by omega),G1_ (by omega) hs,fun e he=>?_⟩;have h1:=h.ents.own e he;have h2:=h.ents.slack e he;have h3:=h.cnt e he
 have h4:e.own+e.slack≤mostW:=by
  by_cases hm:T.mode=2
  ·rw[fix2 hm] at h3
   have:=h.zero hm e he
   simp only[Ent.cnt] at h3;omega
  ·rw[fix1 hm] at h3
   simp only[Ent.cnt] at h3;omega
 have h5:e.own≤T.sum:=by
  by_cases hm:T.mode=2
  ·rw[fix2 hm] at h3;simp only[Ent.cnt] at h3;omega
  ·rw[fix1 hm] at h3;simp only[Ent.cnt] at h3;omega
 exact⟨G1_ (by omega) (by omega),G1_ h2 (by omega),h4,h5⟩
theorem Nw_ {L:List Ent} {k:ByteArray} {e:Ent} (h:getE L k=some e) {w:World} {v:Value} (hr:RdL entF 3 w v L):∃g off cap,v=.slice (some ⟨g,off,none⟩) L.length cap∧g<w.heap.size ∧
  w.cell? ⟨g,off+plN L k*3,none⟩=some (.string e.key)∧w.cell? ⟨g,off+plN L k*3+1,none⟩=some (.int .u64 e.own)∧w.cell? ⟨g,off+plN L k*3+2,none⟩=some (.int .u64 e.slack):=by
 obtain⟨_,hl,he,_⟩:=Cp_ h
 have:=hr.entr hl
 rw[gq_ hl] at he;rw[Option.some.inj he] at this;exact this
theorem Z9_ (g:Nat) (v:Value) (T:TabM) (k:ByteArray) (w:World) (h:RTab w g v T):Calls Tryz.prog 160 #[.pointer (some ⟨g,0,none⟩),.string k] w (B8_ (optV (T.get k)) w):=by
 have H:=hh_ h
 have HP:=hh_ fun y (q:w.grownBy y none)=>B7_ v T.L k y (h.same q).own.rd
 have hglt:=h.blk.lt;have hne:=h.ne
 cases hg:getE T.L k with
 | none=>
  rw[Hy_ hg] at HP;have hR:=hh_ (show T.get k=none by unfold TabM.get;rw[hg];rfl);rw[hR.out];clear h hg
  go_enter func160,ntmps160
  go_upto_region 1 with fail
  obtain⟨A1,G1⟩:=nb_ w #[.string ⟨#[]⟩,.int .u64 0,.int .u64 0] 224;generalize w.alloc _=w1 at *;generalize hgb:w.heap.size=gb at *;have b1:=(H.out.same G1).blk.cell
  go_upto_region 2 with(go_at_call 182;refine(HP.out _ G1).mono ?_;rintro e w2 ⟨rfl,g2⟩)
  have A2:=A1.same g2;have K2:=Aa_ G1 g2;have f2:=A2.free;have a2:=A2.cell
  go_wp2_with fail
  (have g3:World.grownBy w2 (((w2.setCell ⟨gb,0,none⟩ (.string ⟨#[]⟩)).setCell ⟨gb,1,none⟩ (.int .u64 0)).setCell ⟨gb,2,none⟩ (.int .u64 0)) (some gb):=Ac_ (Ac_ (Ac_ (Ab_ _ _) _ _) _ _) _ _);(have A3:Blk (((w2.setCell ⟨gb,0,none⟩ (.string ⟨#[]⟩)).setCell ⟨gb,1,none⟩ (.int .u64 0)).setCell ⟨gb,2,none⟩ (.int .u64 0)) gb #[.string ⟨#[]⟩,.int .u64 0,.int .u64 0]:=((Blk.set_ (by assumption) 0 _ rfl).set_ 1 _ rfl).set_ 2 _ rfl);generalize ((w2.setCell ⟨gb,0,none⟩ (.string ⟨#[]⟩)).setCell ⟨gb,1,none⟩ (.int .u64 0)).setCell ⟨gb,2,none⟩ (.int .u64 0)=w3 at *
  have rc:=A3.cell;refine bodyPost_ret (v:=.tuple #[eV ent0,.bool false]) (by simp[results,results160,go_sem,rc]) rfl ?_;exact Bf_ rfl (Af_ K2 g3 (by omega))
 | some e=>
  obtain⟨i1,_,_,_⟩:=Cp_ hg;rw[i1] at HP
  have HC:=hh_ fun y (q:w.grownBy y none)=>Nw_ hg (h.same q).own.rd
  have hR:=hh_ (show T.get k=some (T.fix e) by unfold TabM.get;rw[hg];rfl);rw[hR.out];have hl:=(Cp_ hg).2.1;generalize plN T.L k=N at *;obtain⟨a,c,hv⟩:=h.own.shape;subst hv;clear h hg
  go_enter func160,ntmps160
  go_upto_region 1 with fail
  obtain⟨A1,G1⟩:=nb_ w #[.string ⟨#[]⟩,.int .u64 0,.int .u64 0] 224;generalize w.alloc _=w1 at *;generalize hgb:w.heap.size=gb at *;have b1:=(H.out.same G1).blk.cell
  go_upto_region 2 with(go_at_call 182;refine(HP.out _ G1).mono ?_;rintro e w2 ⟨rfl,g2⟩)
  have A2:=A1.same g2;have K2:=Aa_ G1 g2;have b2:=(H.out.same K2).blk.cell;obtain⟨g',off,cap,hv,hgl,d0,d1,d2⟩:=HC.out _ K2;cases hv
  go_upto_region 5 with fail
  obtain⟨A3,G3⟩:=nb_ w2 #[.string e.key,.int .u64 e.own,.int .u64 e.slack] 224;generalize w2.alloc _=w3 at *;generalize hgc:w2.heap.size=gc at *;have K3:=Aa_ K2 G3;have b3:=(H.out.same K3).blk.cell;have hge:=A2.lt;have A4:=A2.same G3;clear A1 A2 d0 d1 d2 b1 b2 HC HP;have hz2:=K2.size
  by_cases hm:T.mode=2
  ·have hF:=hh_ (fix2 hm e)
   have hm2 :(T.mode==2)=true:=beq_iff_eq.2 hm;have a3:=A3.cell;have f3:=A3.free
   go_upto_region 7 with fail
   have A5:=A3.set_ 2 (.int .u64 T.base) (cs':=#[.string e.key,.int .u64 e.own,.int .u64 T.base]) rfl;have A6:=A4.off (show gc≠gb by omega) 2 (.int .u64 T.base);have K5:w.grownBy (w3.setCell ⟨gc,2,none⟩ (.int .u64 T.base)) none:=Aj_ (p:=⟨gc,2,none⟩) K3 (show w.heap.size≤gc by omega) _;clear a3 f3 b3 A3 A4 hm hm2;generalize w3.setCell ⟨gc,2,none⟩ (.int .u64 T.base)=w5 at *;have a5:=A5.cell;have a6:=A6.cell;have f6:=A6.free
   go_wp2_with fail
   (have g7:World.grownBy w5 (((w5.setCell ⟨gb,0,none⟩ (.string e.key)).setCell ⟨gb,1,none⟩ (.int .u64 e.own)).setCell ⟨gb,2,none⟩ (.int .u64 T.base)) (some gb):=Ac_ (Ac_ (Ac_ (Ab_ _ _) _ _) _ _) _ _);(have A7:Blk (((w5.setCell ⟨gb,0,none⟩ (.string e.key)).setCell ⟨gb,1,none⟩ (.int .u64 e.own)).setCell ⟨gb,2,none⟩ (.int .u64 T.base)) gb #[.string e.key,.int .u64 e.own,.int .u64 T.base]:=((Blk.set_ (by assumption) 0 _ rfl).set_ 1 _ rfl).set_ 2 _ rfl);generalize ((w5.setCell ⟨gb,0,none⟩ (.string e.key)).setCell ⟨gb,1,none⟩ (.int .u64 e.own)).setCell ⟨gb,2,none⟩ (.int .u64 T.base)=w7 at *
   have rc:=A7.cell;refine bodyPost_ret (v:=.tuple #[.agg #[.string e.key,.int .u64 e.own,.int .u64 T.base],.bool true]) (by simp[results,results160,go_sem,rc]) rfl ?_;exact Bf_ (by rw[hF.out];rfl) (Af_ K5 g7 (by omega))
  ·have hF:=hh_ (fix1 hm e)
   have hm2 :(T.mode==2)=false:=bf_ hm;have a3:=A3.cell;have a4:=A4.cell;have f4:=A4.free
   go_wp2_with fail
   (have g7:World.grownBy w3 (((w3.setCell ⟨gb,0,none⟩ (.string e.key)).setCell ⟨gb,1,none⟩ (.int .u64 e.own)).setCell ⟨gb,2,none⟩ (.int .u64 e.slack)) (some gb):=Ac_ (Ac_ (Ac_ (Ab_ _ _) _ _) _ _) _ _);(have A7:Blk (((w3.setCell ⟨gb,0,none⟩ (.string e.key)).setCell ⟨gb,1,none⟩ (.int .u64 e.own)).setCell ⟨gb,2,none⟩ (.int .u64 e.slack)) gb #[.string e.key,.int .u64 e.own,.int .u64 e.slack]:=((Blk.set_ (by assumption) 0 _ rfl).set_ 1 _ rfl).set_ 2 _ rfl);generalize ((w3.setCell ⟨gb,0,none⟩ (.string e.key)).setCell ⟨gb,1,none⟩ (.int .u64 e.own)).setCell ⟨gb,2,none⟩ (.int .u64 e.slack)=w7 at *
   have rc:=A7.cell;refine bodyPost_ret (v:=.tuple #[.agg #[.string e.key,.int .u64 e.own,.int .u64 e.slack],.bool true]) (by simp[results,results160,go_sem,rc]) rfl ?_;exact Bf_ (by rw[hF.out];rfl) (Af_ K3 g7 (by omega))
theorem Ev_ (g:Nat) (v:Value) (T:TabM) (k:ByteArray) (en:Ent) (w:World) (h:RTab w g v T) (hg:T.get k=some en):Calls Tryz.prog 160 #[.pointer (some ⟨g,0,none⟩),.string k] w (B8_ (.tuple #[.agg #[.string en.key,.int .u64 en.own,.int .u64 en.slack],.bool true]) w):=by
 have:=Z9_ g v T k w h
 rw[hg] at this;exact this
theorem Tz_ (g:Nat) (v:Value) (T:TabM) (k:ByteArray) (w:World) (h:RTab w g v T) (hg:T.get k=none):Calls Tryz.prog 160 #[.pointer (some ⟨g,0,none⟩),.string k] w (B8_ (.tuple #[.agg #[.string ⟨#[]⟩,.int .u64 0,.int .u64 0],.bool false]) w):=by
 have:=Z9_ g v T k w h
 rw[hg] at this;exact this
theorem Sk_ {T:TabM} {k:ByteArray} {en:Ent} (h:getE T.L k=some en):T.get k=some (T.fix en):=by unfold TabM.get;rw[h];rfl
theorem RTab.setSum {w:World} {g:Nat} {v:Value} {T:TabM} (h:RTab w g v T) (s:Int):RTab (w.setCell ⟨g,4,none⟩ (.int .u64 s)) g v { T with sum:=s }∧w.grownBy (w.setCell ⟨g,4,none⟩ (.int .u64 s)) (some g):=
 ⟨⟨h.blk.set_ 4 _ rfl,h.own.kept (Ac_ (Ab_ w (some g)) _ _) fun q hq e=>h.ne (by cases e;exact hq),h.ne⟩,Ac_ (Ab_ w (some g)) _ _⟩
theorem RTab.setBase {w:World} {g:Nat} {v:Value} {T:TabM} (h:RTab w g v T) (s:Int):RTab (w.setCell ⟨g,3,none⟩ (.int .u64 s)) g v { T with base:=s }∧w.grownBy (w.setCell ⟨g,3,none⟩ (.int .u64 s)) (some g):=
 ⟨⟨h.blk.set_ 3 _ rfl,h.own.kept (Ac_ (Ab_ w (some g)) _ _) fun q hq e=>h.ne (by cases e;exact hq),h.ne⟩,Ac_ (Ab_ w (some g)) _ _⟩
theorem RTab.setL {w:World} {g:Nat} {v v':Value} {T:TabM} (h:Blk w g (rtA T v)) {B:Nat} {L:List Ent} (ho:Own entF 3 224 B w v' L) (hn:¬ownF v' g):RTab (w.setCell ⟨g,2,none⟩ v') g v' { T with L:=L }∧w.grownBy (w.setCell ⟨g,2,none⟩ v') (some g):=
 ⟨⟨h.set_ 2 _ rfl,(ho.kept (Ac_ (Ab_ w (some g)) _ _) fun q hq e=>hn (by cases e;exact hq)).zero,hn⟩,Ac_ (Ab_ w (some g)) _ _⟩
theorem lies_new {v v':Value} {n:Nat} (l:Lies v v' n):∀i,ownF v' i→ownF v i∨n≤i:=fun i hi=>by
 rcases l with l |⟨q,l,l6⟩
 ·exact .inl (l.symm.trans hi)
 ·rw[hi] at l;cases l;exact .inr l6
theorem Ga_ {v v':Value} {n g:Nat} (l:Lies v v' n) (hn:¬ownF v g) (hg:g<n):¬ownF v' g:=fun e=>(lies_new l g e).elim hn fun h=>by omega
theorem Nv_ (L:List Ent) (x:Int) (e:Ent):minOwn (L++[e]) x=min (minOwn L x) e.own:=by simp[minOwn]
theorem Vq_ (L:List Ent) (d:Int) (e:Ent):cutE (L++[e]) d=cutE L d++(if 0<e.own-d then [⟨e.key,e.own-d,e.slack⟩] else []):=by
 unfold cutE;rw[List.map_append,List.filter_append]
 congr 1
 simp only[List.map_cons,List.map_nil,List.filter_cons,List.filter_nil]
 by_cases h:0<e.own-d
 ·rw[if_pos (by simpa using h),if_pos h]
 ·rw[if_neg (by simpa using h),if_neg h]
def TabM.deduct (T:TabM) (k:ByteArray) (x:Int):TabM:=
 if (T.L.length:Int)=T.m then { T with base:=T.base+minOwn T.L x,L:=if 0<x-minOwn T.L x then cutE T.L (minOwn T.L x)++[⟨k,x-minOwn T.L x,0⟩] else cutE T.L (minOwn T.L x) }
 else { T with L:=T.L++[⟨k,x,0⟩] }
structure Ded (T:TabM) (x:Int):Prop where
 own:∀e∈T.L,1≤e.own∧W64 e.own∧W64 e.slack
 len:T.L.length≤64
 base:W64 T.base
 sum:0≤T.base∧0≤x∧T.base+x≤18446744073709551615
 m:1≤T.m∧T.m≤64
theorem Tl_ (g:Nat) (v:Value) (T:TabM) (k:ByteArray) (x:Int) (w:World) (h:RTab w g v T) (hD:Ded T x) (hx1:1≤x) :
  Calls Tryz.prog 184 #[.pointer (some ⟨g,0,none⟩),.string k,.int .u64 x] w (fun e w'=>e=.returned (.tuple #[])∧∃v',RTab w' g v' (T.deduct k x)∧Mov (rtF g v) (rtF g v') w w'):=by
 obtain⟨a,c,hv⟩:=h.own.shape;have H:=hh_ h;have hglt:=h.blk.lt;have hlen:=hD.len;obtain⟨m1,m2⟩:=hD.m;obtain⟨s0,s1,s2⟩:=hD.sum;subst hv;have b0:=h.blk.cell;have f0:=h.blk.free
 by_cases hl :(T.L.length:Int)=T.m
 ·have hl2 :((T.L.length:Int)==T.m)=true:=beq_iff_eq.2 hl
  have HD:=hh_ hD;have HR:=hh_ (show T.deduct k x={ T with base:=T.base+minOwn T.L x,L:=if 0<x-minOwn T.L x then cutE T.L (minOwn T.L x)++[⟨k,x-minOwn T.L x,0⟩] else cutE T.L (minOwn T.L x) } from if_pos hl);have HM:=hh_ (Lf_ T.L x);have HMp:=hh_ (minOwn_pos hx1 fun e he=>(hD.own e he).1);clear h hl hD
  go_enter func184,ntmps184
  go_upto_region 1 with fail
  go_quiet (fail)
  have Hd1:World.grownBy w (w.drewN nq) none:=Ae_ (Ab_ w none) _;generalize w.drewN nq=w1 at *;have b1:=(H.out.same Hd1).blk.cell;clear b0 f0
  go_upto_region 3 with fail
  go_loopw [6,28] (fun s6 s28 wk=>∃j:Nat,j≤T.L.length∧s28=.int .i64 j∧s6=.int .u64 (minOwn (T.L.take j) x)∧w.grownBy wk none) (fun _ s28 _=>T.L.length-(RowKit.intOf s28).toNat)
  case atStart=>exact⟨0,zl_ _,rfl,by simp[minOwn],Hd1⟩
  case round=>
   obtain⟨j,hj,rfl,rfl,hg⟩:=hrel;clear b1 Hd1
   by_cases hjl:j<T.L.length
   ·obtain⟨g',off,cap,hv,hgl,d0,d1,d2⟩:=(H.out.same hg).own.rd.entr hjl
    cases hv;have HT:=hh_ (show minOwn (T.L.take (j+1)) x=min (minOwn (T.L.take j) x) T.L[j].own by rw[tg_ hjl,Nv_]);generalize minOwn (T.L.take j) x=mo at *;generalize T.L[j]=e at *
    go_upto_region 5 with fail
    obtain⟨A1,G1⟩:=nb_ wr #[.string e.key,.int .u64 e.own,.int .u64 e.slack] 224;generalize wr.alloc _=w2 at *;generalize hgb:wr.heap.size=gb at *;have K2:=Aa_ hg G1;have a1:=A1.cell;clear d0 d1 d2 hgl hg
    go_wp2_with fail
    exact⟨⟨j+1,by omega,by go_num,by rw[HT.out],K2⟩,by simp[RowKit.intOf];omega⟩
   ·have hje:T.L.take j=T.L:=tk_ (by omega)
    rw[hje];have hm1:=HM.out;have hmp:=HMp.out
    have hcut:∀(j:Nat) (e:Ent),T.L[j]?=some e→minOwn T.L x≤e.own:=fun j e he=>hm1.2 e (mo_ he)
    have Hcut:=hh_ hcut;generalize minOwn T.L x=d at *;clear HM HMp hcut hje;have R1:=H.out.same hg;have b1:=R1.blk.cell;have f1:=R1.blk.free;have hwr:IntKind.u64.wrap (T.base+d)=T.base+d:=IntWalk.u64_in _ (by omega)
    go_upto_region 8 with fail
    obtain⟨R2,g2⟩:=R1.setBase (T.base+d);clear R1 b1 f1 hwr;have hz:w.heap.size≤(wr.setCell ⟨g,3,none⟩ (.int .u64 (T.base+d))).heap.size:=lt_ hg.size g2.size
    have M2:GrownS (oneF g) w (wr.setCell ⟨g,3,none⟩ (.int .u64 (T.base+d))):=(GrownS.none_ (S:=oneF g) hg).trans (GrownS.of g2 fun q e=>by cases e;exact rfl) fun i hi _=>hi
    clear hg g2;generalize wr.setCell ⟨g,3,none⟩ (.int .u64 (T.base+d))=w2 at *;have HR2:=hh_ R2;have b2:=R2.blk.cell;have hwr:IntKind.u64.wrap (x-d)=x-d:=IntWalk.u64_in _ (by omega);clear R2
    go_upto_region 11 with fail
    clear b2
    have hwo:=fun(j:Nat) (e:Ent) (he:T.L[j]?=some e)=>HD.out.own e (mo_ he)
    have Hwo:=hh_ hwo;clear hwo
    go_loopw [9,53] (fun s9 s53 wk=>∃j:Nat,j≤T.L.length∧s53=.int .i64 j∧Own entF 3 224 w2.heap.size wk s9 (cutE (T.L.take j) d)∧w2.grownBy wk none) (fun _ s53 _=>T.L.length-(RowKit.intOf s53).toNat)
    case atStart=>exact⟨0,zl_ _,rfl,by simpa [cutE] using Own.nil entF 3 _ _ _,Ab_ _ _⟩
    case round=>
     obtain⟨j,hj,rfl,hO,hg⟩:=hrel
     by_cases hjl:j<T.L.length
     ·obtain⟨g',off,cap,hv,hgl,d0,d1,d2⟩:=(HR2.out.same hg).own.rd.entr hjl
      cases hv;obtain⟨o1,⟨o2,o3⟩,o4,o5⟩:=Hwo.out j _ (gq_ hjl);have o6:=Hcut.out j _ (gq_ hjl);have HT:=hh_ (show cutE (T.L.take (j+1)) d=cutE (T.L.take j) d++(if 0<T.L[j].own-d then [⟨T.L[j].key,T.L[j].own-d,T.L[j].slack⟩] else []) by rw[tg_ hjl,Vq_]);have hcl:=lt_ (Gg_ (T.L.take j) d) (List.length_take_le _ _);generalize cutE (T.L.take j) d=C at *;generalize T.L[j]=e at *
      go_upto_region 13 with fail
      obtain⟨A1,G1⟩:=nb_ wr #[.string e.key,.int .u64 e.own,.int .u64 e.slack] 224;generalize wr.alloc _=w3 at *;generalize hgb:wr.heap.size=gb at *;have K3:=Aa_ hg G1;have O3:=hO.same G1;have a3:=A1.cell;have f3:=A1.free;have hwr2:IntKind.u64.wrap (e.own-d)=e.own-d:=IntWalk.u64_in _ (by omega);clear d0 d1 d2 hgl
      go_upto_region 14 with fail
      have A4:=A1.set_ 1 (.int .u64 (e.own-d)) (cs':=#[.string e.key,.int .u64 (e.own-d),.int .u64 e.slack]) rfl;have hg4:w3.grownBy (w3.setCell ⟨gb,1,none⟩ (.int .u64 (e.own-d))) (some gb):=Ac_ (Ab_ _ _) _ _;have hgsz:=hg.size;have K4:w2.grownBy (w3.setCell ⟨gb,1,none⟩ (.int .u64 (e.own-d))) none:=Af_ K3 hg4 (by omega);have O4:=O3.kept hg4 (fun q hq e'=>by cases e';have:=(hO.lt _ hq).2;omega);clear a3 f3 hwr2 A1 O3 K3 hO;generalize w3.setCell ⟨gb,1,none⟩ (.int .u64 (e.own-d))=w4 at *;have a4:=A4.cell
      by_cases hp:0<e.own-d
      ·have hT:=HT.out
       rw[if_pos hp] at hT;have HT2:=hh_ hT;clear hT HT;obtain⟨oa,oc,rfl⟩:=O4.shape
       have hb1 :(C.length+1)*32≤140737488355328:=by omega
       have hb2:C.length+1≤9223372036854775807:=by omega
       have hz4:=K4.size
       go_wp2_with (at_builtin;refine A6_ (l:=C) Bh_ Bg_ Az_ O4 ⟨e.key,e.own-d,e.slack⟩ hb1 hb2 hz4 (by rfl) rfl _ _ rfl rfl rfl ?_;intro v5 w5 o5 g5 l5)
       refine⟨⟨j+1,by omega,by go_num,by rw[HT2.out];exact o5,Ao_ K4 O4 (le_ _) g5⟩,by simp[RowKit.intOf];omega⟩
      ·have hT:=HT.out
       rw[if_neg hp,List.append_nil] at hT;have HT2:=hh_ hT;clear hT HT
       go_wp2_with fail
       refine⟨⟨j+1,by omega,by go_num,by rw[HT2.out];exact O4,K4⟩,by simp[RowKit.intOf];omega⟩
     ·have hje:T.L.take j=T.L:=tk_ (by omega)
      rw[hje] at hO;obtain⟨oa,oc,rfl⟩:=hO.shape;have Hcl:=hh_ (Gg_ T.L d);generalize cutE T.L d=C at *;have R3:=HR2.out.same hg;have b3:=R3.blk.cell;have f3:=R3.blk.free
      go_upto_region 18 with fail
      have hgl2:g<w2.heap.size:=by omega
      have hnv:¬ownF (.slice oa C.length oc) g:=fun e=>by have:=(hO.lt _ e).1;omega
      obtain⟨R4,g4⟩:=RTab.setL R3.blk hO hnv
      have M4:GrownS (oneF g) w (wr.setCell ⟨g,2,none⟩ (.slice oa C.length oc)):=(M2.trans (GrownS.none_ (S:=oneF g) hg) fun i hi _=>hi).trans (GrownS.of g4 fun q e=>by cases e;exact rfl) fun i hi _=>hi
      have hv0:=fun q (hq :(Value.slice oa C.length oc).ownBlock=some q)=>(hO.lt q hq).1
      have hsz4:w2.heap.size≤(wr.setCell ⟨g,2,none⟩ (.slice oa C.length oc)).heap.size:=lt_ hg.size g4.size;clear b3 f3 R3 hO hg g4 hje HR2 Hwo Hcut;generalize wr.setCell ⟨g,2,none⟩ (.slice oa C.length oc)=w4 at *;have HR4:=hh_ R4;have b4:=R4.blk.cell;have f4:=R4.blk.free
      by_cases hp:0<x-d
      ·have hR:=HR.out
       rw[if_pos hp] at hR;have HRR:=hh_ hR;have hcl:=Hcl.out
       have hb1 :(C.length+1)*32≤140737488355328:=by omega
       have hb2:C.length+1≤9223372036854775807:=by omega
       have hO4:=R4.own;clear hR HR R4
       go_wp2_with (at_builtin;refine A6_ (l:=C) Bh_ Bg_ Az_ hO4 ⟨k,x-d,0⟩ hb1 hb2 (zl_ _) (by rfl) rfl _ _ rfl rfl rfl ?_;intro v5 w5 o5 g5 l5;have B5:=HR4.out.blk.kept g5 (fun e=>HR4.out.ne e);have b5:=B5.cell;have f5:=B5.free;obtain⟨a5,c5,hv5⟩:=o5.shape;rw[la_,ls_] at hv5;subst hv5)
       go_end0
       have hn5:=Ga_ l5 HR4.out.ne (by omega);obtain⟨R6,g6⟩:=RTab.setL B5 o5 hn5;refine⟨rfl,_,by rw[HRR.out];exact R6,?_,?_⟩
       ·refine((M4.mono (T:=rtF g (.slice a T.L.length c)) fun i hi _=>.inl hi).trans (GrownS.of (S:=fun i=>ownF (.slice oa C.length oc) i) g5 fun q e=>e) fun i hi hlt=>?_).trans (GrownS.of (S:=oneF g) g6 fun q e=>by cases e;exact rfl) fun i hi _=>.inl hi
        have:=hv0 i hi;omega
       ·intro i hi
        rcases hi with hi|hi
        ·exact .inl (.inl hi)
        ·right
         rcases lies_new l5 i hi with hi|hi
         ·have:=hv0 i hi;omega
         ·omega
      ·have hR:=HR.out
       rw[if_neg hp] at hR;have HRR:=hh_ hR;clear hR HR R4
       go_wp2_with fail
       go_end0
       refine⟨rfl,_,by rw[HRR.out];exact HR4.out,M4.mono fun i hi _=>.inl hi,fun i hi=>?_⟩
       rcases hi with hi|hi
       ·exact .inl (.inl hi)
       ·exact .inr (by have:=hv0 i hi;omega)
 ·have hl2 :((T.L.length:Int)==T.m)=false:=bf_ hl
  have HR:=hh_ (show T.deduct k x={ T with L:=T.L++[⟨k,x,0⟩] } from if_neg hl)
  have hxp:0<x:=by omega
  clear h hl hD
  go_enter func184,ntmps184
  go_upto_region 1 with fail
  go_quiet (fail)
  have Hd1:World.grownBy w (w.drewN nq) none:=Ae_ (Ab_ w none) _;generalize w.drewN nq=w1 at *;have R1:=H.out.same Hd1;have HR1:=hh_ R1;have b1:=R1.blk.cell;have f1:=R1.blk.free;have hO1:=R1.own
  have hb1 :(T.L.length+1)*32≤140737488355328:=by omega
  have hb2:T.L.length+1≤9223372036854775807:=by omega
  have hgl1:g<w1.heap.size:=R1.blk.lt;clear b0 f0 R1
  go_wp2_with (at_builtin;refine A6_ (l:=T.L) Bh_ Bg_ Az_ hO1 ⟨k,x,0⟩ hb1 hb2 (zl_ _) (by rfl) rfl _ _ rfl rfl rfl ?_;intro v5 w5 o5 g5 l5;have B5:=HR1.out.blk.kept g5 (fun e=>HR1.out.ne e);have b5:=B5.cell;have f5:=B5.free;obtain⟨a5,c5,hv5⟩:=o5.shape;rw[la_,ls_] at hv5;subst hv5)
  go_end0
  have hn5:=Ga_ l5 HR1.out.ne hgl1;obtain⟨R6,g6⟩:=RTab.setL B5 o5 hn5;have hsz:=Hd1.size;refine⟨rfl,_,by rw[HR.out];exact R6,?_,fun i hi=>?_⟩
  ·exact((GrownS.none_ (S:=rtF g (.slice a T.L.length c)) Hd1).trans (GrownS.of (S:=fun i=>ownF (.slice a T.L.length c) i) g5 fun q e=>e) fun i hi _=>.inr hi).trans (GrownS.of (S:=oneF g) g6 fun q e=>by cases e;exact rfl) fun i hi _=>.inl hi
  ·rcases hi with hi|hi
   ·exact .inl (.inl hi)
   ·rcases lies_new l5 i hi with hi|hi
    ·exact .inl (.inr hi)
    ·exact .inr (by omega)
end
section
open Go.RowKit
theorem Gl_ {w:World} {st e ty:TypeId} {z:Value} {size bytes:Nat} (E:Elt st e z size bytes) {base:Nat} {v:Value} {n:Nat} {xs:List Value} (hown:w.ownsRow base e size v n xs)
  {A:Option Addr} {m c:Nat} {news:List Value} (hr:Rd w size (.slice A m c) m news) (h1:∀u∈news,u.oneCell'=true) (h63:n+m≤maxLen) (hb :(n+m)*bytes≤140737488355328) (hbase:base≤w.heap.size) :
  ∃v' w',(Builtin.append_ #[st,st] ty #[v,.slice A m c]).run Tryz.prog w=.ok v' w'∧w'.ownsRow base e size v' (n+m) (xs++news)∧w.grownBy w' v.ownBlock ∧
   ((∃g cap cur,v=.slice (some ⟨g,0,none⟩) n cap∧v'=.slice (some ⟨g,0,none⟩) (n+m) cap∧w.heap[g]?=some (.cells cur e (0,0))∧w'.heap[g]?=some (.cells (cur.toList.take (n*size)++news++cur.toList.drop (n*size+news.length)).toArray e (0,0)))∨w.grownBy w' none):=by
 obtain⟨i,hi,hz0,hz1,hz2⟩:=info_parts E.info;obtain⟨v',w',hrun,h2,h3,h4⟩:=Fm_ (ty:=ty) E hown hr h1 h63 hb hbase;refine⟨v',w',hrun,h2,h3,?_⟩
 have key:∀ad:Addr,(∀j u,news[j]?=some u→w.cell? (ad.add j)=some u)→A=some ad→(∃g cap cur,v=.slice (some ⟨g,0,none⟩) n cap∧v'=.slice (some ⟨g,0,none⟩) (n+m) cap∧w.heap[g]?=some (.cells cur e (0,0))∧w'.heap[g]?=some (.cells (cur.toList.take (n*size)++news++cur.toList.drop (n*size+news.length)).toArray e (0,0)))∨w.grownBy w' none:=by
  intro ad hc e;subst e;have hl:=hr.1
  rcases hown.2 with⟨rfl,rfl⟩ |⟨g,cap,cur,rfl,hbg,hg,hnc,hcm,hcs,htake⟩
  ·exact .inr h3
  ·by_cases hroom:n+m≤cap
   ·have hfit:n*i.size+news.length≤cur.size:=by rw[hz1,hl,hcs,←Nat.add_mul];exact Nat.mul_le_mul_right _ hroom
    have hr2:=run_append_room (P:=Tryz.prog) w st ty e i E.ht hi g n cap cur hg ad m c news (by rw[hz1];exact hl) hc h1 hroom hfit;rw[hr2] at hrun;cases hrun;rw[hz1];exact .inl ⟨g,cap,cur,rfl,rfl,hg,setRow_heap w g cur _ e _ hg⟩
   ·have holds:∀j u,xs[j]?=some u→w.cell? ((⟨g,0,none⟩:Addr).add j)=some u:=hown.cells (g:=g) rfl
    have hr2:=run_append_grow (P:=Tryz.prog) w st ty e i z E.ht hi hz0 ⟨g,0,none⟩ n cap xs (by rw[hz1];exact hown.1) holds ad m c news (by rw[hz1];exact hl) hc (by omega) (by unfold maxLen at h63;omega) (growslice_fits (by omega) (by rw[hz2];exact hb));rw[hr2] at hrun;cases hrun;exact .inr (Ad_ (Am_ (Ab_ _ _)) _)
 rcases hr.2.2 with⟨rfl,a,cap,hv⟩ |⟨g,off,cap,hv,_,hc⟩
 ·have hn:news=[]:=List.eq_nil_of_length_eq_zero (by simpa using hr.1)
  subst hn
  cases A with
  | none=>
   have hr2:=Eo_ (ty:=ty) E hown c;rw[hr2] at hrun;cases hrun;exact .inr (Ab_ _ _)
  | some ad=>exact key ad (by simp) rfl
 ·cases hv
  refine key _ (fun j u hu=>?_) rfl
  have e :(⟨g,off,none⟩:Addr).add j =⟨g,off+j,none⟩:=by unfold Addr.add;split <;> simp_all
  rw[e];exact hc j u hu
section
variable {α:Type} {f:α→List Value} {st e:TypeId} {z:Value} {size bytes:Nat}
structure Keep (f:α→List Value) (size:Nat) (e:TypeId) (N:Nat) (P:List α→Prop) (w w':World):Prop where
 grown:GrownS (fun i=>N≤i) w w'
 own:∀T v,P T→Own f size e N w v T→Own f size e N w' v T
variable {N:Nat} {P:List α→Prop} {w w' w'':World}
theorem Keep.refl (f:α→List Value) (size:Nat) (e:TypeId) (N:Nat) (P:List α→Prop) (w:World):Keep f size e N P w w:=⟨GrownS.refl _ _,fun _ _ _ h=>h⟩
theorem Keep.trans (h:Keep f size e N P w w') (k:Keep f size e N P w' w''):Keep f size e N P w w'':=⟨h.grown.trans k.grown (fun _ hi _=>hi),fun T v hp ho=>k.own T v hp (h.own T v hp ho)⟩
theorem Keep.of (h:w.grownBy w' none):Keep f size e N P w w':=⟨GrownS.none_ h,fun _ _ _ ho=>ho.same h⟩
theorem Keep.rd {β:Type} {g:β→List Value} {s:Nat} {v:Value} {l:List β} (h:Keep f size e N P w w') (hr:RdL g s w v l) (hv:0<l.length→∀a n c,v=.slice (some a) n c→a.block<N):RdL g s w' v l:=
 hr.keptS h.grown fun h0 a n c e h1=>by have:=hv h0 a n c e;omega
theorem Keep.blk {g:Nat} {cs:Array Value} (h:Keep f size e N P w w') (hb:Blk w g cs) (hg:g<N):Blk w' g cs:=hb.keptS h.grown (by omega)
theorem Fg_ {v v':Value} {l l2 T:List α} (hf:∀x,(f x).length=size) (hpos:0<size) (ho:Own f size e N w v l) (ho':Own f size e N w' v' (l++l2)) (hg:w.grownBy w' v.ownBlock)
  (hc :(∃g cap cur,v=.slice (some ⟨g,0,none⟩) l.length cap∧v'=.slice (some ⟨g,0,none⟩) (l.length+l2.length) cap∧w.heap[g]?=some (.cells cur e (0,0))∧w'.heap[g]?=some (.cells (cur.toList.take (l.length*size)++cellsOf f l2++cur.toList.drop (l.length*size+(cellsOf f l2).length)).toArray e (0,0)))∨w.grownBy w' none)
  (hT:T.length≤l.length∨T <+: l++l2∨l++l2 <+: T)
  {u:Value} (hu:Own f size e N w u T):Own f size e N w' u T:=by
 rcases hc with⟨g,cap,cur,rfl,rfl,hc1,hc2⟩|hc
 ·by_cases hub:u.ownBlock=some g
  ·rcases hu.2 with⟨rfl,h0⟩ |⟨g',cap',cur',rfl,hb',hg',hn',hm',hs',ht'⟩
   ·simp[Value.ownBlock] at hub
   ·have e1:g'=g:=by simpa [Value.ownBlock] using hub
    subst e1;rw[hc1] at hg';cases hg'
    rcases ho.2 with⟨h0,_⟩ |⟨g1,cap1,cur1,e1,_,hg1,hn1,_,hs1,ht1⟩
    ·cases h0
    ·cases e1
     rw[hc1] at hg1;cases hg1
     rcases ho'.2 with⟨h0,_⟩ |⟨g2,cap2,cur2,e2,_,hg2,hn2,hm2,hs2,ht2⟩
     ·cases h0
     ·obtain⟨e3,_,e4⟩:=Value.slice.inj e2
      cases e3;subst e4;rw[hc2] at hg2;cases hg2;have hl2 :(cellsOf f l2).length=l2.length*size:=At_ f size hf l2
      have hroom:l.length*size+l2.length*size≤cap*size:=by
       rw[←Nat.add_mul,←la_];exact Nat.mul_le_mul_right _ hn2
      have hcc:cap'=cap:=Nat.eq_of_mul_eq_mul_right hpos (by rw[←hs',hs1]);subst hcc;refine⟨hu.1,.inr ⟨g',cap',_,rfl,hb',hc2,hn',hm',hs2,?_⟩⟩
      rcases hT with h |⟨r,hr⟩ |⟨r,hr⟩
      ·have hle:T.length*size≤l.length*size:=Nat.mul_le_mul_right _ h
       have e9:cur.toList.length=cur.size:=Array.length_toList (xs:=cur)
       have hA:l.length*size≤cur.toList.length:=by omega
       show List.take _ (cur.toList.take _++_++_)=_
       rw[List.append_assoc,List.take_append_of_le_length (by rw[lk_];omega),List.take_take,Nat.min_eq_left hle];exact ht'
      ·have hlen :(cellsOf f T).length=T.length*size:=At_ f size hf T
       have hle:T.length*size≤(cellsOf f l++cellsOf f l2).length:=by
        rw[←Aq_,←hr,Aq_,la_,hlen];omega
       show List.take _ (cur.toList.take _++_++_)=_
       rw[ht1,List.take_append_of_le_length hle,←Aq_,←hr,Aq_,←hlen,List.take_left]
      ·have h1:cur.toList.take (l.length*size+(cellsOf f l2).length)=cellsOf f l++cellsOf f l2:=by
        have hle:l.length*size+(cellsOf f l2).length≤T.length*size:=by
         rw[hl2,←Nat.add_mul,←hr,la_,la_];exact Nat.mul_le_mul_right _ (by omega)
        have :(cur.toList.take (T.length*size)).take (l.length*size+(cellsOf f l2).length)=cellsOf f l++cellsOf f l2:=by
         rw[ht',←hr,Aq_,Aq_]
         have e5:l.length*size+(cellsOf f l2).length =(cellsOf f l++cellsOf f l2).length:=by rw[la_,At_ f size hf l]
         rw[e5,List.take_left]
        rwa [List.take_take,Nat.min_eq_left hle] at this
       show List.take _ (cur.toList.take _++_++_)=_
       rw[ht1,←h1,List.take_append_drop];exact ht'
  ·exact hu.kept hg (fun k hk e=>hub (by rw[hk];simpa [Value.ownBlock] using e.symm))
 ·exact hu.same hc
section
variable {v:Value} {l l2:List α} {A:Option Addr} {m c:Nat}
variable {o:Oper} {a:Act} {ops:Array Oper} {rest:List Oper} {Q:Exit→Act→World→Prop}
theorem Ba_ (E:Elt st e z size bytes) (h1:OneF f) (hf:∀x,(f x).length=size) (hown:Own f size e N w v l) (hr:RdL f size w (.slice A m c) l2) (hm:m=l2.length) (hb :(l.length+l2.length)*bytes≤140737488355328) (h63:l.length+l2.length≤9223372036854775807) (hbase:N≤w.heap.size)
  (hP:∀T,P T→T.length≤l.length∨T <+: l++l2∨l++l2 <+: T)
  (hgd:o.guard=none) (s x:Operand) (ho:o.op=.call { callee:=.builtin .append,args:=#[s,x],argTypes:=#[st,st] }) (hs:a.eval s=v) (hx:a.eval x=.slice A m c)
  (h:∀v' w',Own f size e N w' v' (l++l2)→Keep f size e N P w w'→wpList Tryz.prog ops Q rest (a.put o.dst v') w'):wpList Tryz.prog ops Q (o::rest) a w:=by
 refine wpList_plain hgd fun _ hK=>?_
 subst hm;obtain⟨v',w',hrun,h2,h3,h4⟩:=Gl_ (ty:=o.type) E hown hr (h1.cells l2) (by unfold maxLen;exact h63) hb hbase
 have h2':Own f size e N w' v' (l++l2):=by unfold Own;rw[Aq_,la_];exact h2
 unfold Oper.wp execOp;simp only[ho,resolve,invoke,builtin,Sem.run_bind,Sem.run_pure,Result.andThen_ok,List.map_toArray,List.map_cons,List.map_nil,hs,hx,hrun];exact hK _ _ (h v' w' h2' ⟨GrownS.of h3 (fun k hk=>(hown.lt k hk).1),fun T u hp hu=>Fg_ hf E.pos hown h2' h3 h4 (hP T hp) hu⟩)
end
theorem By_ (hf:∀x,(f x).length=size) (w0:World) (hN:N≤w0.heap.size) (y:α) (cs:Array Value) (hcs:cs.toList=f y):Own f size e N (w0.alloc (.cells cs e)) (.slice (some ⟨w0.heap.size,0,none⟩) 1 1) [y]:=by
 have hl:cs.size=size:=by rw[←Array.length_toList,hcs,hf]
 refine⟨by simp[cellsOf,hf],.inr ⟨w0.heap.size,1,cs,rfl,hN,heap_alloc_new w0 _,le_ _,by unfold maxLen;omega,by omega,?_⟩⟩;rw[hcs];simp only[cellsOf,List.flatMap_cons,List.flatMap_nil,List.append_nil,lc_,List.length_nil,Nat.zero_add,Nat.one_mul];rw[←hf y,List.take_length]
end
end
section
open Go.RowKit Go.Sort
theorem T4_ (L:List Ent) (e:Ent):minE (L++[e])=match minE L with|none=>some e|some x=>if e.cnt<x.cnt then some e else some x:=by
 induction L with
 | nil=>rfl
 | cons a L ih=>
  rw[List.cons_append];simp only[minE];rw[ih]
  cases hm:minE L with
  | none=>rfl
  | some x=>
   dsimp only
   by_cases h1:e.cnt<x.cnt
   ·rw[if_pos h1]
    by_cases h2:x.cnt<a.cnt
    ·rw[if_pos h2];dsimp only;rw[if_pos (by omega),if_pos h1]
    ·rw[if_neg h2]
   ·rw[if_neg h1]
    by_cases h2:x.cnt<a.cnt
    ·rw[if_pos h2];dsimp only;rw[if_neg h1,if_pos h2]
    ·simp only[if_neg h2];rw[if_neg (by omega)]
theorem Bc_ (k:ByteArray):k.toList.isEmpty=decide (k.size=0):=by
 rw[ByteArray.toList_eq,Bool.eq_iff_iff,List.isEmpty_iff,decide_eq_true_eq,←List.length_eq_zero_iff]
 rfl
theorem Ul_ {L:List Ent} (h :(keysE L).Nodup) {i:Nat} (hi:i<L.length):delE L L[i].key=L.eraseIdx i:=by
 induction L generalizing i with
 | nil=>simp at hi
 | cons a L ih=>
  have hn:=List.nodup_cons.1 (by simpa [keysE] using h :(a.key::keysE L).Nodup);unfold delE
  cases i with
  | zero=>rw[List.eraseP_cons_of_pos (by simp[hasK])];rfl
  | succ i=>
   have hi':i<L.length:=by simpa using hi
   have hne:a.key≠L[i].key:=fun e=>hn.1 (e▸Ed_ (mg_ hi'))
   simp only[List.getElem_cons_succ,List.eraseIdx_cons_succ];rw[List.eraseP_cons_of_neg (by simpa [hasK] using hne)]
   have:=ih hn.2 hi'
   unfold delE at this;rw[this]
def RAdd (g:Nat) (v:Value) (T:TabM) (k:ByteArray) (x:Int) (w:World) (e:Ending) (w':World):Prop:=
 e=.returned (.int .i64 (addErr T.sum k x))∧∃v',RTab w' g v' (if addErr T.sum k x=0 then T.add k x else T)∧Mov (rtF g v) (rtF g v') w w'
theorem Ze_ (g:Nat) (v:Value) (T:TabM) (k:ByteArray) (x:Int) (w:World) (h:RTab w g v T) (hT:W64 T.sum) (hx:W64 x) (he:addErr T.sum k x≠0):Calls Tryz.prog 159 #[.pointer (some ⟨g,0,none⟩),.string k,.int .u64 x] w (RAdd g v T k x w):=by
 have H:=hh_ h
 have HF:=hh_ fun y=>Dd_ T.sum x y hT hx
 have b0:=h.blk.cell
 have R:∀w' e,e=addErr T.sum k x→w.grownBy w' none→RAdd g v T k x w (.returned (.int .i64 e)) w':=fun w' e he' hg=>⟨by rw[he'],v,by rw[if_neg he];exact H.out.same hg,Mov.same hg⟩
 clear h;unfold addErr at R he
 by_cases hk:k.size=0
 ·rw[if_pos hk] at R
  have hk2:=Bc_ k;rw[dt_ hk] at hk2
  go_enter func159,ntmps159
  go_wp2_with fail
  go_ret
  exact R _ _ rfl (Ab_ _ _)
 ·rw[if_neg hk] at R he
  have hk2:=Bc_ k;rw[df_ hk] at hk2
  by_cases h0:x=0
  ·rw[if_pos h0] at R
   subst h0
   go_enter func159,ntmps159
   go_wp2_with fail
   go_ret
   exact R _ _ rfl (Ab_ _ _)
  ·rw[if_neg h0] at R he
   have h02 :(x==0)=false:=bf_ h0
   have hm:mostW<T.sum+x:=Decidable.byContradiction fun h=>he (if_neg h)
   rw[if_pos hm] at R;have hF:fitsB T.sum x=false:=df_ (by unfold mostW at hm;omega);rw[hF] at HF
   go_enter func159,ntmps159
   go_wp2_with (go_at_call 118;refine(HF.out _).mono ?_;rintro e w1 ⟨rfl,rfl⟩)
   go_ret
   exact R _ _ rfl (Ab_ _ _)
structure Jv_ (T:TabM) (k:ByteArray) (x:Int):Prop where
 key:0<k.size∧k.size≤255
 x1:1≤x
 sum:T.sum+x≤mostW
theorem Jv_.err {T:TabM} {k:ByteArray} {x:Int} (h:Jv_ T k x):addErr T.sum k x=0:=by
 have:=h.key;have:=h.x1;have:=h.sum
 unfold addErr;rw[if_neg (by omega),if_neg (by omega),if_neg (by omega)]
theorem f5_ {T:TabM} {k:ByteArray} {x:Int} (he:addErr T.sum k x=0) (hk:k.size≤255) (hx:0≤x):Jv_ T k x:=by
 unfold addErr at he
 split at he
 ·omega
 ·split at he
  ·omega
  ·split at he
   ·omega
   ·exact⟨by omega,by omega,by omega⟩
theorem W4_ (g:Nat) (v:Value) (T:TabM) (k:ByteArray) (x:Int) (w:World) (h:RTab w g v T) (hT:Bt_ T) (hA:Jv_ T k x) (en:Ent) (hg:getE T.L k=some en):Calls Tryz.prog 159 #[.pointer (some ⟨g,0,none⟩),.string k,.int .u64 x] w (RAdd g v T k x w):=by
 have H:=hh_ h;obtain⟨q1,q2,q3⟩:=hT.w64;obtain⟨hem,rfl⟩:=A4_ hg;obtain⟨⟨e1,e2⟩,⟨e3,e4⟩,e5,e6⟩:=q3 en hem;have hxs:=hA.sum;have hx1:=hA.x1;have hmw:mostW=9223372036854775808:=rfl;have hb:=hT.base;have hW:W64 x:=⟨by omega,by omega⟩
 have HF:=hh_ fun y=>Dd_ T.sum x y q2 hW
 rw[show fitsB T.sum x=true from dt_ (by omega)] at HF;have hk2:=Bc_ en.key;rw[df_ (show ¬en.key.size=0 by have:=hA.key;omega)] at hk2;have h02 :(x==0)=false:=bf_ (by omega);obtain⟨i1,hil,hie,hdel⟩:=Cp_ hg;have hlen:=hT.len;have hmm:=hT.m
 have HP:=hh_ fun y (R:RTab y g v { T with sum:=T.sum+x })=>B7_ v T.L en.key y R.own.rd
 rw[i1] at HP
 have HC:=hh_ fun y (R:RTab y g v { T with sum:=T.sum+x })=>Nw_ hg (w:=y) (v:=v) R.own.rd
 have HW:=hh_ fun y (R:Own entF 3 224 0 y v T.L)=>D0_ 0 v T.L (plN T.L en.key) y R hil (by omega)
 rw[←hdel] at HW;have HR:=hh_ (show(if addErr T.sum en.key x=0 then T.add en.key x else T)={ T with sum:=T.sum+x,L:=delE T.L en.key++[⟨en.key,en.own+x,en.slack⟩] } by rw[if_pos hA.err,Ke_ hg]);have HE:=hh_ hA.err;have hdl:=Da_ hg;generalize plN T.L en.key=I at *;generalize delE T.L en.key=L1 at *;have b0:=h.blk.cell;have f0:=h.blk.free;obtain⟨a,c,hv⟩:=h.own.shape;subst hv;have hgl:=h.blk.lt;have hvl:=h.own.low;have hne:=h.ne;have hwr:IntKind.u64.wrap (T.sum+x)=T.sum+x:=IntWalk.u64_in _ (by omega);clear h hT hA hg i1 hie hdel hem q3 q1 q2
 go_enter func159,ntmps159
 go_upto_region 8 with(go_at_call 118;refine(HF.out _).mono ?_;rintro e w1 ⟨rfl,rfl⟩)
 obtain⟨R1,g1⟩:=H.out.setSum (T.sum+x);clear b0 f0 hwr HF;generalize w.setCell ⟨g,4,none⟩ (.int .u64 (T.sum+x))=w1 at *;have HR1:=hh_ R1;have b1:=R1.blk.cell;clear R1
 go_upto_region 9 with(go_at_call 182;refine(HP.out _ HR1.out).mono ?_;rintro e w2 ⟨rfl,g2⟩)
 have R2:=HR1.out.same g2;have HR2:=hh_ R2;have b2:=R2.blk.cell;obtain⟨g',off,cap,hv,hgl',d0,d1,d2⟩:=HC.out _ R2;cases hv;clear b1 R2 HR1
 go_upto_region 11 with fail
 obtain⟨A3,G3⟩:=nb_ w2 #[.string en.key,.int .u64 en.own,.int .u64 en.slack] 224;generalize w2.alloc _=w3 at *;generalize hgc:w2.heap.size=gc at *;have a3:=A3.cell;have f3:=A3.free;have hwr:IntKind.u64.wrap (en.own+x)=en.own+x:=IntWalk.u64_in _ (by omega);clear d0 d1 d2 b2
 go_upto_region 12 with fail
 have A4:=A3.set_ 1 (.int .u64 (en.own+x)) (cs':=#[.string en.key,.int .u64 (en.own+x),.int .u64 en.slack]) rfl;have g4:w3.grownBy (w3.setCell ⟨gc,1,none⟩ (.int .u64 (en.own+x))) (some gc):=Ac_ (Ab_ _ _) _ _;have k4:w2.grownBy (w3.setCell ⟨gc,1,none⟩ (.int .u64 (en.own+x))) none:=Af_ G3 g4 (Nat.le_of_eq hgc);clear a3 f3 hwr A3 G3 g4;generalize w3.setCell ⟨gc,1,none⟩ (.int .u64 (en.own+x))=w4 at *;have k5:w2.grownBy w4.drew none:=Am_ k4;have HB:=hh_ (HR2.out.same k5).blk;have HO:=hh_ (HR2.out.same k5).own;have HX:=hh_ A4.drew1;have hcN:gc<w4.drew.heap.size:=A4.drew1.lt;have hgN:g<w4.drew.heap.size:=HB.out.lt;obtain⟨N,hN⟩:∃N,N=w4.drew.heap.size:=⟨_,rfl⟩;have HN2:=hh_ (Nat.le_of_eq hN);rw[←hN] at hcN hgN
 have hvN:∀i,ownF (.slice (some ⟨g',off,none⟩) T.L.length c) i→i<N:=by rw[hN];exact HO.out.low
 obtain⟨P,hP⟩:∃P:List Ent→Prop,P=fun T=>T=L1∨T=[⟨en.key,en.own+x,en.slack⟩]∨T=L1++[⟨en.key,en.own+x,en.slack⟩]:=⟨_,rfl⟩;have HP1:=hh_ (show P L1 by rw[hP];exact .inl rfl);have HPx:=hh_ (show P [⟨en.key,en.own+x,en.slack⟩] by rw[hP];exact .inr (.inl rfl));have HPF:=hh_ (show P (L1++[⟨en.key,en.own+x,en.slack⟩]) by rw[hP];exact .inr (.inr rfl))
 have HP2:=hh_ (show ∀T,P T→T.length≤L1.length∨T <+: L1++[⟨en.key,en.own+x,en.slack⟩]∨L1++[⟨en.key,en.own+x,en.slack⟩] <+: T by
  intro T hT;rw[hP] at hT
  rcases hT with rfl|rfl|rfl
  ·exact .inl (le_ _)
  ·cases L1 with
   | nil=>exact .inr (.inl (List.prefix_refl _))
   | cons _ _=>exact .inl (by simp)
  ·exact .inr (.inl (List.prefix_refl _)))
 have hb4 :(L1.length+[(⟨en.key,en.own+x,en.slack⟩:Ent)].length)*32≤140737488355328:=by simp;omega
 have hb5:L1.length+[(⟨en.key,en.own+x,en.slack⟩:Ent)].length≤9223372036854775807:=by simp;omega
 have HW2:=hh_ fun y (m:Keep entF 3 224 N P w4.drew y)=>HW.out y (HO.out.keptS m.grown fun q hq hge=>by have:=hvN q hq;omega)
 clear HW hP;have HW:=HW2;clear HW2;have Hk:=hh_ k5;have Hne:=hh_ hne;have Hvl:=hh_ hvl;have Hg1:=hh_ g1
 have hN0:w.heap.size≤N:=by have:=g1.size;have:=g2.size;have:=k5.size;omega
 clear HP HC k4 k5 A4 hne hvl g1 HR2 H hN hdl
 (refine Rg.wp_region_rgZ 12 #[] (Keep entF 3 224 N P) (fun k _ w v w'=>match k with | 6=>Own entF 3 224 N w' v L1∧World.grownBy w w' none | _=>False) (by kernel_rfl) (by kernel_rfl) (Keep.refl _ _ _ _ _) (fun _ _ _ h k=>h.trans k) (fun _ _ _ _ _ h=>h) ?_;simp only[List.take,List.drop])
 generalize w4.drew=wd at *
 (refine tq_ 4 ?_;(repeat(go_big_quiet_step (fail)));refine wn_ ?_)
 (refine to_ ?_;intro y4 my4 dy4)
 clear dy4;have ax:=(my4.blk HB.out hgN).cell
 go_wp2_with fail
 refine⟨Keep.refl _ _ _ _ _ _,?_⟩;clear ax
 (refine tq_ 1 ?_;(repeat(go_big_quiet_step (fail)));refine wn_ ?_)
 (refine tc_ ?_;intro y6 my6 dy6;refine⟨?_,?_⟩;· (unfold Rg.callSpec;go_simp;(refine(HW.out y6 my6).mono ?_;rintro e w' ⟨v',rfl,o',g'⟩;exact⟨_,rfl,o'.base (fun q hq=>lt_ (lt_ HN2.out my6.grown.size) (o'.lt q hq).1),g'⟩)))
 clear dy6;rintro v7 e7 ⟨o7,g7⟩;refine⟨Keep.of g7,?_⟩;simp only[pt_];clear g7 my6
 (refine to_ ?_;intro y7 my7 dy7)
 clear dy7;have ax:=(my7.blk HX.out hcN).cell
 go_wp2_with fail
 refine⟨Keep.refl _ _ _ _ _ _,?_⟩;clear ax
 (refine to_ ?_;intro y8 my8 dy8)
 clear dy8;have z8:=lt_ HN2.out my8.grown.size
 go_wp2_with fail
 refine⟨Keep.of (ga_ _ _ _),?_⟩;have N8:Own entF 3 224 N (y8.alloc (.cells #[.string en.key,.int .u64 (en.own+x),.int .u64 en.slack] 224)) (.slice (some ⟨y8.heap.size,0,none⟩) 1 1) [⟨en.key,(en.own+x),en.slack⟩]:=By_ Az_ y8 z8 ⟨en.key,(en.own+x),en.slack⟩ _ rfl;generalize y8.alloc _=e8 at *;generalize y8.heap.size=g8 at *
 (refine to_ ?_;intro y9 my9 dy9)
 have N9:=(dy9.out 6 (by omega) (by kernel_rfl)).own _ _ HP1.out o7;have R9:=((dy9.out 8 (by omega) (by kernel_rfl)).own _ _ HPx.out N8).rd;have z9:=lt_ HN2.out my9.grown.size;clear dy9
 go_wp2_with (at_builtin;refine Ba_ Bh_ Bg_ Az_ N9 R9 rfl hb4 hb5 z9 HP2.out (by rfl) _ _ (by rfl) (by rfl) (by rfl) ?_;intro v9 e9 o9 k9;have Hk9:=hh_ k9;clear k9)
 refine⟨Hk9.out,?_⟩;clear N9 R9 z9 N8 z8 my8 my9 o7
 (refine tq_ 2 ?_;(repeat(go_big_quiet_step (fail)));refine wn_ ?_)
 (refine Rg.tree_nil ?_;intro z mz dz cz)
 have OZ:=(dz.out 9 (by omega)).own _ _ HPF.out o9;have BZ:=mz.blk HB.out hgN;have GZ:=mz.grown;clear dz cz o9 Hk9 mz;have bz:=BZ.cell;have fz:=BZ.free;obtain⟨az,cz2,hvz⟩:=OZ.shape;rw[la_,ls_] at hvz;subst hvz
 go_wp2_with fail
 go_ret
 have hnz:¬ownF (.slice az (L1.length+1) cz2) g:=fun e=>by have:=(OZ.lt _ e).1;omega
 obtain⟨R6,g6⟩:=RTab.setL BZ OZ hnz;refine⟨by rw[HE.out];rfl,_,by rw[HR.out];exact R6,?_,fun i hi=>?_⟩
 ·have M1:GrownS (rtF g (.slice (some ⟨g',off,none⟩) T.L.length c)) w w1:=GrownS.of Hg1.out fun q e=>by cases e;exact .inl rfl
  have M2:GrownS (rtF g (.slice (some ⟨g',off,none⟩) T.L.length c)) w1 wd:=GrownS.none_ (Aa_ g2 Hk.out)
  exact((M1.trans M2 fun i hi _=>hi).trans GZ fun i hi hlt=>absurd hi (by omega)).trans (GrownS.of (S:=oneF g) g6 fun q e=>by cases e;exact rfl) fun i hi _=>.inl hi
 ·rcases hi with hi|hi
  ·exact .inl (.inl hi)
  ·exact .inr (lt_ hN0 (OZ.lt i hi).1)
end
section
open Go.RowKit
section
variable {α:Type} {f:α→List Value} {st e:TypeId} {z:Value} {size bytes:Nat}
structure KeepR (f:α→List Value) (size:Nat) (e:TypeId) (N:Nat) (P:List α→Prop) (r:Option Nat) (w w':World):Prop where
 grown:w.grownBy w' r
 own:∀T v,P T→Own f size e N w v T→Own f size e N w' v T
variable {N:Nat} {P:List α→Prop} {r:Option Nat} {w w' w'':World}
theorem KeepR.refl (f:α→List Value) (size:Nat) (e:TypeId) (N:Nat) (P:List α→Prop) (r:Option Nat) (w:World):KeepR f size e N P r w w:=⟨Ab_ _ _,fun _ _ _ h=>h⟩
theorem KeepR.trans (h:KeepR f size e N P r w w') (k:KeepR f size e N P r w' w''):KeepR f size e N P r w w'':=⟨Aa_ h.grown k.grown,fun T v hp ho=>k.own T v hp (h.own T v hp ho)⟩
theorem KeepR.of (h:w.grownBy w' none):KeepR f size e N P r w w':=⟨Ak_ h r,fun _ _ _ ho=>ho.same h⟩
theorem KeepR.blk {g:Nat} {cs:Array Value} (h:KeepR f size e N P r w w') (hb:Blk w g cs) (hg:r≠some g):Blk w' g cs:=hb.kept h.grown hg
end
theorem Fi_ {a b:World} {r:Option Nat} (h:a.grownBy b none):a.grownBy b r:=by
 cases r with
 | none=>exact h
 | some k=>exact Ak_ h _
section
variable {α:Type} {f:α→List Value} {st e:TypeId} {z:Value} {size bytes N:Nat} {P:List α→Prop} {w:World}
variable {v:Value} {l l2:List α} {A:Option Addr} {m c:Nat}
variable {o:Oper} {a:Act} {ops:Array Oper} {rest:List Oper} {Q:Exit→Act→World→Prop}
theorem H0_ (E:Elt st e z size bytes) (h1:OneF f) (hf:∀x,(f x).length=size) (hown:Own f size e N w v l) (hr:RdL f size w (.slice A m c) l2) (hm:m=l2.length) (hb :(l.length+l2.length)*bytes≤140737488355328) (h63:l.length+l2.length≤9223372036854775807) (hbase:N≤w.heap.size)
  (hP:∀T,P T→T.length≤l.length∨T <+: l++l2∨l++l2 <+: T)
  (hgd:o.guard=none) (s x:Operand) (ho:o.op=.call { callee:=.builtin .append,args:=#[s,x],argTypes:=#[st,st] }) (hs:a.eval s=v) (hx:a.eval x=.slice A m c)
  (h:∀v' w',Own f size e N w' v' (l++l2)→KeepR f size e N P v.ownBlock w w'→Lies v v' w.heap.size→wpList Tryz.prog ops Q rest (a.put o.dst v') w'):wpList Tryz.prog ops Q (o::rest) a w:=by
 refine wpList_plain hgd fun _ hK=>?_
 subst hm;obtain⟨v',w',hrun,h2,h3,h4⟩:=Gl_ (ty:=o.type) E hown hr (h1.cells l2) (by unfold maxLen;exact h63) hb hbase
 have h2':Own f size e N w' v' (l++l2):=by unfold Own;rw[Aq_,la_];exact h2
 obtain⟨v3,w3,hrun3,_,_,h5⟩:=Fm_ (ty:=o.type) E hown hr (h1.cells l2) (by unfold maxLen;exact h63) hb hbase;rw[hrun] at hrun3;cases hrun3;unfold Oper.wp execOp;simp only[ho,resolve,invoke,builtin,Sem.run_bind,Sem.run_pure,Result.andThen_ok,List.map_toArray,List.map_cons,List.map_nil,hs,hx,hrun];exact hK _ _ (h v' w' h2' ⟨h3,fun T u hp hu=>Fg_ hf E.pos hown h2' h3 h4 (hP T hp) hu⟩ h5)
end
end
section
open Go.RowKit Go.Sort
theorem d1_ {T:TabM} {k:ByteArray} {x:Int} (hg:getE T.L k=none) (hm:T.mode=2):T.add k x={ T with sum:=T.sum+x }.deduct k x:=by
 by_cases hl :(T.L.length:Int)=T.m
 ·rw[Ko_ hg hm hl];unfold TabM.deduct;dsimp only;rw[if_pos hl]
 ·rw[Fc_ hg hl,if_pos hm];unfold TabM.deduct;dsimp only;rw[if_neg hl]
theorem Ys_ (g:Nat) (v:Value) (T:TabM) (k:ByteArray) (x:Int) (w:World) (h:RTab w g v T) (hT:Bt_ T) (hA:Jv_ T k x) (hg:getE T.L k=none) (hm:T.mode=2):Calls Tryz.prog 159 #[.pointer (some ⟨g,0,none⟩),.string k,.int .u64 x] w (RAdd g v T k x w):=by
 have H:=hh_ h;obtain⟨q1,q2,q3⟩:=hT.w64;have hxs:=hA.sum;have hx1:=hA.x1;have hmw:mostW=9223372036854775808:=rfl;have hb:=hT.base;have hW:W64 x:=⟨by omega,by omega⟩
 have HF:=hh_ fun y=>Dd_ T.sum x y q2 hW
 rw[show fitsB T.sum x=true from dt_ (by omega)] at HF;have hk2:=Bc_ k;rw[df_ (show ¬k.size=0 by have:=hA.key;omega)] at hk2;have h02 :(x==0)=false:=bf_ (by omega);have hm2 :(T.mode==2)=true:=beq_iff_eq.2 hm;have hlen:=hT.len;have hmm:=hT.m
 have HP:=hh_ fun y (R:RTab y g v { T with sum:=T.sum+x })=>B7_ v T.L k y R.own.rd
 rw[Hy_ hg] at HP;have hD:Ded { T with sum:=T.sum+x } x:=⟨fun e he=>⟨hT.ents.own e he,(q3 e he).1,(q3 e he).2.1⟩,by show T.L.length≤64;omega,q1,⟨hb.1,by omega,by show T.base+x≤_;omega⟩,hmm⟩
 have HDD:=hh_ fun y (R:RTab y g v { T with sum:=T.sum+x })=>Tl_ g v { T with sum:=T.sum+x } k x y R hD hx1
 have HR:=hh_ (show(if addErr T.sum k x=0 then T.add k x else T)={ T with sum:=T.sum+x }.deduct k x by rw[if_pos hA.err,d1_ hg hm]);have HE:=hh_ hA.err;have b0:=h.blk.cell;have f0:=h.blk.free;obtain⟨a,c,hv⟩:=h.own.shape;subst hv;have hgl:=h.blk.lt;have hwr:IntKind.u64.wrap (T.sum+x)=T.sum+x:=IntWalk.u64_in _ (by omega);clear h hT hA hg q3 q1 q2 hD hm
 go_enter func159,ntmps159
 go_upto_region 8 with(go_at_call 118;refine(HF.out _).mono ?_;rintro e w1 ⟨rfl,rfl⟩)
 obtain⟨R1,g1⟩:=H.out.setSum (T.sum+x);clear b0 f0 hwr HF;generalize w.setCell ⟨g,4,none⟩ (.int .u64 (T.sum+x))=w1 at *;have HR1:=hh_ R1;have b1:=R1.blk.cell;clear R1
 go_upto_region 9 with(go_at_call 182;refine(HP.out _ HR1.out).mono ?_;rintro e w2 ⟨rfl,g2⟩)
 have R2:=HR1.out.same g2;have b2:=R2.blk.cell;have HR2:=hh_ R2;clear R2 b1
 go_wp2_with (go_at_call 184;refine(HDD.out _ HR2.out).mono ?_;rintro e w3 ⟨rfl,v3,R3,M3⟩)
 go_ret
 refine⟨by rw[HE.out];rfl,v3,by rw[HR.out];exact R3,?_⟩;have M1:Mov (rtF g (.slice a T.L.length c)) (rtF g (.slice a T.L.length c)) w w1:=⟨GrownS.of g1 fun q e=>by cases e;exact .inl rfl,fun i hi=>.inl hi⟩;exact(M1.trans (Mov.same g2)).trans M3
theorem S2_ (g:Nat) (v:Value) (T:TabM) (k:ByteArray) (x:Int) (w:World) (h:RTab w g v T) (hT:Bt_ T) (hA:Jv_ T k x) (hg:getE T.L k=none) (hm:T.mode≠2) (hl :(T.L.length:Int)≠T.m):Calls Tryz.prog 159 #[.pointer (some ⟨g,0,none⟩),.string k,.int .u64 x] w (RAdd g v T k x w):=by
 have H:=hh_ h;obtain⟨q1,q2,q3⟩:=hT.w64;have hxs:=hA.sum;have hx1:=hA.x1;have hmw:mostW=9223372036854775808:=rfl;have hb:=hT.base;have hW:W64 x:=⟨by omega,by omega⟩
 have HF:=hh_ fun y=>Dd_ T.sum x y q2 hW
 rw[show fitsB T.sum x=true from dt_ (by omega)] at HF;have hk2:=Bc_ k;rw[df_ (show ¬k.size=0 by have:=hA.key;omega)] at hk2;have h02 :(x==0)=false:=bf_ (by omega);have hm2 :(T.mode==2)=false:=bf_ hm;have hl2 :((T.L.length:Int)==T.m)=false:=bf_ hl;have hlen:=hT.len;have hmm:=hT.m
 have HP:=hh_ fun y (R:RTab y g v { T with sum:=T.sum+x })=>B7_ v T.L k y R.own.rd
 rw[Hy_ hg] at HP;have HR:=hh_ (show(if addErr T.sum k x=0 then T.add k x else T)={ T with sum:=T.sum+x,L:=T.L++[⟨k,x,T.base⟩] } by rw[if_pos hA.err,Fc_ hg hl,if_neg hm]);have HE:=hh_ hA.err;have b0:=h.blk.cell;have f0:=h.blk.free;obtain⟨a,c,hv⟩:=h.own.shape;subst hv;have hgl:=h.blk.lt;have hwr:IntKind.u64.wrap (T.sum+x)=T.sum+x:=IntWalk.u64_in _ (by omega);clear h hT hA hg q3 q1 q2 hm hl
 go_enter func159,ntmps159
 go_upto_region 8 with(go_at_call 118;refine(HF.out _).mono ?_;rintro e w1 ⟨rfl,rfl⟩)
 obtain⟨R1,g1⟩:=H.out.setSum (T.sum+x);clear b0 f0 hwr HF;generalize w.setCell ⟨g,4,none⟩ (.int .u64 (T.sum+x))=w1 at *;have HR1:=hh_ R1;have b1:=R1.blk.cell;clear R1
 go_upto_region 9 with(go_at_call 182;refine(HP.out _ HR1.out).mono ?_;rintro e w2 ⟨rfl,g2⟩)
 have R2:=HR1.out.same g2;have b2:=R2.blk.cell;clear b1
 go_upto_region 17 with fail
 go_quiet (fail)
 have k3:w2.grownBy (w2.drewN nq) none:=Ae_ (Ab_ w2 none) _;have R3:=R2.same k3;clear R2 b2;generalize w2.drewN nq=w3 at *
 go_upto_region 27 with fail
 have k5:w3.grownBy w3.drew none:=Am_ (Ab_ w3 none);have R5:=R3.same k5;have HB:=hh_ R5.blk;have HO:=hh_ R5.own;have Hne:=hh_ R5.ne;obtain⟨rr,hrr⟩:∃rr,(Value.slice a T.L.length c).ownBlock=rr:=⟨_,rfl⟩;have Hrr:=hh_ hrr;have Hrg:=hh_ (show rr≠some g by rw[←hrr];exact R5.ne);have Hlw:=hh_ R5.own.low;obtain⟨P,hP⟩:∃P:List Ent→Prop,P=fun S=>S=T.L∨S=[⟨k,x,T.base⟩]∨S=T.L++[⟨k,x,T.base⟩]:=⟨_,rfl⟩;have HP1:=hh_ (show P T.L by rw[hP];exact .inl rfl);have HPx:=hh_ (show P [⟨k,x,T.base⟩] by rw[hP];exact .inr (.inl rfl));have HPF:=hh_ (show P (T.L++[⟨k,x,T.base⟩]) by rw[hP];exact .inr (.inr rfl))
 have HP2:=hh_ (show ∀S,P S→S.length≤T.L.length∨S <+: T.L++[⟨k,x,T.base⟩]∨T.L++[⟨k,x,T.base⟩] <+: S by
  intro S hS;rw[hP] at hS
  rcases hS with rfl|rfl|rfl
  ·exact .inl (le_ _)
  ·cases T.L with
   | nil=>exact .inr (.inl (List.prefix_refl _))
   | cons _ _=>exact .inl (by simp)
  ·exact .inr (.inl (List.prefix_refl _)))
 have hb4 :(T.L.length+[(⟨k,x,T.base⟩:Ent)].length)*32≤140737488355328:=by simp;omega
 have hb5:T.L.length+[(⟨k,x,T.base⟩:Ent)].length≤9223372036854775807:=by simp;omega
 have Hz:=hh_ (show w.heap.size≤w3.drew.heap.size by have:=g1.size;have:=g2.size;have:=k3.size;have:=k5.size;omega);have Hk:=hh_ (Aa_ (Aa_ g2 k3) k5);have Hg1:=hh_ g1;clear hP hrr R5 R3 k3 k5 HR1 H HP g1 g2
 (refine Rg.wp_region_rgZ 16 #[] (KeepR entF 3 224 0 P rr) (fun _ _ _ _ _=>False) (by kernel_rfl) (by kernel_rfl) (KeepR.refl _ _ _ _ _ _) (fun _ _ _ h k=>h.trans k) (fun _ _ _ _ _ h=>h) ?_;simp only[List.take,List.drop])
 generalize w3.drew=wd at *
 (refine tq_ 4 ?_;(repeat(go_big_quiet_step (fail)));refine wn_ ?_)
 (refine to_ ?_;intro y4 my4 dy4)
 clear dy4;have ax:=(my4.blk HB.out Hrg.out).cell
 go_wp2_with fail
 refine⟨KeepR.refl _ _ _ _ _ _ _,?_⟩;clear ax my4
 (refine tq_ 5 ?_;(repeat(go_big_quiet_step (fail)));refine wn_ ?_)
 (refine to_ ?_;intro y10 my10 dy10)
 clear dy10;have ax:=(my10.blk HB.out Hrg.out).cell
 go_wp2_with fail
 refine⟨KeepR.refl _ _ _ _ _ _ _,?_⟩;clear ax my10
 (refine tq_ 1 ?_;(repeat(go_big_quiet_step (fail)));refine wn_ ?_)
 (refine to_ ?_;intro y12 my12 dy12)
 clear dy12
 go_wp2_with fail
 refine⟨KeepR.of (ga_ _ _ _),?_⟩;have N8:Own entF 3 224 0 (y12.alloc (.cells #[.string k,.int .u64 x,.int .u64 T.base] 224)) (.slice (some ⟨y12.heap.size,0,none⟩) 1 1) [⟨k,x,T.base⟩]:=By_ Az_ y12 (zl_ _) ⟨k,x,T.base⟩ _ rfl;generalize y12.alloc _=e8 at *;generalize y12.heap.size=g8 at *
 (refine to_ ?_;intro y13 my13 dy13)
 have N9:=my13.own _ _ HP1.out HO.out;have R9:=((dy13.out 12 (by omega) (by kernel_rfl)).own _ _ HPx.out N8).rd;clear dy13
 go_wp2_with (at_builtin;refine H0_ (P:=P) Bh_ Bg_ Az_ N9 R9 rfl hb4 hb5 (zl_ _) HP2.out (by rfl) _ _ (by rfl) (by rfl) (by rfl) ?_;intro v9 e9 o9 k9 l9;have Hk9:=hh_ k9;clear k9;have Hl9:=hh_ (And.intro l9 my13.grown.size);clear l9)
 rw[Hrr.out] at Hk9;refine⟨Hk9.out,?_⟩;clear N9 R9 N8 my12 my13
 (refine tq_ 2 ?_;(repeat(go_big_quiet_step (fail)));refine wn_ ?_)
 (refine Rg.tree_nil ?_;intro z mz dz cz)
 have OZ:=(dz.out 13 (by omega)).own _ _ HPF.out o9;have BZ:=mz.blk HB.out Hrg.out;have GZ:=mz.grown;clear dz cz o9 Hk9 mz;have bz:=BZ.cell;have fz:=BZ.free;obtain⟨az,cz2,hvz⟩:=OZ.shape;rw[la_,ls_] at hvz;subst hvz
 go_wp2_with fail
 go_ret
 have hnz:=Ga_ Hl9.out.1 Hne.out (ll_ HB.out.lt Hl9.out.2);obtain⟨R6,g6⟩:=RTab.setL BZ OZ hnz;refine⟨by rw[HE.out];rfl,_,by rw[HR.out];exact R6,?_,fun i hi=>?_⟩
 ·have M1:GrownS (rtF g (.slice a T.L.length c)) w w1:=GrownS.of Hg1.out fun q e=>by cases e;exact .inl rfl
  have M2:GrownS (rtF g (.slice a T.L.length c)) w1 wd:=GrownS.none_ Hk.out
  have M3:GrownS (rtF g (.slice a T.L.length c)) wd z:=GrownS.of GZ fun q e=>.inr (Hrr.out.trans e)
  exact((M1.trans M2 fun i hi _=>hi).trans M3 fun i hi _=>hi).trans (GrownS.of (S:=oneF g) g6 fun q e=>by cases e;exact rfl) fun i hi _=>.inl hi
 ·rcases hi with hi|hi
  ·exact .inl (.inl hi)
  ·rcases lies_new Hl9.out.1 i hi with hi|hi
   ·exact .inl (.inr hi)
   ·exact .inr (lt_ Hz.out (lt_ Hl9.out.2 hi))
def Kq_ (L:List Ent) (j m:Nat):Prop:=(j=0∧m=0)∨(0<j∧m<j∧∃e,L[m]?=some e∧minE (L.take j)=some e)
theorem Kq_.step {L:List Ent} {j m:Nat} (h:Kq_ L j m) (hj:j<L.length) (hm:m<L.length):Kq_ L (j+1) (if L[j].cnt<L[m].cnt then j else m):=by
 right
 have hs:=T4_ (L.take j) L[j];rw[←tg_ hj] at hs
 rcases h with⟨rfl,rfl⟩ |⟨h0,h1,e,h2,h3⟩
 ·rw[if_neg (by omega)]
  exact⟨by omega,by omega,L[0],gq_ hj,by rw[hs];rfl⟩
 ·rw[h3] at hs
  dsimp only at hs;rw[gq_ hm] at h2;have h2:=Option.some.inj h2;rw[←h2] at hs
  by_cases hlt:L[j].cnt<L[m].cnt
  ·rw[if_pos hlt] at hs ⊢
   exact⟨by omega,by omega,L[j],gq_ hj,hs⟩
  ·rw[if_neg hlt] at hs ⊢
   exact⟨by omega,by omega,L[m],gq_ hm,hs⟩
theorem Xo_ (g:Nat) (v:Value) (T:TabM) (k:ByteArray) (x:Int) (w:World) (h:RTab w g v T) (hT:Bt_ T) (hA:Jv_ T k x) (hg:getE T.L k=none) (hm:T.mode≠2) (hl :(T.L.length:Int)=T.m):Calls Tryz.prog 159 #[.pointer (some ⟨g,0,none⟩),.string k,.int .u64 x] w (RAdd g v T k x w):=by
 have H:=hh_ h;obtain⟨q1,q2,q3⟩:=hT.w64;have hxs:=hA.sum;have hx1:=hA.x1;have hmw:mostW=9223372036854775808:=rfl;have hb:=hT.base;have hW:W64 x:=⟨by omega,by omega⟩
 have HF:=hh_ fun y=>Dd_ T.sum x y q2 hW
 rw[show fitsB T.sum x=true from dt_ (by omega)] at HF;have hk2:=Bc_ k;rw[df_ (show ¬k.size=0 by have:=hA.key;omega)] at hk2;have h02 :(x==0)=false:=bf_ (by omega);have hm2 :(T.mode==2)=false:=bf_ hm;have hl2 :((T.L.length:Int)==T.m)=true:=beq_iff_eq.2 hl;have hlen:=hT.len;have hmm:=hT.m
 have HP:=hh_ fun y (R:RTab y g v { T with sum:=T.sum+x })=>B7_ v T.L k y R.own.rd
 rw[Hy_ hg] at HP
 obtain⟨xe,hxe⟩:∃xe,minE T.L=some xe:=by
  cases hx:minE T.L with
  | none=>rw[Hq_.1 hx] at hl;simp at hl;omega
  | some xe=>exact⟨xe,rfl⟩
 have hxm:=Gk_ hxe;obtain⟨⟨x1,x2⟩,⟨x3,x4⟩,x5,x6⟩:=q3 xe hxm;have HR:=hh_ (show(if addErr T.sum k x=0 then T.add k x else T)={ T with sum:=T.sum+x,base:=xe.cnt,L:=delE T.L xe.key++[⟨k,x,xe.cnt⟩] } by rw[if_pos hA.err,Jn_ hg hm hl hxe]);have HE:=hh_ hA.err
 have HD:=hh_ fun(m:Nat) (hm:m<T.L.length) (he:T.L[m]?=some xe)=>(show delE T.L xe.key=T.L.eraseIdx m by
  rw[gq_ hm] at he
  rw[←Option.some.inj he];exact Ul_ hT.ents.nodup hm)
 have HQ:=hh_ q3;have HX:=hh_ hxe;have HL:=hh_ hl;have b0:=h.blk.cell;have f0:=h.blk.free;obtain⟨a,c,hv⟩:=h.own.shape;subst hv;have hgl:=h.blk.lt;have hwr:IntKind.u64.wrap (T.sum+x)=T.sum+x:=IntWalk.u64_in _ (by omega)
 have HW:=hh_ fun y m (R:Own entF 3 224 0 y (.slice a T.L.length c) T.L) (hi:m<T.L.length)=>D0_ 0 (.slice a T.L.length c) T.L m y R hi (by omega)
 clear h hT hA hg q3 q1 q2 hm hl hxe hxm
 go_enter func159,ntmps159
 go_upto_region 8 with(go_at_call 118;refine(HF.out _).mono ?_;rintro e w1 ⟨rfl,rfl⟩)
 obtain⟨R1,g1⟩:=H.out.setSum (T.sum+x);clear b0 f0 hwr HF;generalize w.setCell ⟨g,4,none⟩ (.int .u64 (T.sum+x))=w1 at *;have HR1:=hh_ R1;have b1:=R1.blk.cell;clear R1
 go_upto_region 9 with(go_at_call 182;refine(HP.out _ HR1.out).mono ?_;rintro e w2 ⟨rfl,g2⟩)
 have R2:=HR1.out.same g2;have b2:=R2.blk.cell;clear b1
 go_upto_region 17 with fail
 go_quiet (fail)
 have k3:w2.grownBy (w2.drewN nq) none:=Ae_ (Ab_ w2 none) _;have R3:=R2.same k3;have k3:=Aa_ g2 k3;clear R2 b2 g2;generalize w2.drewN nq=w3 at *;have HR3:=hh_ R3;have b3:=R3.blk.cell;clear R3 HP
 go_upto_region 20 with fail
 clear b3
 go_loopw [9,87] (fun s9 s87 wk=>∃j m:Nat,j≤T.L.length∧m<T.L.length∧s87=.int .i64 j∧s9=.int .i64 m∧Kq_ T.L j m∧w3.grownBy wk none) (fun _ s87 _=>T.L.length-(RowKit.intOf s87).toNat)
 case atStart=>exact⟨0,0,zl_ _,by have:=HL.out;omega,rfl,rfl,.inl ⟨rfl,rfl⟩,Ab_ _ _⟩
 case round=>
  obtain⟨j,m,hj,hm,rfl,rfl,hLe,hgk⟩:=hrel;have R4:=HR3.out.same hgk
  by_cases hjl:j<T.L.length
  ·obtain⟨g',off,cap,hv,hgl',d0,d1,d2⟩:=R4.own.rd.entr hjl
   cases hv;have hst:=hh_ (hLe.step hjl hm);have hqj:=HQ.out _ (mg_ hjl);have hqm:=HQ.out _ (mg_ hm)
   have HM:=hh_ fun y (q:w3.grownBy y none)=>(HR3.out.same q).own.rd.entr hm
   have HR4:=hh_ R4;unfold Ent.cnt at hst;unfold W64 at hqj hqm;generalize T.L[j]=ej at *;generalize T.L[m]=em at *;clear hLe R4
   go_upto_region 22 with fail
   obtain⟨A5,G5⟩:=nb_ wr #[.string ej.key,.int .u64 ej.own,.int .u64 ej.slack] 224;generalize wr.alloc _=w5 at *;generalize hgc:wr.heap.size=gc at *;have K5:=Aa_ hgk G5;have R5:=HR3.out.same K5;have b5:=R5.blk.cell;have a5:=A5.cell;obtain⟨g2,off2,cap2,hv,hgl2,m0,m1,m2⟩:=HM.out _ K5;cases hv;clear d0 d1 d2 m0 R5 HR4 HM;have hw1:IntKind.u64.wrap (ej.own+ej.slack)=ej.own+ej.slack:=IntWalk.u64_in _ (by omega);have hw2:IntKind.u64.wrap (em.own+em.slack)=em.own+em.slack:=IntWalk.u64_in _ (by omega)
   have hm0 :(m:Int)<(T.L.length:Int):=by omega
   have hm1 :(0:Int)≤(m:Int):=by omega
   by_cases hlt:ej.own+ej.slack<em.own+em.slack
   ·have hs:=hst.out
    rw[if_pos hlt] at hs;have Hs:=hh_ hs;have hltd:decide (ej.own+ej.slack<em.own+em.slack)=true:=dt_ hlt;clear hs hst hlt
    go_quiet (fail)
    go_wp2_with fail
    exact⟨⟨j+1,j,by omega,hjl,by go_num,rfl,Hs.out,Ae_ K5 _⟩,by simp[RowKit.intOf];omega⟩
   ·have hs:=hst.out
    rw[if_neg hlt] at hs;have Hs:=hh_ hs;have hltd:decide (ej.own+ej.slack<em.own+em.slack)=false:=df_ hlt;clear hs hst hlt
    go_quiet (fail)
    go_wp2_with fail
    exact⟨⟨j+1,m,by omega,hm,by go_num,rfl,Hs.out,Ae_ K5 _⟩,by simp[RowKit.intOf];omega⟩
  ·have hje:T.L.take j=T.L:=tk_ (by omega)
   have hme:T.L[m]?=some xe:=by
    rcases hLe with⟨h0,_⟩ |⟨_,_,e,h1,h2⟩
    ·have:=HL.out;omega
    ·rw[hje,HX.out] at h2;cases h2;exact h1
   have hdel:=HD.out m hm hme;obtain⟨g',off,cap,hv,hgl',d0,d1,d2⟩:=R4.own.rd.entr hm;cases hv;rw[gq_ hm] at hme;have hme:=Option.some.inj hme;rw[hme] at d0 d1 d2
   have hdl :(delE T.L xe.key).length+1=T.L.length:=by rw[hdel,List.length_eraseIdx,if_pos hm];omega
   have Hdl:=hh_ hdl
   have HW2:=hh_ fun y R=>HW.out y m R hm
   rw[←hdel] at HW2;clear hdel hje hLe hme HD HX HQ HW hdl;generalize delE T.L xe.key=L1 at *;have b4:=R4.blk.cell;have f4:=R4.blk.free;have hw1:IntKind.u64.wrap (xe.own+xe.slack)=xe.own+xe.slack:=IntWalk.u64_in _ (by omega)
   have hm0 :(m:Int)<(T.L.length:Int):=by omega
   have hm1 :(0:Int)≤(m:Int):=by omega
   go_upto_region 25 with fail
   (refine Tail.wp_region_tail_drawn 20 (by kernel_rfl) (by kernel_rfl) ?_;simp only[List.take,List.drop];(repeat(go_big_quiet_step (fail)));refine wn_ ?_;rintro _ ⟨nq,rfl⟩)
   have k5:wr.grownBy (wr.drewN nq) none:=Ae_ (Ab_ wr none) _;have R5:=R4.same k5;have k5:=Aa_ hgk k5;clear b4 f4 R4 d0 d1 d2 hgk;generalize wr.drewN nq=w5 at *;have f5:=R5.blk.free;have b5:=R5.blk.cell
   go_upto_region 26 with fail
   obtain⟨R6,g6⟩:=R5.setBase (xe.own+xe.slack);have k6:=k5.size
   have M6:Mov (rtF g (.slice (some ⟨g',off,none⟩) T.L.length c)) (rtF g (.slice (some ⟨g',off,none⟩) T.L.length c)) w (w5.setCell ⟨g,3,none⟩ (.int .u64 (xe.own+xe.slack))):=by
    have M1:GrownS (rtF g (.slice (some ⟨g',off,none⟩) T.L.length c)) w w1:=GrownS.of g1 fun q e=>by cases e;exact .inl rfl
    have M2:GrownS (rtF g (.slice (some ⟨g',off,none⟩) T.L.length c)) w1 w5:=GrownS.none_ (Aa_ k3 k5);exact⟨(M1.trans M2 fun i hi _=>hi).trans (GrownS.of (S:=oneF g) g6 fun q e=>by cases e;exact rfl) fun i hi _=>.inl hi,fun i hi=>.inl hi⟩
   clear R5 f5 b5 g6 k5 k3 g1 HR3 HR1 H;generalize w5.setCell ⟨g,3,none⟩ (.int .u64 (xe.own+xe.slack))=w6 at *;have HR6:=hh_ R6;have b6:=R6.blk.cell;clear R6 k6
   go_upto_region 27 with(go_at_call 183;refine(HW2.out _ HR6.out.own).mono ?_;rintro e w7 ⟨v7,rfl,o7,g7⟩;have R7:=HR6.out.same g7;have b7:=R7.blk.cell;have f7:=R7.blk.free;obtain⟨a7,c7,rfl⟩:=o7.shape)
   have hn7:¬ownF (.slice a7 L1.length c7) g:=fun e=>by have:=(o7.lt _ e).1;have:=HR6.out.blk.lt;omega
   have hv7:=fun q (hq :(Value.slice a7 L1.length c7).ownBlock=some q)=>(o7.lt q hq).1
   obtain⟨R8,g8⟩:=RTab.setL R7.blk o7 hn7
   have M8:Mov (rtF g (.slice (some ⟨g',off,none⟩) T.L.length c)) (rtF g (.slice a7 L1.length c7)) w (w7.setCell ⟨g,2,none⟩ (.slice a7 L1.length c7)):=by
    refine⟨(M6.grown.trans (GrownS.none_ (S:=rtF g (.slice (some ⟨g',off,none⟩) T.L.length c)) g7) fun i hi _=>hi).trans (GrownS.of (S:=oneF g) g8 fun q e=>by cases e;exact rfl) fun i hi _=>.inl hi,fun i hi=>?_⟩
    rcases hi with hi|hi
    ·exact .inl (.inl hi)
    ·exact .inr (lt_ M6.size (hv7 i hi))
   clear b6 b7 f7 R7 HR6 o7 g7 g8 hn7 hv7 M6;generalize w7.setCell ⟨g,2,none⟩ (.slice a7 L1.length c7)=w8 at *;have k9:w8.grownBy w8.drew none:=Am_ (Ab_ w8 none);have R9:=R8.same k9;have HB:=hh_ R9.blk;have HO:=hh_ R9.own;have Hne:=hh_ R9.ne;obtain⟨rr,hrr⟩:∃rr,(Value.slice a7 L1.length c7).ownBlock=rr:=⟨_,rfl⟩;have Hrr:=hh_ hrr;have Hrg:=hh_ (show rr≠some g by rw[←hrr];exact R9.ne);obtain⟨P,hP⟩:∃P:List Ent→Prop,P=fun S=>S=L1∨S=[⟨k,x,xe.own+xe.slack⟩]∨S=L1++[⟨k,x,xe.own+xe.slack⟩]:=⟨_,rfl⟩;have HP1:=hh_ (show P L1 by rw[hP];exact .inl rfl);have HPx:=hh_ (show P [⟨k,x,xe.own+xe.slack⟩] by rw[hP];exact .inr (.inl rfl));have HPF:=hh_ (show P (L1++[⟨k,x,xe.own+xe.slack⟩]) by rw[hP];exact .inr (.inr rfl))
   have HP2:=hh_ (show ∀S,P S→S.length≤L1.length∨S <+: L1++[⟨k,x,xe.own+xe.slack⟩]∨L1++[⟨k,x,xe.own+xe.slack⟩] <+: S by
    intro S hS;rw[hP] at hS
    rcases hS with rfl|rfl|rfl
    ·exact .inl (le_ _)
    ·cases L1 with
     | nil=>exact .inr (.inl (List.prefix_refl _))
     | cons _ _=>exact .inl (by simp)
    ·exact .inr (.inl (List.prefix_refl _)))
   have hdl:=Hdl.out
   have hb4 :(L1.length+[(⟨k,x,xe.own+xe.slack⟩:Ent)].length)*32≤140737488355328:=by simp;omega
   have hb5:L1.length+[(⟨k,x,xe.own+xe.slack⟩:Ent)].length≤9223372036854775807:=by simp;omega
   have HM8:=hh_ (M8.trans (Mov.same k9));clear hP hrr R9 R8 k9 M8 hdl Hdl HL hm0 hm1
   (refine Rg.wp_region_rgZ 16 #[] (KeepR entF 3 224 0 P rr) (fun _ _ _ _ _=>False) (by kernel_rfl) (by kernel_rfl) (KeepR.refl _ _ _ _ _ _) (fun _ _ _ h k=>h.trans k) (fun _ _ _ _ _ h=>h) ?_;simp only[List.take,List.drop])
   generalize w8.drew=wd at *
   (refine tq_ 4 ?_;(repeat(go_big_quiet_step (fail)));refine wn_ ?_)
   (refine to_ ?_;intro y4 my4 dy4)
   clear dy4;have ax:=(my4.blk HB.out Hrg.out).cell
   go_wp2_with fail
   refine⟨KeepR.refl _ _ _ _ _ _ _,?_⟩;clear ax my4
   (refine tq_ 5 ?_;(repeat(go_big_quiet_step (fail)));refine wn_ ?_)
   (refine to_ ?_;intro y10 my10 dy10)
   clear dy10;have ax:=(my10.blk HB.out Hrg.out).cell
   go_wp2_with fail
   refine⟨KeepR.refl _ _ _ _ _ _ _,?_⟩;clear ax my10
   (refine tq_ 1 ?_;(repeat(go_big_quiet_step (fail)));refine wn_ ?_)
   (refine to_ ?_;intro y12 my12 dy12)
   clear dy12
   go_wp2_with fail
   refine⟨KeepR.of (ga_ _ _ _),?_⟩;have N8:Own entF 3 224 0 (y12.alloc (.cells #[.string k,.int .u64 x,.int .u64 (xe.own+xe.slack)] 224)) (.slice (some ⟨y12.heap.size,0,none⟩) 1 1) [⟨k,x,(xe.own+xe.slack)⟩]:=By_ Az_ y12 (zl_ _) ⟨k,x,(xe.own+xe.slack)⟩ _ rfl;generalize y12.alloc _=e8 at *;generalize y12.heap.size=g8 at *
   (refine to_ ?_;intro y13 my13 dy13)
   have N9:=my13.own _ _ HP1.out HO.out;have R9:=((dy13.out 12 (by omega) (by kernel_rfl)).own _ _ HPx.out N8).rd;clear dy13
   go_wp2_with (at_builtin;refine H0_ (P:=P) Bh_ Bg_ Az_ N9 R9 rfl hb4 hb5 (zl_ _) HP2.out (by rfl) _ _ (by rfl) (by rfl) (by rfl) ?_;intro v9 e9 o9 k9 l9;have Hk9:=hh_ k9;clear k9;have Hl9:=hh_ (And.intro l9 my13.grown.size);clear l9)
   rw[Hrr.out] at Hk9;refine⟨Hk9.out,?_⟩;clear N9 R9 N8 my12 my13
   (refine tq_ 2 ?_;(repeat(go_big_quiet_step (fail)));refine wn_ ?_)
   (refine Rg.tree_nil ?_;intro z mz dz cz)
   have OZ:=(dz.out 13 (by omega)).own _ _ HPF.out o9;have BZ:=mz.blk HB.out Hrg.out;have GZ:=mz.grown;clear dz cz o9 Hk9 mz;have bz:=BZ.cell;have fz:=BZ.free;obtain⟨az,cz2,hvz⟩:=OZ.shape;rw[la_,ls_] at hvz;subst hvz
   go_wp2_with fail
   go_ret
   have hnz:=Ga_ Hl9.out.1 Hne.out (ll_ HB.out.lt Hl9.out.2);obtain⟨R6,g6⟩:=RTab.setL BZ OZ hnz;refine⟨by rw[HE.out];rfl,_,by rw[HR.out];exact R6,HM8.out.trans ⟨?_,fun i hi=>?_⟩⟩
   ·have M3:GrownS (rtF g (.slice a7 L1.length c7)) wd z:=GrownS.of GZ fun q e=>.inr (Hrr.out.trans e)
    exact M3.trans (GrownS.of (S:=oneF g) g6 fun q e=>by cases e;exact rfl) fun i hi _=>.inl hi
   ·rcases hi with hi|hi
    ·exact .inl (.inl hi)
    ·rcases lies_new Hl9.out.1 i hi with hi|hi
     ·exact .inl (.inr hi)
     ·exact .inr (lt_ Hl9.out.2 hi)
theorem U1_ (g:Nat) (v:Value) (T:TabM) (k:ByteArray) (x:Int) (w:World) (h:RTab w g v T) (hT:Bt_ T) (hk:k.size≤255) (hx:W64 x):Calls Tryz.prog 159 #[.pointer (some ⟨g,0,none⟩),.string k,.int .u64 x] w (RAdd g v T k x w):=by
 by_cases he:addErr T.sum k x=0
 ·have hA:=f5_ he hk hx.1
  cases hg:getE T.L k with
  | some en=>exact W4_ g v T k x w h hT hA en hg
  | none=>
   by_cases hm:T.mode=2
   ·exact Ys_ g v T k x w h hT hA hg hm
   ·by_cases hl :(T.L.length:Int)=T.m
    ·exact Xo_ g v T k x w h hT hA hg hm hl
    ·exact S2_ g v T k x w h hT hA hg hm hl
 ·exact Ze_ g v T k x w h hT.w64.2.1 hx he
theorem ct_ (mode m:Int) (w:World) (hm:mode=1∨mode=2) (h1:1≤m∧m≤64):Calls Tryz.prog 153 #[.int .i64 mode,.int .i64 m] w (fun e w'=>∃g,e=.returned (.tuple #[.pointer (some ⟨g,0,none⟩),.int .i64 0])∧RTab w' g (.slice none 0 0) ⟨mode,m,[],0,0⟩∧w.heap.size≤g∧w.grownBy w' none):=by
 obtain⟨m1,m2⟩:=h1
 have fin:∀t,∃g,Ending.returned (.tuple #[.pointer (some ⟨w.heap.size,0,none⟩),.int .i64 0])=.returned (.tuple #[.pointer (some ⟨g,0,none⟩),.int .i64 0])∧RTab (w.alloc (.cells (rtA ⟨mode,m,[],0,0⟩ (.slice none 0 0)) t)) g (.slice none 0 0) ⟨mode,m,[],0,0⟩∧w.heap.size≤g∧w.grownBy (w.alloc (.cells (rtA ⟨mode,m,[],0,0⟩ (.slice none 0 0)) t)) none:=fun t=>
  ⟨_,rfl,⟨Blk.new w _ t,Own.nil _ _ _ _ _,Ay_ _⟩,le_ _,ga_ _ _ _⟩
 rcases hm with rfl|rfl
 ·go_enter func153,ntmps153
  go_wp2_with fail
  go_ret2
  exact fin _
 ·go_enter func153,ntmps153
  go_wp2_with fail
  go_ret2
  exact fin _
theorem cc_ (g:Nat) (v:Value) (T:TabM) (k:ByteArray) (en:Ent) (w:World) (h:RTab w g v T) (hlen:T.L.length≤64) (hg:getE T.L k=some en):Calls Tryz.prog 162 #[.pointer (some ⟨g,0,none⟩),.string k] w (fun e w'=>e=.returned (optV (some (T.fix en)))∧∃v',RTab w' g v' (T.take k)∧Mov (rtF g v) (rtF g v') w w'):=by
 have H:=hh_ h;obtain⟨i1,hil,hie,hdel⟩:=Cp_ hg
 have HG:=hh_ fun y (q:w.grownBy y none)=>Ev_ g v T k _ y (h.same q) (Sk_ hg)
 have HP0:=hh_ fun y (R:Own entF 3 224 0 y v T.L)=>B7_ v T.L k y R.rd
 rw[i1] at HP0
 have HW0:=hh_ fun y (R:Own entF 3 224 0 y v T.L)=>D0_ 0 v T.L (plN T.L k) y R hil (by omega)
 rw[←hdel] at HW0;have HR:=hh_ (show T.take k={ T with L:=delE T.L k } from rfl);generalize plN T.L k=I0 at *;generalize hI :(I0:Int)=I at *;generalize delE T.L k=L1 at *;obtain⟨a,c,hv⟩:=h.own.shape;subst hv;have hgl:=h.blk.lt;have fk:=Em_ T en;have fo:=Dn_ T en;generalize T.fix en=fe at *;clear h hg i1 hie hdel fk fo
 go_enter func162,ntmps162
 go_upto_region 1 with fail
 obtain⟨A1,G1⟩:=nb_ w #[.string ⟨#[]⟩,.int .u64 0,.int .u64 0] 224;generalize w.alloc _=w1 at *;generalize hgb:w.heap.size=gb at *
 go_upto_region 2 with(go_at_call 160;refine(HG.out _ G1).mono ?_;rintro e w2 ⟨rfl,g2⟩)
 have K2:=Aa_ G1 g2;have A2:=A1.same g2;obtain⟨A3,G3⟩:=nb_ w2 #[.string fe.key,.int .u64 fe.own,.int .u64 fe.slack] 224;generalize w2.alloc _=w3 at *;generalize hgc:w2.heap.size=gc at *;have K3:=Aa_ K2 G3;have A4:=A2.same G3
 go_upto_region 3 with fail
 have k5:w.grownBy w3.drew none:=Am_ K3;have R5:=H.out.same k5;have HB:=hh_ R5.blk;have HO:=hh_ R5.own;have A5:=A3.drew1;have A6:=A4.drew1;have hcN:gc<w3.drew.heap.size:=A5.lt;have hgN:g<w3.drew.heap.size:=HB.out.lt;have hbN:gb<w3.drew.heap.size:=A6.lt;obtain⟨N,hN⟩:∃N,N=w3.drew.heap.size:=⟨_,rfl⟩;have HN2:=hh_ (Nat.le_of_eq hN);rw[←hN] at hcN hgN hbN
 have hvN:∀i,ownF (.slice a T.L.length c) i→i<N:=by rw[hN];exact HO.out.low
 have HX:=hh_ A5;have HY:=hh_ A6;obtain⟨P,hP⟩:∃P:List Ent→Prop,P=fun S=>S=L1:=⟨_,rfl⟩;have HPF:=hh_ (show P L1 by rw[hP])
 have HP:=hh_ fun y (m:Keep entF 3 224 N P w3.drew y)=>HP0.out y (HO.out.keptS m.grown fun q hq hge=>by have:=hvN q hq;omega)
 have HW:=hh_ fun y (m:Keep entF 3 224 N P w3.drew y)=>HW0.out y (HO.out.keptS m.grown fun q hq hge=>by have:=hvN q hq;omega)
 have Hk:=hh_ k5;have hz5:=k5.size
 have hN0:w.heap.size≤N:=by omega
 have HI:=hh_ hI;have Hgc:=hh_ hgc
 have hbc:gb<gc:=by have:=A2.lt;omega
 have hb0:w.heap.size≤gb:=by omega
 clear HP0 HW0 hN k5 A5 A6 A1 A2 A3 A4 R5 G1 G3 K2 K3 HG g2 hP hI hz5 hgc
 (refine Rg.wp_region_rgZ 14 #[] (Keep entF 3 224 N P) (fun k _ w v w'=>match k with | 10=>v=.int .i64 I∧World.grownBy w w' none | 11=>Own entF 3 224 N w' v L1∧World.grownBy w w' none | _=>False) (by kernel_rfl) (by kernel_rfl) (Keep.refl _ _ _ _ _) (fun _ _ _ h k=>h.trans k) (fun _ _ _ _ _ h=>h) ?_;simp only[List.take,List.drop])
 generalize w3.drew=wd at *
 (refine tq_ 4 ?_;(repeat(go_big_quiet_step (fail)));refine wn_ ?_)
 (refine to_ ?_;intro y4 my4 dy4)
 clear dy4;have ax:=(my4.blk HB.out hgN).cell
 go_wp2_with fail
 refine⟨Keep.refl _ _ _ _ _ _,?_⟩;clear ax my4
 (refine tq_ 3 ?_;(repeat(go_big_quiet_step (fail)));refine wn_ ?_)
 (refine to_ ?_;intro y8 my8 dy8)
 clear dy8;have ax:=(my8.blk HB.out hgN).cell
 go_wp2_with fail
 refine⟨Keep.refl _ _ _ _ _ _,?_⟩;clear ax my8
 (refine tq_ 1 ?_;(repeat(go_big_quiet_step (fail)));refine wn_ ?_)
 (refine tc_ ?_;intro y10 my10 dy10;refine⟨?_,?_⟩;· (unfold Rg.callSpec;go_simp;(refine(HP.out y10 my10).mono ?_;rintro e w' ⟨rfl,g'⟩;exact⟨_,rfl,rfl,g'⟩)))
 clear dy10;rintro v10 e10 ⟨rfl,g10⟩;refine⟨Keep.of g10,?_⟩;simp only[pt_];clear g10 my10
 (refine tc_ ?_;intro y11 my11 dy11;refine⟨?_,?_⟩;· (unfold Rg.callSpec;go_simp;(refine(HW.out y11 my11).mono ?_;rintro e w' ⟨v',rfl,o',g'⟩;exact⟨_,rfl,o'.base (fun q hq=>lt_ (lt_ HN2.out my11.grown.size) (o'.lt q hq).1),g'⟩)))
 clear dy11;rintro v11 e11 ⟨o11,g11⟩;refine⟨Keep.of g11,?_⟩;simp only[pt_];clear g11 my11
 (refine tq_ 2 ?_;(repeat(go_big_quiet_step (fail)));refine wn_ ?_)
 (refine Rg.tree_nil ?_;intro z mz dz cz)
 have OZ:=(dz.out 11 (by omega)).own _ _ HPF.out o11;have BZ:=mz.blk HB.out hgN;have XZ:=mz.blk HX.out hcN;have YZ:=mz.blk HY.out hbN;have GZ:=mz.grown;clear dz cz o11 mz;have bz:=BZ.cell;have fz:=BZ.free;obtain⟨az,cz2,hvz⟩:=OZ.shape;subst hvz
 go_upto_region 4 with fail
 have hnz:¬ownF (.slice az L1.length cz2) g:=fun e=>by have:=(OZ.lt _ e).1;omega
 obtain⟨R6,g6⟩:=RTab.setL BZ OZ hnz;have X6:=XZ.kept g6 (by simp;omega);have Y6:=YZ.kept g6 (by simp;omega)
 have HOZ:=hh_ fun i hi=>(OZ.lt i hi).1
 clear bz fz BZ OZ XZ YZ;generalize z.setCell ⟨g,2,none⟩ (.slice az L1.length cz2)=w6 at *;have x6:=X6.cell;have y6:=Y6.cell;have f6:=Y6.free
 go_wp2_with fail
 (have g7:World.grownBy w6 (((w6.setCell ⟨gb,0,none⟩ (.string fe.key)).setCell ⟨gb,1,none⟩ (.int .u64 fe.own)).setCell ⟨gb,2,none⟩ (.int .u64 fe.slack)) (some gb):=Ac_ (Ac_ (Ac_ (Ab_ _ _) _ _) _ _) _ _);(have A7:Blk (((w6.setCell ⟨gb,0,none⟩ (.string fe.key)).setCell ⟨gb,1,none⟩ (.int .u64 fe.own)).setCell ⟨gb,2,none⟩ (.int .u64 fe.slack)) gb #[.string fe.key,.int .u64 fe.own,.int .u64 fe.slack]:=((Blk.set_ (by assumption) 0 _ rfl).set_ 1 _ rfl).set_ 2 _ rfl);generalize ((w6.setCell ⟨gb,0,none⟩ (.string fe.key)).setCell ⟨gb,1,none⟩ (.int .u64 fe.own)).setCell ⟨gb,2,none⟩ (.int .u64 fe.slack)=w7 at *
 have rc:=A7.cell;have hz6:=g6.size;refine bodyPost_ret (v:=.tuple #[.agg #[.string fe.key,.int .u64 fe.own,.int .u64 fe.slack],.bool true]) (by simp[results,results162,go_sem,rc]) rfl ?_
 have R7:=R6.keptS (GrownS.of (S:=oneF gb) g7 fun q e=>by cases e;exact rfl) fun i hi hib=>by
  rw[show i=gb from hib] at hi
  rcases hi with hi|hi
  ·omega
  ·have:=HOZ.out gb hi;omega
 refine⟨rfl,_,by rw[HR.out];exact R7,?_,fun i hi=>?_⟩
 ·have M2:GrownS (rtF g (.slice a T.L.length c)) w wd:=GrownS.none_ Hk.out
  refine((M2.trans GZ fun i hi hlt=>absurd hi (by omega)).trans (GrownS.of (S:=oneF g) g6 fun q e=>by cases e;exact rfl) fun i hi _=>.inl hi).trans (GrownS.of (S:=oneF gb) g7 fun q e=>by cases e;exact rfl) fun i hi hlt=>?_
  have:i=gb:=hi
  omega
 ·rcases hi with hi|hi
  ·exact .inl (.inl hi)
  ·exact .inr (lt_ hN0 (HOZ.out i hi))
theorem K0_ (own slack most:Int) (w:World) (h1:W64 own) (h2:W64 slack) (h3:W64 most) (hle:own+slack≤most):Calls Tryz.prog 185 #[.int .u64 own,.int .u64 slack,.int .u64 most] w (fun e w'=>e=.returned (.bool true)∧w.grownBy w' none):=by
 unfold W64 at *;have hwr:IntKind.u64.wrap (most-own)=most-own:=IntWalk.u64_in _ (by omega);have d1:decide (own≤most)=true:=dt_ (by omega);have d2:decide (slack≤most-own)=true:=dt_ (by omega)
 go_enter func185,ntmps185
 go_wp2_with fail
 go_ret
 exact⟨rfl,Ab_ _ _⟩
theorem cz_ (g:Nat) (v:Value) (T:TabM) (k:ByteArray) (y e:Ent) (w:World) (h:RTab w g v T) (hT:Bt_ T) (hg:getE T.L k=some y) (he:0<e.key.size) (ho:1≤e.own) (hs:0≤e.slack) (hn:e.key∉keysE T.L) (hok:T.swapOk y e) :
  Calls Tryz.prog 166 #[.pointer (some ⟨g,0,none⟩),.string k,.agg #[.string e.key,.int .u64 e.own,.int .u64 e.slack]] w (fun en w'=>en=.returned (.tuple #[.agg #[.string (T.fix y).key,.int .u64 (T.fix y).own,.int .u64 (T.fix y).slack],.int .i64 0])∧∃v',RTab w' g v' (T.swap k e)∧Mov (rtF g v) (rtF g v') w w'):=by
 have H:=hh_ h;obtain⟨i1,hil,hie,hdel⟩:=Cp_ hg;obtain⟨q1,q2,q3⟩:=hT.w64;have hym:=(A4_ hg).1;obtain⟨⟨y1,y2⟩,⟨y3,y4⟩,y5,y6⟩:=q3 y hym;have hb:=hT.base;have hmw:mostW=9223372036854775808:=rfl;have hsum:=hT.sum
 have hlen:T.L.length≤64:=by have:=hT.len;have:=hT.m;omega
 have HG:=hh_ fun z (q:w.grownBy z none)=>Ev_ g v T k _ z (h.same q) (Sk_ hg)
 have HP0:=hh_ fun z (R:Own entF 3 224 0 z v T.L)=>B7_ v T.L k z R.rd
 rw[i1] at HP0
 have HPe:=hh_ fun z (q:w.grownBy z none)=>B7_ v T.L e.key z (h.same q).own.rd
 rw[Hy_ (Cz_.2 hn)] at HPe
 have HW0:=hh_ fun z (R:Own entF 3 224 0 z v T.L)=>D0_ 0 v T.L (plN T.L k) z R hil (by omega)
 rw[←hdel] at HW0;have HR:=hh_ (show T.swap k e={ T with L:=delE T.L k++[T.swapE k e] } from rfl);have Hdl:=hh_ (Da_ hg);generalize plN T.L k=I0 at *;generalize hI :(I0:Int)=I at *;generalize delE T.L k=L1 at *;have HI:=hh_ hI;clear hI;obtain⟨a,c,hv⟩:=h.own.shape;subst hv;have hgl:=h.blk.lt;have he2:=Bc_ e.key;rw[df_ (show ¬e.key.size=0 by omega)] at he2;have hfo:=Dn_ T y
 have HC:=hh_ (show(T.mode=2∧e.own≤(T.fix y).own∧e.slack≤T.base∧T.swapE k e =⟨e.key,e.own,0⟩)∨(T.mode=1∧W64 ((T.fix y).own+(T.fix y).slack)∧e.own+e.slack≤(T.fix y).own+(T.fix y).slack∧T.swapE k e=if e.own<T.base then ⟨e.key,e.own,max e.slack (T.base-e.own)⟩ else ⟨e.key,e.own,e.slack⟩) by
  by_cases hm:T.mode=2
  ·unfold TabM.swapOk at hok;rw[if_pos hm] at hok
   exact .inl ⟨hm,by rw[Dn_];exact hok.2.1,hok.2.2,by unfold TabM.swapE;rw[if_pos hm]⟩
  ·unfold TabM.swapOk at hok;rw[if_neg hm] at hok
   rw[fix1 hm y]
   exact .inr ⟨hT.mode.resolve_right hm,⟨by omega,by omega⟩,hok,by unfold TabM.swapE;rw[if_neg hm]⟩)
 generalize T.fix y=fe at *;clear h hT hg i1 hie hdel hym q3 hok hn hfo y1 y2 y3 y4 y5 y6
 go_enter func166,ntmps166
 go_upto_region 1 with fail
 have E1:=(Blk.new w #[.string e.key,.int .u64 e.own,.int .u64 e.slack] 224).same (ga_ (w.alloc (.cells #[.string e.key,.int .u64 e.own,.int .u64 e.slack] 224)) (.cells #[.string ⟨#[]⟩,.int .u64 0,.int .u64 0] 224) none);have B1:Blk ((w.alloc (.cells #[.string e.key,.int .u64 e.own,.int .u64 e.slack] 224)).alloc (.cells #[.string ⟨#[]⟩,.int .u64 0,.int .u64 0] 224)) (w.heap.size+1) #[.string ⟨#[]⟩,.int .u64 0,.int .u64 0]:=Blk.new' _ _ _ (by simp);have K1:=Ad_ (ga_ w (.cells #[.string e.key,.int .u64 e.own,.int .u64 e.slack] 224) none) (.cells #[.string ⟨#[]⟩,.int .u64 0,.int .u64 0] 224);generalize (w.alloc (.cells #[.string e.key,.int .u64 e.own,.int .u64 e.slack] 224)).alloc (.cells #[.string ⟨#[]⟩,.int .u64 0,.int .u64 0] 224)=w1 at *;generalize hge:w.heap.size=ge at *;generalize hgb:ge+1=gb at *
 go_upto_region 2 with(go_at_call 160;refine(HG.out _ K1).mono ?_;rintro e' w2 ⟨rfl,g2⟩)
 have K2:=Aa_ K1 g2;have E2:=E1.same g2;have B2:=B1.same g2;obtain⟨X3,G3⟩:=nb_ w2 #[.string fe.key,.int .u64 fe.own,.int .u64 fe.slack] 224;generalize w2.alloc _=w3 at *;generalize hgx:w2.heap.size=gx at *;have K3:=Aa_ K2 G3;have E3:=E2.same G3;have B3:=B2.same G3;have hz2:=B2.lt;clear E1 E2 B1 B2 G3 K1 K2 g2 HG;have e3:=E3.cell
 go_upto_region 6 with fail
 clear e3;have k4:=Am_ K3;have HE3:=hh_ E3;have HB3:=hh_ B3;have HX3:=hh_ X3;have h34:=hh_ (Am_ (Ab_ w3 none))
 (refine rn_ 8 (fun k _ w v w'=>match k with | 6=>v=.int .i64 (-1)∧World.grownBy w w' none | _=>False) ?_;simp only[ts_])
 clear E3 B3 X3;have HE3:=hh_ (HE3.out.same h34.out);have HB3:=hh_ (HB3.out.same h34.out);have HX3:=hh_ (HX3.out.same h34.out);clear h34 K3;generalize w3.drew=wq at *
 (refine tq_ 3 ?_;(repeat(go_big_quiet_step (fail)));refine wn_ ?_)
 (refine to_ ?_;intro y3 my3 dy3)
 clear dy3;have ax:=(H.out.same (Aa_ k4 my3)).blk.cell
 go_wp2_with fail
 refine⟨Ab_ _ _,?_⟩;clear ax my3
 (refine tq_ 1 ?_;(repeat(go_big_quiet_step (fail)));refine wn_ ?_)
 (refine to_ ?_;intro y5 my5 dy5)
 clear dy5;have ax:=(HE3.out.same my5).cell
 go_wp2_with fail
 refine⟨Ab_ _ _,?_⟩;clear ax my5
 (refine tc_ ?_;intro y6 my6 dy6;refine⟨?_,?_⟩;· (unfold Rg.callSpec;go_simp;(refine(HPe.out y6 (Aa_ k4 my6)).mono ?_;rintro e w' ⟨rfl,g'⟩;exact⟨_,rfl,rfl,g'⟩)))
 clear dy6;rintro v6 e6 ⟨rfl,g6⟩;refine⟨g6,?_⟩;simp only[pt_];clear g6 my6
 (refine tq_ 1 ?_;(repeat(go_big_quiet_step (fail)));refine wn_ ?_)
 (refine Rg.tree_nil ?_;intro z mz dz cz)
 have KZ:=Aa_ k4 mz;have EZ:=HE3.out.same mz;have BZ:=HB3.out.same mz;have XZ:=HX3.out.same mz;clear dz cz mz k4 HE3 HB3 HX3
 go_upto_region 8 with fail
 go_cut [32,33,34,35,36] (fun _ _ _ _ s36 wx=>s36=.bool (T.mode==1)∧z=wx)
 case first=>
  have cz1:=(H.out.same KZ).blk.cell
  go_wp2_with fail
  go_meet
  exact⟨rfl,rfl⟩
 obtain⟨rfl,rfl⟩:=hcut
 rename_i hK
 refine hK _ _ ?_
 go_cut [37,38,39,40,41,42,43,44,45,46,47,48,49,50,51,52,53,54,55,56,57,58,59,60,61,62,63,64,65,66,67,68,69,70,71,72,73,74,75,76,77,78,79,80,81,82,83,84,85,86,87] (fun _ _ _ _ _ _ _ _ _ _ _ _ _ _ _ _ _ _ _ _ _ _ _ _ _ _ _ _ _ _ _ _ _ _ _ _ _ _ _ _ _ _ _ _ _ _ _ _ _ _ _ wx=>∃sl,T.swapE k e =⟨e.key,e.own,sl⟩∧Blk wx ge #[.string e.key,.int .u64 e.own,.int .u64 sl]∧Blk wx gb #[.string ⟨#[]⟩,.int .u64 0,.int .u64 0]∧Blk wx gx #[.string fe.key,.int .u64 fe.own,.int .u64 fe.slack]∧w.grownBy wx none)
 case first=>
  have ez:=EZ.cell;have xz:=XZ.cell
  rcases HC.out with⟨hm,o2,o3,hsw⟩ |⟨hm,hww,hcnt,hsw⟩
  ·have hm1 :(T.mode==1)=false:=bf_ (by omega)
   have hd1 :(e.own==0)=false:=bf_ (by omega);have hd2:decide (fe.own<e.own)=false:=df_ (by omega);have hd3:decide (T.base<e.slack)=false:=df_ (by omega);have HSW:=hh_ hsw;have cz1:=(H.out.same KZ).blk.cell;clear hm hsw
   go_upto_region 13 with fail
   go_quiet (fail)
   have k6:z.grownBy (z.drewN nq) none:=Ae_ (Ab_ z none) _;have K6:=Aa_ KZ k6;have E6:=EZ.same k6;have B6:=BZ.same k6;have X6:=XZ.same k6;clear cz1 ez xz EZ BZ XZ KZ k6 hd1 hd2 hd3;generalize z.drewN nq=w6 at *;have e6:=E6.cell;have f6:=E6.free
   go_wp2_with fail
   go_meet
   exact⟨0,HSW.out,E6.set_ 2 _ rfl,B6.off (show ge≠gb by omega) 2 _,X6.off (show ge≠gx by omega) 2 _,Aj_ (p:=⟨ge,2,none⟩) K6 (show w.heap.size≤ge by omega) _⟩
  ·have hm1 :(T.mode==1)=true:=beq_iff_eq.2 hm
   have HE:=hh_ fun z=>K0_ e.own e.slack (fe.own+fe.slack) z ⟨by omega,by unfold W64 at hww;omega⟩ ⟨by omega,by unfold W64 at hww;omega⟩ hww hcnt
   have hwr:IntKind.u64.wrap (fe.own+fe.slack)=fe.own+fe.slack:=IntWalk.u64_in _ (by unfold W64 at hww;omega);have HSW:=hh_ hsw;unfold W64 at hww;clear hm hsw
   go_upto_region 11 with(go_at_call 185;refine(HE.out _).mono ?_;rintro e' w5 ⟨rfl,g5⟩)
   have K5:=Aa_ KZ g5;have E5:=EZ.same g5;have B5:=BZ.same g5;have X5:=XZ.same g5;clear KZ g5 EZ BZ XZ ez xz HE;have e5:=E5.cell;have c5:=(H.out.same K5).blk.cell
   by_cases hlt:e.own<T.base
   ·have hSW:=HSW.out
    rw[if_pos hlt] at hSW;have HSW2:=hh_ hSW;have hld:decide (e.own<T.base)=true:=dt_ hlt;have hwr2:IntKind.u64.wrap (T.base-e.own)=T.base-e.own:=IntWalk.u64_in _ (by unfold W64 at q1;omega)
    have hwm:0≤max e.slack (T.base-e.own)∧max e.slack (T.base-e.own)≤18446744073709551615:=by unfold W64 at q1;omega
    clear hSW HSW hlt
    go_quiet (fail)
    have k6:w5.grownBy (w5.drewN nq) none:=Ae_ (Ab_ w5 none) _;have K6:=Aa_ K5 k6;have E6:=E5.same k6;have B6:=B5.same k6;have X6:=X5.same k6;clear e5 c5 E5 B5 X5 K5 k6;generalize w5.drewN nq=w6 at *;have e6:=E6.cell;have c6:=(H.out.same K6).blk.cell
    go_upto_region 12 with fail
    (refine Tail.wp_region_tail_drawn 11 (by kernel_rfl) (by kernel_rfl) ?_;simp only[List.take,List.drop];(repeat(go_big_quiet_step (fail)));refine wn_ ?_;rintro _ ⟨nq,rfl⟩)
    have k7:w6.grownBy (w6.drewN nq) none:=Ae_ (Ab_ w6 none) _;have K7:=Aa_ K6 k7;have E7:=E6.same k7;have B7:=B6.same k7;have X7:=X6.same k7;clear e6 c6 E6 B6 X6 K6 k7;generalize w6.drewN nq=w7 at *;have e7:=E7.cell;have f7:=E7.free
    go_wp2_with fail
    go_meet
    exact⟨_,HSW2.out,E7.set_ 2 _ rfl,B7.off (show ge≠gb by omega) 2 _,X7.off (show ge≠gx by omega) 2 _,Aj_ (p:=⟨ge,2,none⟩) K7 (show w.heap.size≤ge by omega) _⟩
   ·have hSW:=HSW.out
    rw[if_neg hlt] at hSW;have HSW2:=hh_ hSW;have hld:decide (e.own<T.base)=false:=df_ hlt;clear hSW HSW hlt
    go_quiet (fail)
    have k6:w5.grownBy (w5.drewN nq) none:=Ae_ (Ab_ w5 none) _
    go_wp2_with fail
    go_meet
    exact⟨_,HSW2.out,E5.same k6,B5.same k6,X5.same k6,Aa_ K5 k6⟩
 obtain⟨sl,hsw,E8,B8,X8,K8⟩:=hcut;have HSW:=hh_ hsw;clear hsw KZ EZ BZ XZ hK
 apply_assumption
 go_upto_region 16 with fail
 have k5:w.grownBy wc.drew none:=Am_ K8;have R5:=H.out.same k5;have HB:=hh_ R5.blk;have HO:=hh_ R5.own;have A5:=E8.drew1;have A6:=B8.drew1;have A7:=X8.drew1;have hcN:ge<wc.drew.heap.size:=A5.lt;have hgN:g<wc.drew.heap.size:=HB.out.lt;have hbN:gb<wc.drew.heap.size:=A6.lt;have hxN:gx<wc.drew.heap.size:=A7.lt;obtain⟨N,hN⟩:∃N,N=wc.drew.heap.size:=⟨_,rfl⟩;have HN2:=hh_ (Nat.le_of_eq hN);rw[←hN] at hcN hgN hbN hxN
 have hvN:∀i,ownF (.slice a T.L.length c) i→i<N:=by rw[hN];exact HO.out.low
 have HX:=hh_ A5;have HY:=hh_ A6;have HZ:=hh_ A7;obtain⟨P,hP⟩:∃P:List Ent→Prop,P=fun S=>S=L1∨S=[⟨e.key,e.own,sl⟩]∨S=L1++[⟨e.key,e.own,sl⟩]:=⟨_,rfl⟩;have HP1:=hh_ (show P L1 by rw[hP];exact .inl rfl);have HPx:=hh_ (show P [⟨e.key,e.own,sl⟩] by rw[hP];exact .inr (.inl rfl));have HPF:=hh_ (show P (L1++[⟨e.key,e.own,sl⟩]) by rw[hP];exact .inr (.inr rfl))
 have HP2:=hh_ (show ∀S,P S→S.length≤L1.length∨S <+: L1++[⟨e.key,e.own,sl⟩]∨L1++[⟨e.key,e.own,sl⟩] <+: S by
  intro S hS;rw[hP] at hS
  rcases hS with rfl|rfl|rfl
  ·exact .inl (le_ _)
  ·cases L1 with
   | nil=>exact .inr (.inl (List.prefix_refl _))
   | cons _ _=>exact .inl (by simp)
  ·exact .inr (.inl (List.prefix_refl _)))
 have hdl2:=Hdl.out
 have hb4 :(L1.length+[(⟨e.key,e.own,sl⟩:Ent)].length)*32≤140737488355328:=by simp;omega
 have hb5:L1.length+[(⟨e.key,e.own,sl⟩:Ent)].length≤9223372036854775807:=by simp;omega
 have HP:=hh_ fun y (m:Keep entF 3 224 N P wc.drew y)=>HP0.out y (HO.out.keptS m.grown fun q hq hge=>by have:=hvN q hq;omega)
 have HW:=hh_ fun y (m:Keep entF 3 224 N P wc.drew y)=>HW0.out y (HO.out.keptS m.grown fun q hq hge=>by have:=hvN q hq;omega)
 have Hk:=hh_ k5;have hz5:=k5.size
 have hN0:w.heap.size≤N:=by omega
 clear HP0 HW0 hN k5 A5 A6 A7 R5 hP hz5 hdl2 Hdl
 (refine Rg.wp_region_rgZ 17 #[] (Keep entF 3 224 N P) (fun k _ w v w'=>match k with | 10=>v=.int .i64 I∧World.grownBy w w' none | 11=>Own entF 3 224 N w' v L1∧World.grownBy w w' none | _=>False) (by kernel_rfl) (by kernel_rfl) (Keep.refl _ _ _ _ _) (fun _ _ _ h k=>h.trans k) (fun _ _ _ _ _ h=>h) ?_;simp only[List.take,List.drop])
 generalize wc.drew=wd at *
 (refine tq_ 4 ?_;(repeat(go_big_quiet_step (fail)));refine wn_ ?_)
 (refine to_ ?_;intro y4 my4 dy4)
 clear dy4;have ax:=(my4.blk HB.out hgN).cell
 go_wp2_with fail
 refine⟨Keep.refl _ _ _ _ _ _,?_⟩;clear ax my4
 (refine tq_ 3 ?_;(repeat(go_big_quiet_step (fail)));refine wn_ ?_)
 (refine to_ ?_;intro y8 my8 dy8)
 clear dy8;have ax:=(my8.blk HB.out hgN).cell
 go_wp2_with fail
 refine⟨Keep.refl _ _ _ _ _ _,?_⟩;clear ax my8
 (refine tq_ 1 ?_;(repeat(go_big_quiet_step (fail)));refine wn_ ?_)
 (refine tc_ ?_;intro y10 my10 dy10;refine⟨?_,?_⟩;· (unfold Rg.callSpec;go_simp;(refine(HP.out y10 my10).mono ?_;rintro e w' ⟨rfl,g'⟩;exact⟨_,rfl,rfl,g'⟩)))
 clear dy10;rintro v10 e10 ⟨rfl,g10⟩;refine⟨Keep.of g10,?_⟩;simp only[pt_];clear g10 my10
 (refine tc_ ?_;intro y11 my11 dy11;refine⟨?_,?_⟩;· (unfold Rg.callSpec;go_simp;(refine(HW.out y11 my11).mono ?_;rintro e w' ⟨v',rfl,o',g'⟩;exact⟨_,rfl,o'.base (fun q hq=>lt_ (lt_ HN2.out my11.grown.size) (o'.lt q hq).1),g'⟩)))
 clear dy11;rintro v11 e11 ⟨o11,g11⟩;refine⟨Keep.of g11,?_⟩;simp only[pt_];clear g11 my11
 (refine to_ ?_;intro y12 my12 dy12)
 clear dy12;have ax:=(my12.blk HX.out hcN).cell
 go_wp2_with fail
 refine⟨Keep.refl _ _ _ _ _ _,?_⟩;clear ax my12
 (refine to_ ?_;intro y13 my13 dy13)
 clear dy13;have z13:=lt_ HN2.out my13.grown.size
 go_wp2_with fail
 refine⟨Keep.of (ga_ _ _ _),?_⟩;have N13:Own entF 3 224 N (y13.alloc (.cells #[.string e.key,.int .u64 e.own,.int .u64 sl] 224)) (.slice (some ⟨y13.heap.size,0,none⟩) 1 1) [⟨e.key,e.own,sl⟩]:=By_ Az_ y13 z13 ⟨e.key,e.own,sl⟩ _ rfl;generalize y13.alloc _=e13 at *;generalize y13.heap.size=g13 at *
 (refine to_ ?_;intro y14 my14 dy14)
 have N9:=(dy14.out 11 (by omega) (by kernel_rfl)).own _ _ HP1.out o11;have R9:=((dy14.out 13 (by omega) (by kernel_rfl)).own _ _ HPx.out N13).rd;have z9:=lt_ HN2.out my14.grown.size;clear dy14
 go_wp2_with (at_builtin;refine Ba_ Bh_ Bg_ Az_ N9 R9 rfl hb4 hb5 z9 HP2.out (by rfl) _ _ (by rfl) (by rfl) (by rfl) ?_;intro v9 e9 o9 k9;have Hk9:=hh_ k9;clear k9)
 refine⟨Hk9.out,?_⟩;clear N9 R9 z9 N13 z13 my13 my14 o11
 (refine tq_ 2 ?_;(repeat(go_big_quiet_step (fail)));refine wn_ ?_)
 (refine Rg.tree_nil ?_;intro z mz dz cz)
 have OZ:=(dz.out 14 (by omega)).own _ _ HPF.out o9;have BZ:=mz.blk HB.out hgN;have XZ:=mz.blk HZ.out hxN;have YZ:=mz.blk HY.out hbN;have GZ:=mz.grown;clear dz cz o9 Hk9 mz;have bz:=BZ.cell;have fz:=BZ.free;obtain⟨az,cz2,hvz⟩:=OZ.shape;rw[la_,ls_] at hvz;subst hvz
 go_upto_region 17 with fail
 have hnz:¬ownF (.slice az (L1.length+1) cz2) g:=fun e=>by have:=(OZ.lt _ e).1;omega
 obtain⟨R6,g6⟩:=RTab.setL BZ OZ hnz;have X6:=XZ.kept g6 (by simp;omega);have Y6:=YZ.kept g6 (by simp;omega)
 have HOZ:=hh_ fun i hi=>(OZ.lt i hi).1
 clear bz fz BZ OZ XZ YZ;generalize z.setCell ⟨g,2,none⟩ (.slice az (L1.length+1) cz2)=w6 at *;have x6:=X6.cell;have y6:=Y6.cell;have f6:=Y6.free
 go_wp2_with fail
 (have g7:World.grownBy w6 (((w6.setCell ⟨gb,0,none⟩ (.string fe.key)).setCell ⟨gb,1,none⟩ (.int .u64 fe.own)).setCell ⟨gb,2,none⟩ (.int .u64 fe.slack)) (some gb):=Ac_ (Ac_ (Ac_ (Ab_ _ _) _ _) _ _) _ _);(have A7:Blk (((w6.setCell ⟨gb,0,none⟩ (.string fe.key)).setCell ⟨gb,1,none⟩ (.int .u64 fe.own)).setCell ⟨gb,2,none⟩ (.int .u64 fe.slack)) gb #[.string fe.key,.int .u64 fe.own,.int .u64 fe.slack]:=((Blk.set_ (by assumption) 0 _ rfl).set_ 1 _ rfl).set_ 2 _ rfl);generalize ((w6.setCell ⟨gb,0,none⟩ (.string fe.key)).setCell ⟨gb,1,none⟩ (.int .u64 fe.own)).setCell ⟨gb,2,none⟩ (.int .u64 fe.slack)=w7 at *
 have rc:=A7.cell;have hz6:=g6.size;refine bodyPost_ret (v:=.tuple #[.agg #[.string fe.key,.int .u64 fe.own,.int .u64 fe.slack],.int .i64 0]) (by simp[results,results166,go_sem,rc]) rfl ?_
 have R7:=R6.keptS (GrownS.of (S:=oneF gb) g7 fun q e=>by cases e;exact rfl) fun i hi hib=>by
  rw[show i=gb from hib] at hi
  rcases hi with hi|hi
  ·omega
  ·have:=HOZ.out gb hi;omega
 refine⟨rfl,_,by rw[HR.out,HSW.out];exact R7,?_,fun i hi=>?_⟩
 ·have M2:GrownS (rtF g (.slice a T.L.length c)) w wd:=GrownS.none_ Hk.out
  refine((M2.trans GZ fun i hi hlt=>absurd hi (by omega)).trans (GrownS.of (S:=oneF g) g6 fun q e=>by cases e;exact rfl) fun i hi _=>.inl hi).trans (GrownS.of (S:=oneF gb) g7 fun q e=>by cases e;exact rfl) fun i hi hlt=>?_
  have:i=gb:=hi
  omega
 ·rcases hi with hi|hi
  ·exact .inl (.inl hi)
  ·exact .inr (lt_ hN0 (HOZ.out i hi))
end
end Go.Proofs.YtckmgjmeanloaaaGreat
