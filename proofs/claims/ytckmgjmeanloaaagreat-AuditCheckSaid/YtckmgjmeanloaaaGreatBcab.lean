/- Contracts of functions, and laws. -/
import Derived.Lib.SlKeysI
import Derived.Test.YtckmgjmeanloaaaGreatBcaa
import Derived.StillTailTactics
import Derived.Deep.CutBlock
set_option maxHeartbeats 8000000
set_option maxRecDepth 100000
namespace Go.Proofs.YtckmgjmeanloaaaGreat
open Go.Proofs.Tryz
variable {w w':World} {t:List Int} {k:ByteArray} {Q:Exit→Act→World→Prop} {ops:Array Oper} {o:Oper} {a:Act} {cs:Array Value}
section
open Go.RowKit Go.Maps
def ldAt:List (Int×Int)→Int→Int
 | [],_=>0
 | p::L,w=>if p.1=w then p.2 else ldAt L w
def ldHas:List (Int×Int)→Int→Bool
 | [],_=>false
 | p::L,w=>decide (p.1=w)||ldHas L w
def ldK:List (Int×Int)→Int→Nat
 | [],_=>0
 | p::L,w=>if p.1<w then ldK L w+1 else 0
def ldPut:List (Int×Int)→Int→Int→List (Int×Int)
 | [],w,n=>[(w,n)]
 | p::L,w,n=>if p.1<w then p::ldPut L w n else if p.1=w then (w,p.2+n)::L else (w,n)::p::L
def ldDel:List (Int×Int)→Int→List (Int×Int)
 | [],_=>[]
 | p::L,w=>if p.1=w then L else p::ldDel L w
def Asc (L:List (Int×Int)):Prop:=L.Pairwise (fun p q=>p.1<q.1)
theorem Ey_ {w:Int}:∀{L:List (Int×Int)},(∀q∈L,w<q.1)→ldHas L w=false
 | [],_=>rfl
 | p::L,h=>by
  have:=h p (by simp)
  simp only[ldHas,Ey_ fun q hq=>h q (List.mem_cons_of_mem p hq),Bool.or_false,decide_eq_false_iff_not];omega
theorem Kx_ {w:Int}:∀{L:List (Int×Int)},ldHas L w=false→ldAt L w=0
 | [],_=>rfl
 | p::L,h=>by
  simp only[ldHas,Bool.or_eq_false_iff,decide_eq_false_iff_not] at h;simp only[ldAt];rw[if_neg h.1];exact Kx_ h.2
theorem Di_ {w:Int}:∀{L:List (Int×Int)},ldHas L w=true↔w∈L.map (·.1)
 | []=>by simp[ldHas]
 | p::L=>by simp only[ldHas,Bool.or_eq_true,decide_eq_true_eq,Di_ (L:=L),List.map_cons,List.mem_cons];constructor <;> (rintro(h|h) <;> simp_all)
theorem Ov_ {w:Int} {L:List (Int×Int)} (h:∀q∈L,w<q.1):ldAt L w=0:=Kx_ (Ey_ h)
theorem B0_ {p:Int×Int} {L:List (Int×Int)} (h:Asc (p::L)) :(∀q∈L,p.1<q.1)∧Asc L:=List.pairwise_cons.1 h
theorem F7_ {w n v:Int}:∀{L:List (Int×Int)},Asc L→ldAt (ldPut L w n) v=if v=w then ldAt L w+n else ldAt L v
 | [],_=>by
  simp only[ldPut,ldAt]
  by_cases h:v=w
  ·rw[if_pos h,if_pos h.symm];omega
  ·rw[if_neg h,if_neg fun e=>h e.symm]
 | p::L,hA=>by
  obtain⟨h1,h2⟩:=B0_ hA;simp only[ldPut]
  by_cases a:p.1<w
  ·rw[if_pos a]
   simp only[ldAt];rw[F7_ h2]
   by_cases b:v=w
   ·rw[if_pos b,if_pos b,if_neg (by omega),if_neg (by omega)]
   ·rw[if_neg b,if_neg b]
  ·rw[if_neg a]
   by_cases c:p.1=w
   ·rw[if_pos c]
    simp only[ldAt]
    by_cases b:v=w
    ·rw[if_pos b,if_pos b.symm,if_pos c]
    ·rw[if_neg b,if_neg fun e=>b e.symm,if_neg fun e=>b (e.symm.trans c)]
   ·rw[if_neg c]
    have hz:ldAt (p::L) w=0:=Ov_ fun q hq=>by
     rcases List.mem_cons.1 hq with rfl|hq
     ·omega
     ·have:=h1 q hq;omega
    by_cases b:v=w
    ·rw[if_pos b,hz];simp only[ldAt];rw[if_pos b.symm];omega
    ·rw[if_neg b]
     show(if w=v then n else ldAt (p::L) v)=_
     rw[if_neg fun e=>b e.symm]
theorem Na_ {w n v:Int}:∀{L:List (Int×Int)},ldHas (ldPut L w n) v =(decide (v=w)||ldHas L v)
 | []=>by
  have :(w=v) =(v=w):=propext ⟨Eq.symm,Eq.symm⟩;simp only[ldPut,ldHas,this]
 | p::L=>by
  have e :(w=v) =(v=w):=propext ⟨Eq.symm,Eq.symm⟩;simp only[ldPut]
  by_cases a:p.1<w
  ·rw[if_pos a];simp only[ldHas,Na_ (L:=L)]
   cases decide (p.1=v) <;> cases decide (v=w) <;> rfl
  ·rw[if_neg a]
   by_cases c:p.1=w
   ·rw[if_pos c];simp only[ldHas,e,c]
    cases decide (v=w) <;> rfl
   ·rw[if_neg c];simp only[ldHas,e]
theorem mem_ldPut {w n:Int} {q:Int×Int}:∀{L:List (Int×Int)},q∈ldPut L w n→q.1=w∨q∈L
 | [],h=>by simp[ldPut] at h;exact .inl (by rw[h])
 | p::L,h=>by
  simp only[ldPut] at h
  by_cases a:p.1<w
  ·rw[if_pos a] at h
   rcases List.mem_cons.1 h with rfl|h
   ·exact .inr (by simp)
   ·exact(mem_ldPut h).imp id fun h=>List.mem_cons_of_mem p h
  ·rw[if_neg a] at h
   by_cases c:p.1=w
   ·rw[if_pos c] at h
    rcases List.mem_cons.1 h with rfl|h
    ·exact .inl rfl
    ·exact .inr (List.mem_cons_of_mem p h)
   ·rw[if_neg c] at h
    rcases List.mem_cons.1 h with rfl|h
    ·exact .inl rfl
    ·exact .inr h
theorem Kw_ {w n:Int}:∀{L:List (Int×Int)},Asc L→Asc (ldPut L w n)
 | [],_=>by simp[ldPut,Asc]
 | p::L,hA=>by
  obtain⟨h1,h2⟩:=B0_ hA;simp only[ldPut]
  by_cases a:p.1<w
  ·rw[if_pos a]
   refine List.pairwise_cons.2 ⟨fun q hq=>?_,Kw_ h2⟩
   rcases mem_ldPut hq with h|h
   ·omega
   ·exact h1 q h
  ·rw[if_neg a]
   by_cases c:p.1=w
   ·rw[if_pos c]
    exact List.pairwise_cons.2 ⟨fun q hq=>by have:=h1 q hq;simp only;omega,h2⟩
   ·rw[if_neg c]
    refine List.pairwise_cons.2 ⟨fun q hq=>?_,hA⟩
    rcases List.mem_cons.1 hq with rfl|hq
    ·simp only;omega
    ·have:=h1 q hq;simp only;omega
theorem Do_ {w:Int} {q:Int×Int}:∀{L:List (Int×Int)},q∈ldDel L w→q∈L
 | [],h=>by simp[ldDel] at h
 | p::L,h=>by
  simp only[ldDel] at h
  split at h
  ·exact List.mem_cons_of_mem p h
  ·rcases List.mem_cons.1 h with rfl|h
   ·simp
   ·exact List.mem_cons_of_mem p (Do_ h)
theorem I8_ {w:Int}:∀{L:List (Int×Int)},Asc L→Asc (ldDel L w)
 | [],_=>by simp[ldDel,Asc]
 | p::L,hA=>by
  obtain⟨h1,h2⟩:=B0_ hA;simp only[ldDel]
  split
  ·exact h2
  ·exact List.pairwise_cons.2 ⟨fun q hq=>h1 q (Do_ hq),I8_ h2⟩
theorem H6_ {w v:Int}:∀{L:List (Int×Int)},Asc L→ldHas (ldDel L w) v =(!decide (v=w)&&ldHas L v)
 | [],_=>by simp[ldDel,ldHas]
 | p::L,hA=>by
  obtain⟨h1,h2⟩:=B0_ hA;simp only[ldDel]
  by_cases a:p.1=w
  ·rw[if_pos a]
   simp only[ldHas]
   by_cases b:v=w
   ·subst b
    rw[Ey_ fun q hq=>by have:=h1 q hq;omega];simp
   ·simp only[b,decide_false,Bool.not_false,Bool.true_and]
    rw[show decide (p.1=v)=false from df_ fun e=>b (e.symm.trans a)];simp
  ·rw[if_neg a]
   simp only[ldHas,H6_ h2]
   by_cases b:v=w
   ·subst b
    simp[a]
   ·simp[b]
theorem Hj_ {w v:Int}:∀{L:List (Int×Int)},Asc L→ldAt (ldDel L w) v=if v=w then 0 else ldAt L v
 | [],_=>by simp[ldDel,ldAt]
 | p::L,hA=>by
  obtain⟨h1,h2⟩:=B0_ hA;simp only[ldDel]
  by_cases a:p.1=w
  ·rw[if_pos a]
   by_cases b:v=w
   ·rw[if_pos b];exact Ov_ fun q hq=>by have:=h1 q hq;omega
   ·rw[if_neg b];simp only[ldAt];rw[if_neg fun e=>b (e.symm.trans a)]
  ·rw[if_neg a]
   simp only[ldAt,Hj_ h2]
   by_cases b:v=w
   ·rw[if_pos b,if_pos b,if_neg (by omega)]
   ·rw[if_neg b,if_neg b]
theorem Qm_ {w:Int}:∀{L:List (Int×Int)},ldHas L w=false→ldDel L w=L
 | [],_=>rfl
 | p::L,h=>by
  simp only[ldHas,Bool.or_eq_false_iff,decide_eq_false_iff_not] at h;simp only[ldDel];rw[if_neg h.1,Qm_ h.2]
theorem Tp_ {w:Int}:∀{L:List (Int×Int)},ldK L w≤L.length
 | []=>le_ _
 | p::L=>by
  simp only[ldK];split
  ·have:=Tp_ (w:=w) (L:=L);simp;exact this
  ·simp
theorem c1_ {w:Int}:∀{L:List (Int×Int)} {j:Nat} {p:Int×Int},j<ldK L w→L[j]?=some p→p.1<w
 | [],j,p,h,_=>by simp[ldK] at h
 | q::L,0,p,h,hp=>by
  simp at hp;subst hp
  simp only[ldK] at h;split at h
  ·assumption
  ·omega
 | q::L,j+1,p,h,hp=>by
  simp only[ldK] at h;split at h
  ·exact c1_ (L:=L) (j:=j) (by omega) (by simpa using hp)
  ·omega
theorem G4_ {w:Int}:∀{L:List (Int×Int)},Asc L→(ldHas L w=true↔L[ldK L w]?=some (w,ldAt L w))
 | [],_=>by simp[ldHas]
 | p::L,hA=>by
  obtain⟨h1,h2⟩:=B0_ hA;simp only[ldHas,ldK,ldAt]
  by_cases a:p.1<w
  ·rw[if_pos a,if_neg (by omega)]
   simp only[List.getElem?_cons_succ,←G4_ h2,Bool.or_eq_true,decide_eq_true_eq]
   constructor
   ·rintro(h|h)
    ·omega
    ·exact h
   ·exact .inr
  ·rw[if_neg a]
   by_cases c:p.1=w
   ·rw[if_pos c]
    simp only[c,decide_true,Bool.true_or,List.getElem?_cons_zero,true_iff,Option.some.injEq];rw[←c]
   ·rw[if_neg c]
    rw[show decide (p.1=w)=false from df_ c,Ey_ fun q hq=>by have:=h1 q hq;omega];simp only[Bool.or_self,Bool.false_eq_true,List.getElem?_cons_zero,Option.some.injEq,false_iff];intro e;exact c (by rw[e])
theorem Yk_ {w:Int} {L:List (Int×Int)} (hA:Asc L) {p:Int×Int} (hp:L[ldK L w]?=some p) (hne:p.1≠w):ldHas L w=false:=by
 cases h:ldHas L w with
 | false=>rfl
 | true=>
  rw[(G4_ hA).1 h] at hp;cases hp;exact absurd rfl hne
theorem X4_ {w:Int} {L:List (Int×Int)} (hA:Asc L) (hk:ldK L w=L.length):ldHas L w=false:=by
 cases h:ldHas L w with
 | false=>rfl
 | true=>
  have:=(G4_ hA).1 h
  rw[hk] at this;simp at this
theorem Xm_ {w:Int}:∀{L:List (Int×Int)} {k:Nat} {p:Int×Int},L[k]?=some p→p.1=w→ldHas L w=true:=by
 intro L k p h e;rw[Di_];exact List.mem_map.2 ⟨p,mo_ h,e⟩
theorem Qp_ {w n:Int}:∀{L:List (Int×Int)},Asc L→ldHas L w=false→ldPut L w n=L.take (ldK L w)++[(w,n)]++L.drop (ldK L w)
 | [],_,_=>rfl
 | p::L,hA,h=>by
  obtain⟨h1,h2⟩:=B0_ hA;simp only[ldHas,Bool.or_eq_false_iff,decide_eq_false_iff_not] at h;simp only[ldPut,ldK]
  by_cases a:p.1<w
  ·rw[if_pos a,if_pos a,Qp_ h2 h.2];rfl
  ·rw[if_neg a,if_neg a,if_neg h.1];rfl
theorem Mf_ {w n:Int}:∀{L:List (Int×Int)},Asc L→ldHas L w=true→ldPut L w n=L.set (ldK L w) (w,ldAt L w+n)
 | [],_,h=>by simp[ldHas] at h
 | p::L,hA,h=>by
  obtain⟨h1,h2⟩:=B0_ hA;simp only[ldPut,ldK,ldAt]
  by_cases a:p.1<w
  ·simp only[ldHas,show decide (p.1=w)=false from df_ (by omega),Bool.false_or] at h
   rw[if_pos a,if_pos a,if_neg (by omega),Mf_ h2 h];rfl
  ·rw[if_neg a,if_neg a]
   by_cases c:p.1=w
   ·rw[if_pos c,if_pos c];rfl
   ·exfalso
    rw[Ey_] at h
    ·cases h
    ·intro q hq
     rcases List.mem_cons.1 hq with rfl|hq
     ·omega
     ·have:=h1 q hq;omega
theorem M0_ {w:Int}:∀{L:List (Int×Int)},Asc L→ldHas L w=true→ldDel L w=L.take (ldK L w)++L.drop (ldK L w+1)
 | [],_,h=>by simp[ldHas] at h
 | p::L,hA,h=>by
  obtain⟨h1,h2⟩:=B0_ hA;simp only[ldDel,ldK]
  by_cases a:p.1<w
  ·simp only[ldHas,show decide (p.1=w)=false from df_ (by omega),Bool.false_or] at h
   rw[if_pos a,if_neg (by omega),M0_ h2 h];rfl
  ·rw[if_neg a]
   by_cases c:p.1=w
   ·rw[if_pos c];rfl
   ·exfalso
    rw[Ey_] at h
    ·cases h
    ·intro q hq
     rcases List.mem_cons.1 hq with rfl|hq
     ·omega
     ·have:=h1 q hq;omega
variable {H:Type} {D:DataW H} {L:List (Int×Int)}
theorem Xr_:∀{L:List (Int×Int)},Asc L→(L.map (·.1)).Nodup:=by
 intro L h;unfold List.Nodup;rw[List.pairwise_map]
 exact h.imp fun h e=>by omega
end
section
open Go.RowKit
def fitsB (a b:Int):Bool:=decide (a+b≤9223372036854775808)
theorem Dz_ (a b:Int) (w:World) (ha:W64 a) (hb:W64 b):Calls prog 118 #[.int .u64 a,.int .u64 b] w (fun e w'=>e=.returned (.bool (fitsB a b))∧w=w'):=by
 have h3:=hh_ (show fitsB a b=decide (a+b≤9223372036854775808) from rfl);unfold W64 at ha hb;generalize fitsB a b=F at *
 by_cases h:a≤9223372036854775808
 ·have hwr:IntKind.u64.wrap (9223372036854775808-a)=9223372036854775808-a:=IntWalk.u64_in _ (by omega)
  have h4:=hh_ (show F=decide (b≤9223372036854775808-a) by rw[h3.out];exact decide_eq_decide.2 (by omega));clear h3
  go_enter func118,ntmps118
  go_wp2
  all_goals
   go_ret
   exact⟨by rw[h4.out];rfl,rfl⟩
 ·have h4:=hh_ (show F=false by rw[h3.out];exact df_ (by omega))
  clear h3
  go_enter func118,ntmps118
  go_wp2
  go_ret
  exact⟨by rw[h4.out];rfl,rfl⟩
end
section
open Go.RowKit Go.Maps
def I64 (n:Int):Prop:=-9223372036854775808≤n∧n≤9223372036854775807
theorem da_ {L:List (Int×Int)} (h:∀p∈L,W64 p.2) (w:Int):W64 (ldAt L w):=by
 induction L with
 | nil=>exact⟨by simp[ldAt],by simp[ldAt]⟩
 | cons p L ih=>
  simp only[ldAt];split
  ·exact h p (by simp)
  ·exact ih fun q hq=>h q (List.mem_cons_of_mem p hq)
theorem Ye_ {L:List (Int×Int)} (h:∀p∈L,I64 p.1) {win n:Int} (hw:I64 win):∀p∈ldPut L win n,I64 p.1:=fun p hp=>by
 rcases mem_ldPut hp with h1|h1
 ·rw[h1];exact hw
 ·exact h p h1
theorem Qu_ {win n:Int}:∀{L:List (Int×Int)},(∀p∈L,W64 p.2)→Asc L→W64 (ldAt L win+n)→∀p∈ldPut L win n,W64 p.2
 | [],_,_,hs,p,hp=>by simp[ldPut] at hp;subst hp;simpa [ldAt] using hs
 | q::L,h,hA,hs,p,hp=>by
  simp only[ldPut] at hp;simp only[ldAt] at hs
  by_cases a:q.1<win
  ·rw[if_pos a] at hp
   rw[if_neg (by omega)] at hs
   rcases List.mem_cons.1 hp with rfl|hp
   ·exact h p (by simp)
   ·exact Qu_ (fun x hx=>h x (List.mem_cons_of_mem q hx)) (B0_ hA).2 hs p hp
  ·rw[if_neg a] at hp
   by_cases c:q.1=win
   ·rw[if_pos c] at hp hs
    rcases List.mem_cons.1 hp with rfl|hp
    ·exact hs
    ·exact h p (List.mem_cons_of_mem q hp)
   ·rw[if_neg c] at hp hs
    rw[Ov_ fun x hx=>by have:=(B0_ hA).1 x hx;omega] at hs
    rcases List.mem_cons.1 hp with rfl|hp
    ·simpa using hs
    ·exact h p hp
def accL (L:List (Int×Int)) (win x:Int):List (Int×Int):=if fitsB (ldAt L win) x then ldPut L win x else L
def accN (L:List (Int×Int)) (win x acc:Int):Int:=if fitsB (ldAt L win) x then acc+1 else acc
end
section
open Go.RowKit
structure Rep where
 (win tot:Int) (vl:Value) (over trk rest:Int) (vr:Value) (lines:List Ln) (rej:List Int)
def repF (r:Rep):List Value:=[.int .i64 r.win,.int .u64 r.tot,r.vl,.int .u64 r.over,.int .i64 r.trk,.int .u64 r.rest,r.vr]
abbrev repV (win tot:Int) (vl:Value) (over trk rest:Int) (vr:Value):Value:=.agg #[.int .i64 win,.int .u64 tot,vl,.int .u64 over,.int .i64 trk,.int .u64 rest,vr]
structure RepRd (w:World) (r:Rep):Prop where
 lines:RdL lnF 3 w r.vl r.lines
 rej:RdL wordF 1 w r.vr r.rej
 lcap:∀a n c,r.vl=.slice a n c→n≤c
 rcap:∀a n c,r.vr=.slice a n c→n≤c
theorem RepRd.same {r:Rep} (h:RepRd w r) (hg:w.grownBy w' none):RepRd w' r:=⟨h.lines.same hg,h.rej.same hg,h.lcap,h.rcap⟩
structure LnW (x:Ln):Prop where
 lo:W64 x.lo
 hi:W64 x.hi
 key:x.key.size≤9223372036854775807
structure RepW (r:Rep):Prop where
 win:I64 r.win
 tot:W64 r.tot
 over:W64 r.over
 trk:I64 r.trk
 rest:W64 r.rest
 lines:∀x∈r.lines,LnW x
 rej:∀n∈r.rej,W64 n
def C2_ (tot:Int) (prev:Option Ln) (x:Ln):Int:=
 if x.key.size=0 then 3 else if 255<x.key.size then 4 else if x.hi<x.lo∨tot<x.hi then 1 else if (prev.map fun p=>!befB p x).getD false then 6 else 0
def Kr_ (ls:List Ln):Nat→Option Ln
 | 0=>none
 | i+1=>ls[i]?
def lnErrAt (tot:Int) (ls:List Ln) (i:Nat):Int:=match ls[i]? with
 | some x=>C2_ tot (Kr_ ls i) x
 | none=>0
def Cc_ (tot:Int) (ls:List Ln):Int:=fstN ((List.range ls.length).map (lnErrAt tot ls))
theorem Rc_ {tot:Int} {ls:List Ln} {j:Nat} (hj:j<ls.length) (h:∀i,i<j→lnErrAt tot ls i=0) (h2:lnErrAt tot ls j≠0):Cc_ tot ls=lnErrAt tot ls j:=by
 unfold Cc_;rw[O9_ (j:=j) (by simpa using hj) (fun i hi hij=>by simpa using h i hij) (by simpa using h2)]
 simp
theorem K1_ {tot:Int} {ls:List Ln} (h:∀i,i<ls.length→lnErrAt tot ls i=0):Cc_ tot ls=0:=O8_ fun i hi=>by simpa using h i (by simpa using hi)
theorem R8_ {tot:Int} {ls:List Ln} (h:Cc_ tot ls=0):∀i,i<ls.length→lnErrAt tot ls i=0:=by
 intro i hi
 induction i using Nat.strongRecOn with
 | _ i ih=>
  by_cases e:lnErrAt tot ls i=0
  ·exact e
  ·rw[Rc_ hi (fun j hj=>ih j hj (by omega)) e] at h
   exact h
def loSum (ls:List Ln):Int:=ls.foldl (fun a x=>a+x.lo) 0
theorem Ew_ (ls:List Ln) (x:Ln):loSum (ls++[x])=loSum ls+x.lo:=by simp[loSum]
theorem E3_:∀(ls:List Ln) (a:Int),ls.foldl (fun a x=>a+x.lo) a=a+loSum ls
 | [],a=>by simp[loSum]
 | x::ls,a=>by
  unfold loSum;simp only[List.foldl_cons];rw[E3_ ls (a+x.lo),E3_ ls (0+x.lo)]
  omega
theorem Bw_ (x:Ln) (ls:List Ln):loSum (x::ls)=x.lo+loSum ls:=by
 show(x::ls).foldl (fun a x=>a+x.lo) 0=_
 simp only[List.foldl_cons];rw[E3_];omega
theorem loSum_pos:∀{ls:List Ln},(∀x∈ls,0≤x.lo)→0≤loSum ls
 | [],_=>by simp[loSum]
 | x::ls,h=>by
  rw[Bw_]
  have:=loSum_pos fun y hy=>h y (List.mem_cons_of_mem x hy)
  have:=h x (by simp)
  omega
theorem Lp_ {ls:List Ln} (h:∀x∈ls,0≤x.lo) (k:Nat):loSum (ls.take k)≤loSum ls:=by
 have e:loSum ls=loSum (ls.take k)+loSum (ls.drop k):=by
  have:=E3_ (ls.drop k) (loSum (ls.take k))
  rw[←this,loSum,loSum,←List.foldl_append,List.take_append_drop]
 have:=loSum_pos (ls:=ls.drop k) fun x hx=>h x (List.mem_of_mem_drop hx)
 omega
def keysN (ls:List Ln):List (List UInt8):=ls.map fun x=>x.key.data.toList
def repErr (r:Rep):Int:=
 if r.win<0∨1099511627776<r.win∨9223372036854775808<r.tot∨r.tot<r.rest then 1
 else if 64<r.lines.length∨r.trk<r.lines.length∨768<r.trk then 7
 else if Cc_ r.tot r.lines≠0 then Cc_ r.tot r.lines
 else if ¬(keysN r.lines).Nodup then 10
 else if 18446744073709551615<r.over+loSum r.lines∨r.over+loSum r.lines≠r.tot then 13
 else if r.rej.length≠7∨r.rej[0]?≠some 0 then 3
 else 0
structure Zp_ (r:Rep):Prop where
 win:0≤r.win∧r.win≤1099511627776
 tot:r.tot≤9223372036854775808
 rest:r.rest≤r.tot
 few:r.lines.length≤64
 trk :(r.lines.length:Int)≤r.trk∧r.trk≤768
 lines:∀i,i<r.lines.length→lnErrAt r.tot r.lines i=0
 keys :(keysN r.lines).Nodup
 sum:r.over+loSum r.lines=r.tot
 fits:r.over+loSum r.lines≤18446744073709551615
 rej:r.rej.length=7
 rej0:r.rej[0]?=some 0
theorem Vm_ {r:Rep} (h:repErr r=0):Zp_ r:=by
 unfold repErr at h
 by_cases h1:r.win<0∨1099511627776<r.win∨9223372036854775808<r.tot∨r.tot<r.rest
 ·rw[if_pos h1] at h;cases h
 rw[if_neg h1] at h
 by_cases h2:64<r.lines.length∨r.trk<r.lines.length∨768<r.trk
 ·rw[if_pos h2] at h;cases h
 rw[if_neg h2] at h
 by_cases h3:Cc_ r.tot r.lines≠0
 ·rw[if_pos h3] at h;exact absurd h h3
 rw[if_neg h3] at h
 by_cases h4:¬(keysN r.lines).Nodup
 ·rw[if_pos h4] at h;cases h
 rw[if_neg h4] at h
 by_cases h5:18446744073709551615<r.over+loSum r.lines∨r.over+loSum r.lines≠r.tot
 ·rw[if_pos h5] at h;cases h
 rw[if_neg h5] at h
 by_cases h6:r.rej.length≠7∨r.rej[0]?≠some 0
 ·rw[if_pos h6] at h;cases h
 have h7:r.rej.length=7∧r.rej[0]?=some 0:=by
  constructor
  ·exact Decidable.byContradiction fun e=>h6 (.inl e)
  ·exact Decidable.byContradiction fun e=>h6 (.inr e)
 exact⟨by omega,by omega,by omega,by omega,by omega,R8_ (Decidable.byContradiction h3),Decidable.byContradiction h4,by omega,by omega,h7.1,h7.2⟩
theorem io_ {tot:Int} {p:Option Ln} {x:Ln} (h:C2_ tot p x=0):x.key.size≠0∧x.key.size≤255∧x.lo≤x.hi∧x.hi≤tot∧(p.map fun p=>!befB p x).getD false=false:=by
 unfold C2_ at h
 by_cases h1:x.key.size=0
 ·rw[if_pos h1] at h;cases h
 rw[if_neg h1] at h
 by_cases h2:255<x.key.size
 ·rw[if_pos h2] at h;cases h
 rw[if_neg h2] at h
 by_cases h3:x.hi<x.lo∨tot<x.hi
 ·rw[if_pos h3] at h;cases h
 rw[if_neg h3] at h
 by_cases h4 :(p.map fun p=>!befB p x).getD false=true
 ·rw[if_pos h4] at h;cases h
 exact⟨h1,by omega,by omega,by omega,by simpa using h4⟩
theorem Zp_.ln {r:Rep} (h:Zp_ r) {i:Nat} (hi:i<r.lines.length):r.lines[i].key.size≠0∧r.lines[i].key.size≤255∧r.lines[i].lo≤r.lines[i].hi∧r.lines[i].hi≤r.tot:=by
 have:=h.lines i hi
 unfold lnErrAt at this;rw[gq_ hi] at this;obtain⟨a,b,c,d,_⟩:=io_ this;exact⟨a,b,c,d⟩
end
section
open Go.RowKit Go.Maps Go.WideMaps
theorem g9_ (b:List UInt8):WideAt.IsKeyLit (.string b):=by unfold WideAt.IsKeyLit;trivial
theorem Fh_:∀(xs acc:List Lit),(∀x∈xs,WideAt.IsKeyLit x) →
  (xs.foldl addKey acc).length≤acc.length+xs.length∧((xs.foldl addKey acc).length=acc.length+xs.length↔xs.Nodup∧∀x∈xs,acc.any (fun y=>y.sameKey x)=false)
 | [],acc,_=>by simp
 | x::xs,acc,h=>by
  have hx:=h x (by simp);simp only[List.foldl_cons,lc_];unfold addKey
  by_cases ha:acc.any (fun y=>y.sameKey x)=true
  ·rw[if_pos ha]
   obtain⟨h1,_⟩:=Fh_ xs acc fun y hy=>h y (List.mem_cons_of_mem _ hy);unfold addKey at h1;refine⟨by omega,fun e=>by omega,fun⟨_,h3⟩=>?_⟩
   have:=h3 x (by simp)
   rw[ha] at this;cases this
  ·rw[if_neg ha]
   obtain⟨h1,h2⟩:=Fh_ xs (acc++[x]) fun y hy=>h y (List.mem_cons_of_mem _ hy);unfold addKey at h1 h2;rw[la_,ls_] at h1 h2;refine⟨by omega,?_⟩;rw[show acc.length+(xs.length+1)=acc.length+1+xs.length by omega,h2]
   have ha':acc.any (fun y=>y.sameKey x)=false:=by simpa using ha
   constructor
   ·rintro⟨h3,h4⟩
    have hne:x∉xs:=fun hm=>by
     have:=h4 x hm
     rw[List.any_append,Bool.or_eq_false_iff] at this;have e:=this.2
     simp[WideAt.sameKey_self hx] at e
    refine⟨List.nodup_cons.2 ⟨hne,h3⟩,fun y hy=>?_⟩
    rcases List.mem_cons.1 hy with e|e
    ·rw[e];exact ha'
    ·have:=h4 y e
     rw[List.any_append,Bool.or_eq_false_iff] at this;exact this.1
   ·rintro⟨h3,h4⟩
    obtain⟨h5,h6⟩:=List.nodup_cons.1 h3;refine⟨h6,fun y hy=>?_⟩;rw[List.any_append,Bool.or_eq_false_iff];refine⟨h4 y (List.mem_cons_of_mem _ hy),?_⟩
    have hxy:x≠y:=fun e=>h5 (e▸hy)
    simp[sameKey_ne hxy]
def setS (L:List (List UInt8)):DataW Unit:=setOf (.lit (.bool true)) (L.map fun b=>.string b)
theorem Uc_ (L:List (List UInt8)) (b:List UInt8):setS (L++[b]) =(setS L).put (.string b) (.lit (.bool true)):=by
 unfold setS;rw[List.map_append];exact setOf_snoc _ _ _
theorem Me_ (L:List (List UInt8)):∀x∈L.map (fun b=>(Lit.string b)),WideAt.IsKeyLit x:=by
 intro x hx;obtain⟨b,_,rfl⟩:=List.mem_map.1 hx;exact g9_ b
theorem Xq_ (L:List (List UInt8)):Maps.size (setS L)≤L.length∧(Maps.size (setS L)=L.length↔L.Nodup):=by
 have h:=Fh_ (L.map fun b=>(Lit.string b)) [] (Me_ L);unfold setS;rw[size_setOf _ _ (Me_ L)];simp only[List.length_nil,Nat.zero_add,List.length_map,List.any_nil,implies_true,and_true] at h;refine⟨h.1,h.2.trans ?_⟩;rw[List.nodup_iff_pairwise_ne,List.nodup_iff_pairwise_ne,List.pairwise_map];exact⟨fun h=>h.imp fun hne e=>hne (by rw[e]),fun h=>h.imp fun hne e=>hne (by cases e;rfl)⟩
end
section
open Go.RowKit Go.Sort
def satL (n:Int):Int:=if n≤18446744073709551615 then n else 18446744073709551615
def fitL (n:Int):Bool:=decide (n≤18446744073709551615)
theorem Jr_ {n:Int} (h:0≤n):W64 (satL n):=by unfold W64 satL;split <;> omega
theorem Lz_ {n x:Int} (_:0≤n) (hx:0≤x):satA (satL n) x=satL (n+x):=by unfold satA satL;(repeat' split) <;> omega
theorem L1_ {n x:Int} (hx:0≤x) :(fitL n&&fitA (satL n) x)=fitL (n+x):=by
 unfold fitL fitA satL;rw[Bool.eq_iff_iff];simp only[Bool.and_eq_true,decide_eq_true_eq]
 split <;> constructor <;> intro h <;> omega
def cr_ (n:Int) (w:World) (e:Ending) (w':World):Prop:=e=.returned (.tuple #[.int .u64 (satL n),.bool (fitL n)])∧w.grownBy w' none
theorem hi_ (v:Value) (ls:List Ln) (w:World) (h:RdL lnF 3 w v ls) (hW:∀x∈ls,LnW x):Calls prog 62 #[v] w (cr_ (loSum ls) w):=by
 obtain⟨a,c,rfl⟩:=h.shape;have hm:=h.2.1;have H:=hh_ h;have HW:=hh_ hW;have H0:=hh_ (show cr_ (loSum ls) w=fun e w'=>e=.returned (.tuple #[.int .u64 (satL (loSum ls)),.bool (fitL (loSum ls))])∧w.grownBy w' none from rfl);clear h hW
 go_enter func62,ntmps62
 go_wp2_with fail
 go_loopw [2,3,9] (fun s2 s3 s9 wk=>∃k:Nat,k≤ls.length∧s9=.int .i64 k∧s2=.int .u64 (satL (loSum (ls.take k)))∧s3=.bool (fitL (loSum (ls.take k)))∧w.grownBy wk none) (fun _ _ s9 _=>ls.length-(RowKit.intOf s9).toNat)
 case atStart=>exact⟨0,zl_ _,rfl,rfl,rfl,Ab_ _ _⟩
 case round=>
  obtain⟨k,hk,rfl,rfl,rfl,hg⟩:=hrel
  by_cases hlt:k<ls.length
  ·obtain⟨g,off,cap,hv,hgl,hc⟩:=(RdL.same H.out hg).at_ Ay_ hlt
   cases hv;have c0:=hc 0 _ rfl;have c1:=hc 1 _ rfl;have c2:=hc 2 _ rfl;rw[Nat.add_zero] at c0;clear hc;have hx:=HW.out _ (mg_ hlt)
   have hp:0≤loSum (ls.take k):=loSum_pos fun y hy=>(HW.out y (List.mem_of_mem_take hy)).lo.1
   have HS:=hh_ (show loSum (ls.take (k+1))=loSum (ls.take k)+ls[k].lo by rw[B2_ hlt,Ew_]);have w1:=Jr_ hp;have w2:=hx.lo;have Ha:=hh_ (Lz_ hp w2.1);have Hf:=hh_ (L1_ (n:=loSum (ls.take k)) w2.1);clear hx;generalize loSum (ls.take k)=n at *;generalize ls[k]=x at *;obtain⟨bt,hbt⟩:∃bt,fitL n=bt:=⟨_,rfl⟩;rw[hbt] at Hf ⊢;clear hbt hp;generalize satL n=sn at *;cases bt
   ·go_wp2_with (go_at_call 28;refine(E2_ sn x.lo _ w1 w2).mono ?_;rintro e w' ⟨rfl,rfl⟩)
    exact⟨⟨k+1,by omega,by go_num,by rw[HS.out,←Ha.out],by rw[HS.out,←Hf.out];rfl,Ad_ hg _⟩,by simp[RowKit.intOf];omega⟩
   ·go_wp2_with (go_at_call 28;refine(E2_ sn x.lo _ w1 w2).mono ?_;rintro e w' ⟨rfl,rfl⟩)
    exact⟨⟨k+1,by omega,by go_num,by rw[HS.out,←Ha.out],by rw[HS.out,←Hf.out,Bool.true_and],Ad_ hg _⟩,by simp[RowKit.intOf];omega⟩
  ·have hl:ls.take k=ls:=tk_ (by omega)
   rw[hl]
   go_wp2_with fail
   go_ret2
   exact⟨rfl,hg⟩
theorem Lc_ {tot:Int} {p:Option Ln} {x:Ln} (h:x.key.toList.isEmpty=true):C2_ tot p x=3:=by unfold C2_;rw[if_pos (isE h)]
theorem Pt_ {tot:Int} {p:Option Ln} {x:Ln} (h:x.key.toList.isEmpty=false) (h2:255<(x.key.size:Int)):C2_ tot p x=4:=by unfold C2_;rw[if_neg (isN h),if_pos (by omega)]
theorem Es_ {tot:Int} {p:Option Ln} {x:Ln} (h:x.key.toList.isEmpty=false) (h2 :(x.key.size:Int)≤255) (h3:x.hi<x.lo∨tot<x.hi):C2_ tot p x=1:=by unfold C2_;rw[if_neg (isN h),if_neg (by omega),if_pos h3]
theorem Oh_ {tot:Int} {p:Option Ln} {x:Ln} (h:x.key.toList.isEmpty=false) (h2 :(x.key.size:Int)≤255) (h3:x.lo≤x.hi) (h4:x.hi≤tot):C2_ tot p x=if (p.map fun p=>!befB p x).getD false then 6 else 0:=by
 unfold C2_;rw[if_neg (isN h),if_neg (by omega),if_neg (by omega)]
theorem fj_ (r:Rep) (w:World) (hR:RepRd w r) (hi:0<r.lines.length):Calls prog 61 #[repV r.win r.tot r.vl r.over r.trk r.rest r.vr,.int .i64 0] w (RetInt (C2_ r.tot none r.lines[0]) w):=by
 obtain⟨win,tot,vl,over,trk,rest,vr,ls,rj⟩:=r;obtain⟨ra,rc,e2⟩:=hR.rej.shape
 simp only at e2 hi ⊢
 subst e2;obtain⟨g,off,cap,hv,hgl,hc⟩:=hR.lines.at_ Ay_ hi
 simp only at hv
 subst hv;have c0:=hc 0 _ rfl;have c1:=hc 1 _ rfl;have c2:=hc 2 _ rfl;have hlen:ls.length≤9223372036854775807:=hR.lines.2.1;simp only[Nat.zero_mul,Nat.add_zero] at c0 c1 c2;clear hR hc
 have hl0 :(0:Int)<(ls.length:Int):=by omega
 generalize ls[0]=x at *
 go_enter func61,ntmps61
 go_upto_region 2 with fail
 have B1:=(Blk.new w #[.int .i64 win,.int .u64 tot,.slice (some ⟨g,off,none⟩) ls.length cap,.int .u64 over,.int .i64 trk,.int .u64 rest,.slice ra rj.length rc] 26).same (ga_ _ (.cells #[.string x.key,.int .u64 x.lo,.int .u64 x.hi] 46) none);have B2:=Blk.new' (w.alloc (.cells #[.int .i64 win,.int .u64 tot,.slice (some ⟨g,off,none⟩) ls.length cap,.int .u64 over,.int .i64 trk,.int .u64 rest,.slice ra rj.length rc] 26)) #[.string x.key,.int .u64 x.lo,.int .u64 x.hi] 46 (g:=w.heap.size+1) (by simp);have hg:=Ad_ (Ad_ (Ab_ w none) (.cells #[.int .i64 win,.int .u64 tot,.slice (some ⟨g,off,none⟩) ls.length cap,.int .u64 over,.int .i64 trk,.int .u64 rest,.slice ra rj.length rc] 26)) (.cells #[.string x.key,.int .u64 x.lo,.int .u64 x.hi] 46);generalize (w.alloc _).alloc _=wq at *;have b1:=B1.cell;have b2:=B2.cell;clear c0 c1 c2
 go_wp2_with fail
 ·go_ret
  exact Aj_ (Lc_ (by assumption)) hg
 ·go_ret
  exact Aj_ (Pt_ (by assumption) (by assumption)) hg
 ·go_ret
  exact Aj_ (Es_ (by assumption) (by assumption) (by assumption)) hg
 ·have he:x.key.toList.isEmpty=false:=by assumption
  have hl :(x.key.size:Int)≤255:=by assumption
  have h3:x.lo≤x.hi:=by assumption
  have h4:x.hi≤tot:=And.right (show x.lo≤x.hi∧x.hi≤tot by assumption);have HL:=hh_ (Oh_ (p:=none) he hl h3 h4);clear he hl h3 h4
  go_quiet (fail)
  go_wp2_with fail
  go_ret
  exact Aj_ HL.out (Ae_ hg _)
 ·go_ret
  exact Aj_ (Es_ (by assumption) (by assumption) (Or.inl (by assumption))) hg
theorem ds_ (r:Rep) (m:Nat) (w:World) (hR:RepRd w r) (hi:m+1<r.lines.length):Calls prog 61 #[repV r.win r.tot r.vl r.over r.trk r.rest r.vr,.int .i64 (m+1:Nat)] w (RetInt (C2_ r.tot (some r.lines[m]) r.lines[m+1]) w):=by
 obtain⟨win,tot,vl,over,trk,rest,vr,ls,rj⟩:=r;obtain⟨ra,rc,e2⟩:=hR.rej.shape
 simp only at e2 hi ⊢
 subst e2;obtain⟨g,off,cap,hv,hgl,hc⟩:=hR.lines.at_ Ay_ hi
 simp only at hv
 subst hv;have c0:=hc 0 _ rfl;have c1:=hc 1 _ rfl;have c2:=hc 2 _ rfl;obtain⟨g',off',cap',hv',-,hd⟩:=hR.lines.at_ Ay_ (show m<ls.length by omega);cases hv';have HD:=hh_ hd;have hlen:ls.length≤9223372036854775807:=hR.lines.2.1;simp only[Nat.add_zero] at c0 c1 c2;clear hR hc hd
 have hl0 :(0:Int)≤((m+1:Nat):Int):=by omega
 have hl1 :((m+1:Nat):Int)<(ls.length:Int):=by omega
 have hl2 :(0:Int)≤(m:Int):=by omega
 have hl3 :(m:Int)<(ls.length:Int):=by omega
 have hs1:IntKind.i64.wrap (((m+1:Nat):Int)-1) =(m:Int):=by rw[IntWalk.i64_in _ (by omega)];omega
 have hs2 :((m+1:Nat):Int)-1 =(m:Int):=by omega
 have hgt:decide ((0:Int)<((m+1:Nat):Int))=true:=dt_ (by omega);generalize ls[m]=y at *;generalize ls[m+1]=x at *
 go_enter func61,ntmps61
 go_upto_region 2 with fail
 have B1:=(Blk.new w #[.int .i64 win,.int .u64 tot,.slice (some ⟨g,off,none⟩) ls.length cap,.int .u64 over,.int .i64 trk,.int .u64 rest,.slice ra rj.length rc] 26).same (ga_ _ (.cells #[.string x.key,.int .u64 x.lo,.int .u64 x.hi] 46) none);have B2:=Blk.new' (w.alloc (.cells #[.int .i64 win,.int .u64 tot,.slice (some ⟨g,off,none⟩) ls.length cap,.int .u64 over,.int .i64 trk,.int .u64 rest,.slice ra rj.length rc] 26)) #[.string x.key,.int .u64 x.lo,.int .u64 x.hi] 46 (g:=w.heap.size+1) (by simp);have hg:=Ad_ (Ad_ (Ab_ w none) (.cells #[.int .i64 win,.int .u64 tot,.slice (some ⟨g,off,none⟩) ls.length cap,.int .u64 over,.int .i64 trk,.int .u64 rest,.slice ra rj.length rc] 26)) (.cells #[.string x.key,.int .u64 x.lo,.int .u64 x.hi] 46);generalize (w.alloc _).alloc _=wq at *;have b1:=B1.cell;have b2:=B2.cell;clear c0 c1 c2
 go_wp2_with fail
 ·go_ret
  exact Aj_ (Lc_ (by assumption)) hg
 ·go_ret
  exact Aj_ (Pt_ (by assumption) (by assumption)) hg
 ·go_ret
  exact Aj_ (Es_ (by assumption) (by assumption) (by assumption)) hg
 ·have he:x.key.toList.isEmpty=false:=by assumption
  have hl :(x.key.size:Int)≤255:=by assumption
  have h3:x.lo≤x.hi:=by assumption
  have h4:x.hi≤tot:=And.right (show x.lo≤x.hi∧x.hi≤tot by assumption);have HL2:=hh_ (show C2_ tot (some y) x=if !(befB y x) then 6 else 0 from Oh_ (p:=some y) he hl h3 h4);have d0:=cell_regrown ((((Am_ hg).1 g _ hgl (by simp))).trans (HD.out 0 _ rfl));have d1:=cell_regrown ((((Am_ hg).1 g _ hgl (by simp))).trans (HD.out 1 _ rfl));have d2:=cell_regrown ((((Am_ hg).1 g _ hgl (by simp))).trans (HD.out 2 _ rfl));simp only[Nat.add_zero] at d0;have e1:=B1.re;have e2:=B2.re
  have r4:=Bn_ (w:=wq) fun w' hg=>Y4_ y x w'
  clear he hl h3 h4 HD b1 b2 B1 B2;generalize befB y x=bb at *
  (refine Tail.wp_region_tail_grown 14 (by kernel_rfl) (by kernel_rfl) ?_;simp only[List.take,List.drop];(repeat(go_big_quiet_step (with_reducible exact r4 _ _)));refine wn_ ?_;rintro _ ⟨⟨d5,os5⟩,rfl⟩)
  have K3:=Aa_ hg (A3_ wq d5 os5);generalize grow (redrawn wq d5) os5=w3 at *;clear d0 d1 d2 e1 e2 r4;cases bb
  ·go_wp2_with fail
   go_ret
   exact Aj_ HL2.out K3
  ·go_wp2_with fail
   go_ret
   exact Aj_ HL2.out K3
 ·go_ret
  exact Aj_ (Es_ (by assumption) (by assumption) (Or.inl (by assumption))) hg
end
section
open Go.RowKit Go.Sort Go.Maps Go.WideMaps
theorem keyLaw:Keyed prog 9:=string_keyed underlying9
theorem Um_ {tot:Int} {ls:List Ln} (h:0<ls.length):lnErrAt tot ls 0=C2_ tot none ls[0]:=by
 unfold lnErrAt;rw[gq_ h];rfl
theorem Vs_ {tot:Int} {ls:List Ln} {m:Nat} (h:m+1<ls.length):lnErrAt tot ls (m+1)=C2_ tot (some ls[m]) ls[m+1]:=by
 unfold lnErrAt;rw[gq_ h];simp only[Kr_];rw[gq_ (show m<ls.length by omega)]
theorem Uo_ (r:Rep) (i:Nat) (w:World) (hR:RepRd w r) (hi:i<r.lines.length):Calls prog 61 #[repV r.win r.tot r.vl r.over r.trk r.rest r.vr,.int .i64 i] w (RetInt (lnErrAt r.tot r.lines i) w):=by
 cases i with
 | zero=>rw[Um_ hi];exact fj_ r w hR hi
 | succ m=>rw[Vs_ hi];exact ds_ r m w hR hi
theorem Eu_ {ls:List Ln} {k:Nat} (h:k<ls.length):keysN (ls.take (k+1))=keysN (ls.take k)++[ls[k].key.data.toList]:=by
 unfold keysN;rw[tg_ h,List.map_append];rfl
theorem gy_ {r:Rep} (h:r.win<0∨1099511627776<r.win∨9223372036854775808<r.tot∨r.tot<r.rest):repErr r=1:=by unfold repErr;rw[if_pos h]
theorem gx_ {r:Rep} (h1:¬(r.win<0∨1099511627776<r.win∨9223372036854775808<r.tot∨r.tot<r.rest)) (h:64<r.lines.length∨r.trk<r.lines.length∨768<r.trk):repErr r=7:=by unfold repErr;rw[if_neg h1,if_pos h]
def Fi_ (r:Rep):Int:=
 if Cc_ r.tot r.lines≠0 then Cc_ r.tot r.lines
 else if ¬(keysN r.lines).Nodup then 10
 else if 18446744073709551615<r.over+loSum r.lines∨r.over+loSum r.lines≠r.tot then 13
 else if r.rej.length≠7∨r.rej[0]?≠some 0 then 3
 else 0
theorem hs_ {r:Rep} (h1:¬(r.win<0∨1099511627776<r.win∨9223372036854775808<r.tot∨r.tot<r.rest)) (h2:¬(64<r.lines.length∨r.trk<r.lines.length∨768<r.trk)):repErr r=Fi_ r:=by unfold repErr;rw[if_neg h1,if_neg h2];rfl
theorem Kd_ {r:Rep} {j:Nat} (hj:j<r.lines.length) (h:∀i,i<j→lnErrAt r.tot r.lines i=0) (h2:lnErrAt r.tot r.lines j≠0):Fi_ r=lnErrAt r.tot r.lines j:=by
 have e:=Rc_ hj h h2;unfold Fi_;rw[e,if_pos h2]
def Fj_ (r:Rep):Int:=
 if 18446744073709551615<r.over+loSum r.lines∨r.over+loSum r.lines≠r.tot then 13
 else if r.rej.length≠7∨r.rej[0]?≠some 0 then 3
 else 0
theorem Xa_ {r:Rep} (h:∀i,i<r.lines.length→lnErrAt r.tot r.lines i=0) (h2:¬(keysN r.lines).Nodup):Fi_ r=10:=by
 unfold Fi_;rw[K1_ h,if_neg (by simp),if_pos h2]
theorem ci_ {r:Rep} (h:∀i,i<r.lines.length→lnErrAt r.tot r.lines i=0) (h2 :(keysN r.lines).Nodup):Fi_ r=Fj_ r:=by
 unfold Fi_;rw[K1_ h,if_neg (by simp),if_neg (by simpa using h2)];rfl
theorem Ux_ {r:Rep} (h:18446744073709551615<r.over+loSum r.lines∨r.over+loSum r.lines≠r.tot):Fj_ r=13:=by unfold Fj_;rw[if_pos h]
theorem cd_ {r:Rep} (h:¬(18446744073709551615<r.over+loSum r.lines∨r.over+loSum r.lines≠r.tot)) (h2:r.rej.length≠7∨r.rej[0]?≠some 0):Fj_ r=3:=by unfold Fj_;rw[if_neg h,if_pos h2]
theorem ca_ {r:Rep} (h:¬(18446744073709551615<r.over+loSum r.lines∨r.over+loSum r.lines≠r.tot)) (h2:¬(r.rej.length≠7∨r.rej[0]?≠some 0)):Fj_ r=0:=by unfold Fj_;rw[if_neg h,if_neg h2]
theorem Sp_ (r:Rep) (w:World) (hR:RepRd w r) (hW:RepW r):Calls prog 23 #[repV r.win r.tot r.vl r.over r.trk r.rest r.vr] w (RetInt (repErr r) w):=by
 have HR:=hh_ hR;have HW:=hh_ hW;obtain⟨la,lc,e1⟩:=hR.lines.shape;obtain⟨ra,rc,e2⟩:=hR.rej.shape;have hlm:=hR.lines.2.1;have hrm:=hR.rej.2.1;clear hR hW;rw[e1,e2];have E1:=hh_ e1;have E2:=hh_ e2;clear e1 e2;have hmm:=@run_makeMap prog
 by_cases p1:r.win<0∨1099511627776<r.win∨9223372036854775808<r.tot∨r.tot<r.rest
 ·have HE:=hh_ (gy_ p1)
  have hg:=hh_ (Ad_ (Ab_ w none) (.cells #[.int .i64 r.win,.int .u64 r.tot,.slice la r.lines.length lc,.int .u64 r.over,.int .i64 r.trk,.int .u64 r.rest,.slice ra r.rej.length rc] 26));generalize repErr r=q at *
  rcases p1 with h|h|h|h
  all_goals
   go_enter func23,ntmps23
   go_wp2_with fail
   all_goals
    go_ret
    exact Aj_ HE.out hg.out
 by_cases p2:64<r.lines.length∨r.trk<r.lines.length∨768<r.trk
 ·have HE:=hh_ (gx_ p1 p2)
  have hg:=hh_ (Ad_ (Ab_ w none) (.cells #[.int .i64 r.win,.int .u64 r.tot,.slice la r.lines.length lc,.int .u64 r.over,.int .i64 r.trk,.int .u64 r.rest,.slice ra r.rej.length rc] 26));generalize repErr r=q at *
  have q1:0≤r.win:=by omega
  have q2:r.win≤1099511627776:=by omega
  have q3:r.tot≤9223372036854775808:=by omega
  have q4:r.rest≤r.tot:=by omega
  clear p1
  rcases p2 with h|h|h
  ·have h' :(64:Int)<(r.lines.length:Int):=by omega
   go_enter func23,ntmps23
   go_wp2_with fail
   all_goals
    go_ret
    exact Aj_ HE.out hg.out
  all_goals
   go_enter func23,ntmps23
   go_wp2_with fail
   all_goals
    go_ret
    exact Aj_ HE.out hg.out
 have HE:=hh_ (hs_ p1 p2)
 have q1:0≤r.win:=by omega
 have q2:r.win≤1099511627776:=by omega
 have q3:r.tot≤9223372036854775808:=by omega
 have q4:r.rest≤r.tot:=by omega
 have q5 :(r.lines.length:Int)≤64:=by omega
 have q6 :(r.lines.length:Int)≤r.trk:=by omega
 have q7:r.trk≤768:=by omega
 clear p1 p2
 go_enter func23,ntmps23
 go_upto_region 5 with fail
 have B1:=Blk.new w #[.int .i64 r.win,.int .u64 r.tot,.slice la r.lines.length lc,.int .u64 r.over,.int .i64 r.trk,.int .u64 r.rest,.slice ra r.rej.length rc] 26;have G1:=Ad_ (Ab_ w none) (.cells #[.int .i64 r.win,.int .u64 r.tot,.slice la r.lines.length lc,.int .u64 r.over,.int .i64 r.trk,.int .u64 r.rest,.slice ra r.rej.length rc] 26);generalize w.alloc _=w1 at *;generalize w.heap.size=b at *
 have hn64:r.lines.length≤64:=by omega
 clear q1 q2 q3 q4 q5 q6 q7
 go_upto_region 6 with fail
 have M2:=World.ownsMap_made w1 prog 9 (plainElem (H:=Unit) prog 4);have B2:=B1.same (ga_ w1 (.map #[] 0) none);have G2:=Ad_ G1 (.map #[] 0)
 have hmb:w1.heap.size<(w1.alloc (.map #[] 0)).heap.size:=by simp
 have hmw:w.heap.size≤w1.heap.size:=G1.size;generalize w1.alloc _=w2 at *;have hbm:=B1.lt;generalize w1.heap.size=mb at *;clear B1 G1 hmm;have b2:=B2.cell
 go_wp2_with fail
 clear b2
 go_loopw [52] (fun s52 wk=>∃k:Nat,k≤r.lines.length∧s52=.int .i64 k∧(∀i,i<k→lnErrAt r.tot r.lines i=0)∧wk.ownsMap prog 9 (plainElem prog 4) mb k (setS (keysN (r.lines.take k)))∧w2.grownBy wk (some mb)) (fun s52 _=>r.lines.length-(RowKit.intOf s52).toNat)
 case atStart=>exact⟨0,zl_ _,rfl,by intro i h;omega,M2,Ab_ _ _⟩
 case round=>
  clear M2;obtain⟨k,hk,rfl,hall,hM,hg⟩:=hrel;have Hall:=hh_ hall;clear hall;have hgw:=Af_ G2 hg hmw;have B3:=B2.kept hg (by simp;omega);have RR:=HR.out.same hgw
  by_cases hlt:k<r.lines.length
  ·obtain⟨g,off,cap,hv,hgl,hc⟩:=RR.lines.at_ Ay_ hlt
   rw[E1.out] at hv;cases hv;have c0:=hc 0 _ rfl;have c1:=hc 1 _ rfl;have c2:=hc 2 _ rfl;rw[Nat.add_zero] at c0;have hsz:=(HW.out.lines _ (mg_ hlt)).key
   have hcl:=fun w' (h:World.grownBy wr w' none)=>Uo_ r k w' (RR.same h) hlt
   rw[E1.out,E2.out] at hcl;have Hcl:=hh_ hcl;have HS:=hh_ (Eu_ hlt);clear RR hc hcl
   have hq:=hh_ fun h=>Kd_ hlt Hall.out h
   generalize r.lines[k]=x at *;obtain⟨q,hqe⟩:∃q,lnErrAt r.tot r.lines k=q:=⟨_,rfl⟩;have Hqe:=hh_ hqe;rw[hqe] at Hcl hq;clear hqe
   go_upto_region 9 with fail
   have M3:=hM.alloc (.cells #[.string x.key,.int .u64 x.lo,.int .u64 x.hi] 46);have B4:=B3.same (ga_ wr (.cells #[.string x.key,.int .u64 x.lo,.int .u64 x.hi] 46) none);have A3:=Blk.new wr #[.string x.key,.int .u64 x.lo,.int .u64 x.hi] 46;have g3:wr.grownBy (wr.alloc (.cells #[.string x.key,.int .u64 x.lo,.int .u64 x.hi] 46)) none:=ga_ wr _ none;generalize wr.alloc _=w3 at *;generalize wr.heap.size=lb at *;clear c0 c1 c2 hM B3 B2;have b4:=B4.cell
   go_upto_region 10 with(go_at_call 61;refine(Hcl.out _ g3).mono ?_;rintro e w4 ⟨rfl,g4⟩)
   clear b4 B4;have M4:=M3.kept g4 (by simp);have A4:=(A3.same g4).cell;have K4:=Aa_ hg (Ak_ (Aa_ g3 g4) (some mb));have KW:=Aa_ hgw (Aa_ g3 g4)
   by_cases hq0:q=0
   ·subst hq0
    have hkey:=keyOf_string_mk underlying9 (s:=x.key) (by unfold maxLen;omega)
    have hkm:k<maxLen:=by unfold maxLen;omega
    go_wp2_with (at_mapUpdate;refine wpList_mapUpdate_own _ rfl _ _ _ 134 rfl 9 4 keyLaw underlying134 (plainElem (H:=Unit) prog 4) mb k _ rfl M4 hkm _ _ _ rfl rfl hkey _ [] (plainElem_bool underlying4 true) ?_;intro w5 M5 g5)
    exact⟨⟨k+1,by omega,by go_num,fun i hi=>by
     rcases Nat.lt_or_ge i k with h|h
     ·exact Hall.out i h
     ·obtain rfl:i=k:=by omega
      exact Hqe.out,by rw[HS.out,Uc_];exact M5,Aa_ K4 g5⟩,by simp[RowKit.intOf];omega⟩
   ·have hqb :(q != 0)=true:=by simp[hq0]
    have HQ:=hh_ (HE.out.trans (hq.out hq0))
    go_wp2_with fail
    go_ret
    exact Aj_ HQ.out KW
  ·have hke:r.lines.take k=r.lines:=tk_ (by omega)
   rw[hke] at hM
   obtain rfl:k=r.lines.length:=by omega
   clear hke hk;obtain⟨hs1,hs2⟩:=Xq_ (keysN r.lines)
   have hkl :(keysN r.lines).length=r.lines.length:=by simp[keysN]
   rw[hkl] at hs1 hs2
   have H10:=hh_ fun h=>HE.out.trans (Xa_ Hall.out h)
   have H4:=hh_ fun h=>HE.out.trans (ci_ Hall.out h)
   have HM:=hh_ hM;generalize setS (keysN r.lines)=D at *;generalize hsz:Maps.size D=sz at *;have b3:=B3.cell
   by_cases hnd :(keysN r.lines).Nodup
   ·have hse:=hs2.2 hnd
    have HX:=hh_ (H4.out hnd);clear H10 H4 hnd hs1 hs2
    have hne :((sz:Int) !=(r.lines.length:Int))=false:=by rw[hse];simp
    have Hsz:=hh_ hsz;clear hsz hse
    have hcl:=fun w' (h:World.grownBy wr w' none)=>hi_ _ r.lines w' (RdL.same RR.lines h) HW.out.lines
    rw[E1.out] at hcl
    have hT0:0≤loSum r.lines:=loSum_pos fun y hy=>(HW.out.lines y hy).lo.1
    obtain⟨ho0,ho1⟩:=HW.out.over;obtain⟨T,hT⟩:∃T,loSum r.lines=T:=⟨_,rfl⟩;rw[hT] at hcl hT0
    have H13:=hh_ fun h=>HX.out.trans (Ux_ (r:=r) (by rw[hT];exact h))
    have H3:=hh_ fun h h2=>HX.out.trans (cd_ (r:=r) (by rw[hT];exact h) h2)
    have H0:=hh_ fun h h2=>HX.out.trans (ca_ (r:=r) (by rw[hT];exact h) h2)
    clear hT HX
    by_cases hf:r.over+T≤18446744073709551615
    ·have f1:fitL T=true:=by unfold fitL;exact dt_ (by omega)
     have f2:satL T=T:=by unfold satL;rw[if_pos (by omega)]
     have f3:fitA T r.over=true:=by unfold fitA;exact dt_ (by omega)
     have f4:satA T r.over=T+r.over:=by unfold satA;rw[if_pos (by omega)]
     have hcl2:∀w',World.grownBy wr w' none→Calls prog 62 #[.slice la r.lines.length lc] w' fun e w''=>e=.returned (.tuple #[.int .u64 T,.bool true])∧w'.grownBy w'' none:=fun w' h=>(hcl w' h).mono fun e w'' ⟨he,hg⟩=>⟨by rw[he,f1,f2],hg⟩
     have had:∀w',Calls prog 28 #[.int .u64 T,.int .u64 r.over] w' fun e w''=>e=.returned (.tuple #[.int .u64 (T+r.over),.bool true])∧w'=w'':=fun w'=>(E2_ T r.over w' ⟨hT0,by omega⟩ ⟨ho0,ho1⟩).mono fun e w'' ⟨he,hg⟩=>⟨by rw[he,f3,f4],hg⟩
     have Hcl:=hh_ hcl2;have Had:=hh_ had;clear hcl hcl2 had f1 f2 f3 f4 HM
     by_cases ht:T+r.over=r.tot
     ·have htb :((T+r.over:Int) != r.tot)=false:=by rw[ht];simp
      have H3':=hh_ (H3.out (by omega));have H0':=hh_ (H0.out (by omega));clear H3 H0 H13 ht hf
      by_cases h7:r.rej.length=7
      ·obtain⟨g7,o7,c7,hv7,hg7,hc7⟩:=RdL.one Cs_ RR.rej (k:=0) (by omega)
       rw[E2.out] at hv7;cases hv7
       have h7b :((r.rej.length:Int) != 7)=false:=by rw[h7];rfl
       have h7c :(0:Int)<(r.rej.length:Int):=by omega
       rw[Nat.add_zero] at hc7;have H7:=hh_ h7;obtain⟨r0,hr0,hr1⟩:∃r0,r.rej[0]?=some r0∧wr.cell? ⟨g7,o7,none⟩=some (.int .u64 r0):=⟨r.rej[0],gq_ (by omega),hc7⟩;clear hc7;have hc7:=hr1;have Hr0:=hh_ hr0;clear hr0 hr1 h7
       have HC7:=hh_ fun w' (h:World.grownBy wr w' none)=>((Am_ h).1 g7 o7 hg7 (by simp)).trans hc7
       have HB3:=hh_ B3;clear hc7 B3
       by_cases hz:r0=0
       ·have HZ:=hh_ (H0'.out (by rw[Hr0.out,hz];have:=H7.out;simp;omega))
        rw[hz] at HC7;clear H3' H0' Hr0 hz H7
        go_upto_region 17 with(first
         |(at_len;refine wpList_len_own _ rfl _ 134 rfl 9 4 underlying134 _ mb r.lines.length D rfl hM ?_;rw[Hsz.out])
         |(go_at_call 62;refine(Hcl.out _ (Ab_ _ _)).mono ?_;rintro e w6 ⟨rfl,g6⟩;have b6:=(HB3.out.same g6).cell;have c6:=HC7.out _ g6;have K6:=Aa_ hgw g6))
        go_wp2_with (go_at_call 28;refine(Had.out _).mono ?_;rintro e w7 ⟨rfl,rfl⟩)
        go_ret
        exact Aj_ HZ.out K6
       ·have hzb :((r0:Int) != 0)=true:=by simp[hz]
        have HZ:=hh_ (H3'.out (.inr (by rw[Hr0.out];simp[hz])));clear H3' H0' Hr0 hz H7
        go_upto_region 17 with(first
         |(at_len;refine wpList_len_own _ rfl _ 134 rfl 9 4 underlying134 _ mb r.lines.length D rfl hM ?_;rw[Hsz.out])
         |(go_at_call 62;refine(Hcl.out _ (Ab_ _ _)).mono ?_;rintro e w6 ⟨rfl,g6⟩;have b6:=(HB3.out.same g6).cell;have c6:=HC7.out _ g6;have K6:=Aa_ hgw g6))
        go_wp2_with (go_at_call 28;refine(Had.out _).mono ?_;rintro e w7 ⟨rfl,rfl⟩)
        go_ret
        exact Aj_ HZ.out K6
      ·have h7b :((r.rej.length:Int) != 7)=true:=by simp;omega
       have HZ:=hh_ (H3'.out (.inl h7));clear H3' H0' h7;have HB3:=hh_ B3
       go_upto_region 17 with(first
        |(at_len;refine wpList_len_own _ rfl _ 134 rfl 9 4 underlying134 _ mb r.lines.length D rfl hM ?_;rw[Hsz.out])
        |(go_at_call 62;refine(Hcl.out _ (Ab_ _ _)).mono ?_;rintro e w6 ⟨rfl,g6⟩;have b6:=(HB3.out.same g6).cell;have K6:=Aa_ hgw g6))
       go_wp2_with (go_at_call 28;refine(Had.out _).mono ?_;rintro e w7 ⟨rfl,rfl⟩)
       go_ret
       exact Aj_ HZ.out K6
     ·have htb :((T+r.over:Int) != r.tot)=true:=by simp[ht]
      have HZ:=hh_ (H13.out (.inr (by omega)));clear H3 H0 H13 ht hf;have HB3:=hh_ B3
      go_upto_region 17 with(first
       |(at_len;refine wpList_len_own _ rfl _ 134 rfl 9 4 underlying134 _ mb r.lines.length D rfl hM ?_;rw[Hsz.out])
       |(go_at_call 62;refine(Hcl.out _ (Ab_ _ _)).mono ?_;rintro e w6 ⟨rfl,g6⟩;have b6:=(HB3.out.same g6).cell;have K6:=Aa_ hgw g6))
      go_wp2_with (go_at_call 28;refine(Had.out _).mono ?_;rintro e w7 ⟨rfl,rfl⟩)
      go_ret
      exact Aj_ HZ.out K6
    ·have HZ:=hh_ (H13.out (.inl (by omega)))
     have hW1:=Jr_ hT0;have hfa:=L1_ (n:=T) (x:=r.over) ho0
     have hfn:fitL (T+r.over)=false:=by unfold fitL;exact df_ (by omega)
     rw[hfn] at hfa;clear H3 H0 H13 HM hfn;have HB3:=hh_ B3
     have hcl2:∀w',World.grownBy wr w' none→Calls prog 62 #[.slice la r.lines.length lc] w' fun e w''=>e=.returned (.tuple #[.int .u64 (satL T),.bool (fitL T)])∧w'.grownBy w'' none:=hcl
     have Hcl:=hh_ hcl2;clear hcl hcl2 hf;generalize fitL T=f1 at *;generalize satL T=s1 at *
     have Had:=hh_ fun w'=>E2_ s1 r.over w' hW1 ⟨ho0,ho1⟩
     generalize fitA s1 r.over=f2 at *;generalize satA s1 r.over=s2 at *
     have hfe:f1=false∨f2=false:=by cases f1 <;> simp_all
     clear hfa
     rcases hfe with rfl|rfl
     ·go_upto_region 17 with(first
       |(at_len;refine wpList_len_own _ rfl _ 134 rfl 9 4 underlying134 _ mb r.lines.length D rfl hM ?_;rw[Hsz.out])
       |(go_at_call 62;refine(Hcl.out _ (Ab_ _ _)).mono ?_;rintro e w6 ⟨rfl,g6⟩;have b6:=(HB3.out.same g6).cell;have K6:=Aa_ hgw g6))
      go_wp2_with (go_at_call 28;refine(Had.out _).mono ?_;rintro e w7 ⟨rfl,rfl⟩)
      go_ret
      exact Aj_ HZ.out K6
     ·cases f1
      all_goals
       go_upto_region 17 with(first
        |(at_len;refine wpList_len_own _ rfl _ 134 rfl 9 4 underlying134 _ mb r.lines.length D rfl hM ?_;rw[Hsz.out])
        |(go_at_call 62;refine(Hcl.out _ (Ab_ _ _)).mono ?_;rintro e w6 ⟨rfl,g6⟩;have b6:=(HB3.out.same g6).cell;have K6:=Aa_ hgw g6))
       go_wp2_with (go_at_call 28;refine(Had.out _).mono ?_;rintro e w7 ⟨rfl,rfl⟩)
       go_ret
       exact Aj_ HZ.out K6
   ·have hne :((sz:Int) !=(r.lines.length:Int))=true:=by
     have:sz≠r.lines.length:=fun e=>hnd (hs2.1 e)
     simp;omega
    have HX:=hh_ (H10.out hnd);clear H10 H4 hnd hs1 hs2;have Hsz:=hh_ hsz;clear hsz
    go_wp2_with (at_len;refine wpList_len_own _ rfl _ 134 rfl 9 4 underlying134 _ mb r.lines.length D rfl hM ?_;rw[Hsz.out])
    go_ret
    exact Aj_ HX.out hgw
end
section
open Go.RowKit
theorem Gc_ :(prog.info? 26).map (·.size)=some 7:=by kernel_rfl
abbrev repA (win tot:Int) (vl:Value) (over trk rest:Int) (vr:Value):Array Value:=#[.int .i64 win,.int .u64 tot,vl,.int .u64 over,.int .i64 trk,.int .u64 rest,vr]
abbrev rep0:Array Value:=repA 0 0 (.slice none 0 0) 0 0 0 (.slice none 0 0)
theorem K0_ (w:World) :(Instr.alloc 26 true (.tuple #[])).run prog w=.ok (.pointer (some ⟨w.heap.size,0,none⟩)) (w.alloc (.cells rep0 26)):=by kernel_rfl
theorem Im_ {rest:List Oper} (hgd:o.guard=none) (ho:o.op=.alloc 26)
  (h:∀w',Blk w' w.heap.size rep0→w.grownBy w' none→w.heap.size<w'.heap.size→wpList prog ops Q rest (a.put o.dst (.pointer (some ⟨w.heap.size,0,none⟩))) w'):wpList prog ops Q (o::rest) a w:=
 wpList_plain hgd fun _ hK=>by
  unfold Oper.wp execOp;simp only[ho,K0_,Sem.run_bind,Sem.run_pure,Result.andThen_ok];exact hK _ _ (h _ (Blk.new w _ _) (ga_ w _ _) (by simp))
theorem A4_ {rest:List Oper} (hgd:o.guard=none) (x y:Operand) (ho:o.op=.store 26 x y)
  (b:Nat) (hx:a.eval x=.pointer (some ⟨b,0,none⟩)) {win tot over trk rst:Int} {vl vr:Value} (hy:a.eval y=repV win tot vl over trk rst vr) (h1:vl.oneCell'=true) (h2:vr.oneCell'=true) (c0:Array Value) (hs:c0.size=7) (hb:Blk w b c0)
  (h:∀w',Blk w' b (repA win tot vl over trk rst vr)→w.grownBy w' (some b)→wpList prog ops Q rest (a.put o.dst undef) w'):wpList prog ops Q (o::rest) a w:=by
 obtain⟨t,hbl⟩:=hb.blk;have hst:=run_storeCells_at prog b 0 t (repA win tot vl over trk rst vr).toList 0 c0 w hbl (by simp[hs]) (by intro v hv;simp at hv;rcases hv with rfl|rfl|rfl|rfl|rfl|rfl|rfl <;> first|rfl|assumption)
 have hz :(sizeOf 26).run prog w=.ok 7 w:=by
  have:=Gc_
  cases hq:prog.info? 26 with
  | none=>rw[hq] at this;simp at this
  | some i=>rw[hq] at this;simp[sizeOf,typeInfo,hq];simpa using this
 refine wpList_plain hgd fun _ hK=>?_
 unfold Oper.wp execOp;simp only[ho,hx,hy,Instr.storeAt,Instr.sureAddr,storeVar,Sem.run_bind,Sem.run_pure,Result.andThen_ok,hz];simp only[Value.cells,List.size_toArray,lc_,List.length_nil,Nat.reduceAdd,ne_eq,not_true_eq_false,if_false];rw[hst];refine hK _ _ (h _ ⟨t,?_⟩ ⟨rfl,rfl,rfl,by simp,fun k _ hk=>setRow_other w b k _ (fun e=>hk (by simp[e]))⟩);rw[setRow_heap w b c0 _ t _ hbl];obtain⟨l,rfl⟩:∃l:List Value,c0=l.toArray:=⟨c0.toList,by simp⟩
 match l,hs with
 | [_,_,_,_,_,_,_],_=>rfl
theorem A2_ {rest:List Oper} (hgd:o.guard=none) (x:Operand) (ho:o.op=.load 26 x)
  (b:Nat) (hx:a.eval x=.pointer (some ⟨b,0,none⟩)) {win tot over trk rst:Int} {vl vr:Value} (hb:Blk w b (repA win tot vl over trk rst vr)) (h:wpList prog ops Q rest (a.put o.dst (repV win tot vl over trk rst vr)) w):wpList prog ops Q (o::rest) a w:=by
 obtain⟨t,hbl⟩:=hb.blk;exact wpList_load_row hgd _ x ho b hx t _ _ _ hbl underlying26 rfl Gc_ h
end
section
open Go.RowKit Go.Sort
def byF (b:UInt8):List Value:=[.int .u8 b.toNat]
theorem Bv_ (b:UInt8) :(byF b).length=1:=rfl
theorem Tn_ (b:UInt8):byF b=[Value.int .u8 b.toNat]:=rfl
theorem D9_:OneF byF:=by intro x u hu;simp[byF] at hu;subst hu;rfl
theorem D6_:Elt 63 5 (.int .u8 0) 1 1:=⟨underlying63,by kernel_rfl,rfl,by decide⟩
def vb (n:Nat):List UInt8:=if n<128 then [UInt8.ofNat n] else UInt8.ofNat (n%128+128)::vb (n/128)
termination_by n
decreasing_by omega
theorem F3_ {n:Nat} (h:n<128):vb n=[UInt8.ofNat n]:=by rw[vb,if_pos h]
theorem c7_ {n:Nat} (h:¬n<128):vb n=UInt8.ofNat (n%128+128)::vb (n/128):=by rw[vb,if_neg h]
theorem c4_:∀(k n:Nat),n<128 ^ (k+1)→(vb n).length≤k+1
 | 0,n,h=>by rw[F3_ (by simpa using h)];simp
 | k+1,n,h=>by
  by_cases hn:n<128
  ·rw[F3_ hn];simp
  ·rw[c7_ hn,lc_]
   have:=c4_ k (n/128) (by rw[Nat.div_lt_iff_lt_mul (by omega)];rw[Nat.pow_succ] at h;exact h)
   omega
theorem Dq_ {n:Nat} (h:n<18446744073709551616) :(vb n).length≤10:=c4_ 9 n (Nat.lt_trans h (by decide))
theorem P4_ (n:Nat):IntKind.u8.wrap (n:Int) =((n%256:Nat):Int):=by
 have:=IntKind.wrap_u8 (n:Int)
 rw[this];omega
theorem g6_ {m:Nat} (h:m<256) :((UInt8.ofNat m).toNat:Int) =(m:Int):=by
 rw[UInt8.toNat_ofNat']
 omega
structure TagR where
 (name value:ByteArray)
def tagF (t:TagR):List Value:=[.string t.name,.string t.value]
theorem Au_ (t:TagR) :(tagF t).length=2:=rfl
theorem Dc_:OneF tagF:=by intro x u hu;simp[tagF] at hu;rcases hu with rfl|rfl <;> rfl
theorem Co_:Elt 54 53 (.agg #[.string ⟨#[]⟩,.string ⟨#[]⟩]) 2 32:=⟨underlying54,by kernel_rfl,rfl,by decide⟩
abbrev tagV (t:TagR):Value:=.agg #[.string t.name,.string t.value]
def nmB (t:TagR):List UInt8:=t.name.data.toList
def vlB (t:TagR):List UInt8:=t.value.data.toList
theorem J8_ (t:TagR) :(nmB t).length=t.name.size:=Array.length_toList
theorem Vf_ (t:TagR) :(vlB t).length=t.value.size:=Array.length_toList
def TagW (t:TagR):Prop:=t.name.size≤9223372036854775807∧t.value.size≤9223372036854775807
def letB (b:UInt8):Bool:=(decide (97≤b.toNat)&&decide (b.toNat≤122))||(decide (48≤b.toNat)&&decide (b.toNat≤57))||decide (b.toNat=95)||decide (b.toNat=46)||decide (b.toNat=45)
def tagE (t:TagR):Int:=if (nmB t).all letB=false then 3 else if t.name.size=0 then 3 else if 32<t.name.size∨64<t.value.size then 4 else 0
theorem Pg_ {t:TagR} (h:tagE t=0) :(nmB t).all letB=true∧0<t.name.size∧t.name.size≤32∧t.value.size≤64:=by
 unfold tagE at h
 by_cases h1 :(nmB t).all letB=false
 ·rw[if_pos h1] at h;cases h
 rw[if_neg h1] at h
 by_cases h2:t.name.size=0
 ·rw[if_pos h2] at h;cases h
 rw[if_neg h2] at h
 by_cases h3:32<t.name.size∨64<t.value.size
 ·rw[if_pos h3] at h;cases h
 exact⟨by simpa using h1,by omega,by omega,by omega⟩
def D5_:List TagR→Int
 | []=>0
 | t::l=>if tagE t≠0 then tagE t else D5_ l
theorem Re_ {l:List TagR} {j:Nat} (hj:j<l.length) (h:∀i (hi:i<l.length),i<j→tagE l[i]=0) (h2:tagE l[j]≠0):D5_ l=tagE l[j]:=by
 induction l generalizing j with
 | nil=>simp at hj
 | cons a l ih=>
  cases j with
  | zero=>simp only[List.getElem_cons_zero] at h2 ⊢;unfold D5_;rw[if_pos h2]
  | succ j=>
   have h0:=h 0 (by simp) (by omega);simp only[List.getElem_cons_zero] at h0;simp only[List.getElem_cons_succ] at h2 ⊢;unfold D5_;rw[if_neg (by omega)];exact ih (by simpa using hj) (fun i hi hij=>by have:=h (i+1) (by simpa using hi) (by omega);simpa using this) h2
theorem L2_ {l:List TagR} (h:∀t∈l,tagE t=0):D5_ l=0:=by
 induction l with
 | nil=>rfl
 | cons a l ih=>
  unfold D5_;rw[if_neg (by rw[h a (by simp)];simp)]
  exact ih fun o ho=>h o (List.mem_cons_of_mem _ ho)
theorem Tl_ {l:List TagR} (h:D5_ l=0):∀t∈l,tagE t=0:=by
 induction l with
 | nil=>simp
 | cons a l ih=>
  unfold D5_ at h
  by_cases h0:tagE a≠0
  ·rw[if_pos h0] at h;exact absurd h h0
  ·rw[if_neg h0] at h
   intro o ho
   rcases List.mem_cons.1 ho with rfl|ho
   ·omega
   ·exact ih h o ho
def lessT (L:List TagR) (x:TagR):Nat:=(L.takeWhile (fun y=>decide (nmB y<nmB x))).length
theorem Hi_ (L:List TagR) (k:TagR):lessT L k≤L.length:=List.Sublist.length_le (List.takeWhile_sublist _)
theorem Hh_ {L:List TagR} {k:TagR}:∀{i:Nat} (_:i<lessT L k) (h2:i<L.length),nmB L[i]<nmB k:=by
 induction L with
 | nil=>intro i h h2;simp at h2
 | cons a L ih=>
  intro i h h2
  by_cases ha:nmB a<nmB k
  ·cases i with
   | zero=>exact ha
   | succ i=>
    have:i<lessT L k:=by simp[lessT,ha] at h;simpa [lessT] using h
    simpa using ih this (by simpa using h2)
  ·simp[lessT,ha] at h
theorem Hn_ {L:List TagR} {k:TagR} (h:lessT L k<L.length):¬nmB L[lessT L k]<nmB k:=by
 induction L with
 | nil=>simp at h
 | cons a L ih=>
  by_cases ha:nmB a<nmB k
  ·have e:lessT (a::L) k=lessT L k+1:=by simp[lessT,ha]
   have:=ih (by rw[e] at h;simpa using h)
   simpa [e] using this
  ·have e:lessT (a::L) k=0:=by simp[lessT,ha]
   simpa [e] using ha
def insT (L:List TagR) (x:TagR):List TagR:=L.take (lessT L x)++[x]++L.drop (lessT L x)
def sortT (L:List TagR):List TagR:=L.foldl insT []
theorem Ep_ (L:List TagR) (x:TagR):sortT (L++[x])=insT (sortT L) x:=by simp[sortT]
theorem Yc_ (L:List TagR) (x:TagR) :(insT L x).length=L.length+1:=by
 have:=Hi_ L x
 unfold insT
 simp;omega
theorem a4_ (L:List TagR) (x y:TagR):y∈insT L x↔y∈L∨y=x:=by
 have e:L=L.take (lessT L x)++L.drop (lessT L x):=(List.take_append_drop _ _).symm;unfold insT;rw[List.mem_append,List.mem_append,List.mem_singleton]
 conv=>rhs;rw[e,List.mem_append]
 constructor
 ·rintro((h|h)|h)
  ·exact .inl (.inl h)
  ·exact .inr h
  ·exact .inl (.inr h)
 ·rintro((h|h)|h)
  ·exact .inl (.inl h)
  ·exact .inr h
  ·exact .inl (.inr h)
theorem Ci_ (L:List TagR) (y:TagR):y∈sortT L↔y∈L:=by
 have:∀(L a:List TagR),y∈L.foldl insT a↔y∈a∨y∈L:=by
  intro L
  induction L with
  | nil=>simp
  | cons x L ih=>intro a;rw[List.foldl_cons,ih,a4_,List.mem_cons,or_assoc]
 simpa [sortT] using this L []
theorem Eg_ (L:List TagR) :(sortT L).length=L.length:=by
 have:∀(l a:List TagR),(l.foldl insT a).length=a.length+l.length:=by
  intro l
  induction l with
  | nil=>simp
  | cons x l ih=>intro a;simp only[List.foldl_cons,ih,Yc_,lc_];omega
 simpa [sortT] using this L []
def AscT (L:List TagR):Prop:=L.Pairwise (fun x y=>nmB x<nmB y)
theorem Mq_ {a b:List UInt8} (h:¬a<b) (hne:a≠b):b<a:=by
 rcases Decidable.em (b<a) with h1|h1
 ·exact h1
 ·exact absurd (List.le_antisymm (List.not_lt.1 h1) (List.not_lt.1 h)) hne
theorem Yi_ {L:List TagR} {x:TagR} (h:AscT L) (hx:∀y∈L,nmB y≠nmB x):AscT (insT L x):=by
 have hle:=Hi_ L x;unfold AscT insT
 have hd:∀y∈L.drop (lessT L x),nmB x<nmB y:=by
  intro y hy;obtain⟨i,hi,rfl⟩:=List.getElem_of_mem hy;rw[List.length_drop] at hi;rw[List.getElem_drop];have h0:=Hn_ (L:=L) (k:=x) (by omega);have h1:nmB x<nmB L[lessT L x]:=Mq_ h0 (hx _ (mg_ _))
  rcases Nat.eq_zero_or_pos i with rfl|hp
  ·simpa using h1
  ·exact List.lt_trans h1 (List.pairwise_iff_getElem.1 h (lessT L x) (lessT L x+i) (by omega) (by omega) (by omega))
 have ht:∀y∈L.take (lessT L x),nmB y<nmB x:=by
  intro y hy;obtain⟨i,hi,rfl⟩:=List.getElem_of_mem hy;rw[lk_] at hi;rw[List.getElem_take];exact Hh_ (by omega) (by omega)
 rw[List.append_assoc,List.pairwise_append];refine⟨List.Pairwise.sublist (List.take_sublist _ _) h,?_,?_⟩
 ·rw[List.singleton_append,List.pairwise_cons]
  exact⟨hd,List.Pairwise.sublist (List.drop_sublist _ _) h⟩
 ·intro y hy z hz
  rw[List.singleton_append,List.mem_cons] at hz
  rcases hz with rfl|hz
  ·exact ht y hy
  ·exact List.lt_trans (ht y hy) (hd z hz)
def Dif (L:List TagR):Prop:=(L.map nmB).Nodup
theorem Dif.take {L:List TagR} (h:Dif L) (k:Nat):Dif (L.take k):=by
 unfold Dif at *;rw[List.map_take];exact List.Nodup.sublist (List.take_sublist _ _) h
theorem E7_ {L:List TagR} {x:TagR}:Dif (L++[x])↔Dif L∧∀y∈L,nmB y≠nmB x:=by
 unfold Dif;rw[List.map_append,List.map_singleton,List.nodup_append]
 constructor
 ·rintro⟨h1,_,h3⟩
  exact⟨h1,fun y hy e=>h3 _ (List.mem_map.2 ⟨y,hy,rfl⟩) _ (by simp) e⟩
 ·rintro⟨h1,h2⟩
  refine⟨h1,by simp,fun a ha b hb=>?_⟩;obtain⟨y,hy,rfl⟩:=List.mem_map.1 ha;rw[ms_ hb];exact h2 y hy
theorem Fo_:∀{L:List TagR},Dif L→AscT (sortT L):=by
 intro L h
 have key:∀k,k≤L.length→AscT (sortT (L.take k)):=by
  intro k
  induction k with
  | zero=>intro _;simp[sortT,AscT]
  | succ k ih=>
   intro hk;have h1:=ih (by omega);have h2:=h.take (k+1);rw[tg_ (by omega)] at h2 ⊢;rw[Ep_]
   exact Yi_ h1 fun y hy=>(E7_.1 h2).2 y ((Ci_ _ _).1 hy)
 have:=key L.length (le_ _)
 rwa [tk_ (le_ _)] at this
theorem Wj_ {S:List TagR} {x:TagR} (h:AscT S) :(∃y∈S,nmB y=nmB x)↔∃(hk:lessT S x<S.length),nmB S[lessT S x]=nmB x:=by
 constructor
 ·rintro⟨y,hy,e⟩
  obtain⟨i,hi,rfl⟩:=List.getElem_of_mem hy
  rcases Nat.lt_trichotomy i (lessT S x) with h1|h1|h1
  ·have:=Hh_ h1 hi
   rw[e] at this;exact absurd this (List.lt_irrefl _)
  ·subst h1;exact⟨hi,e⟩
  ·have h2:=List.pairwise_iff_getElem.1 h (lessT S x) i (by omega) hi h1
   have h3:=Hn_ (L:=S) (k:=x) (by omega);rw[e] at h2;exact absurd h2 h3
 ·rintro⟨hk,e⟩
  exact⟨_,mg_ hk,e⟩
instance (L:List TagR):Decidable (Dif L):=by unfold Dif;infer_instance
def sortE (L:List TagR):Int:=if L.length=0∨8<L.length then 5 else if D5_ L≠0 then D5_ L else if ¬Dif L then 5 else 0
theorem Fl_ {L:List TagR} (h:L.length=0∨8<L.length):sortE L=5:=if_pos h
theorem M5_ {L:List TagR} (h:¬(L.length=0∨8<L.length)) (h2:D5_ L≠0):sortE L=D5_ L:=by unfold sortE;rw[if_neg h,if_pos h2]
theorem M9_ {L:List TagR} (h:¬(L.length=0∨8<L.length)) (h2:D5_ L=0) (h3:¬Dif L):sortE L=5:=by unfold sortE;rw[if_neg h,if_neg (by omega),if_pos h3]
theorem Lg_ {L:List TagR} (h:¬(L.length=0∨8<L.length)) (h2:D5_ L=0) (h3:Dif L):sortE L=0:=by unfold sortE;rw[if_neg h,if_neg (by omega),if_neg (by simpa using h3)]
theorem L0_ {L:List TagR} (h:sortE L=0):0<L.length∧L.length≤8∧(∀t∈L,tagE t=0)∧Dif L:=by
 unfold sortE at h
 by_cases h1:L.length=0∨8<L.length
 ·rw[if_pos h1] at h;cases h
 rw[if_neg h1] at h
 by_cases h2:D5_ L≠0
 ·rw[if_pos h2] at h;exact absurd h h2
 rw[if_neg h2] at h
 by_cases h3:¬Dif L
 ·rw[if_pos h3] at h;cases h
 exact⟨by omega,by omega,Tl_ (Decidable.byContradiction h2),Decidable.byContradiction h3⟩
def tkB (t:TagR):List UInt8:=UInt8.ofNat t.name.size::nmB t++(UInt8.ofNat t.value.size::vlB t)
def kyB (L:List TagR):List UInt8:=L.flatMap tkB
theorem Ra_ (L:List TagR) (t:TagR):kyB (L++[t])=kyB L++tkB t:=by simp[kyB]
def keyE (L:List TagR):Int:=if sortE L≠0 then sortE L else if 255<(kyB (sortT L)).length then 4 else 0
def keyY (L:List TagR):ByteArray:=if keyE L=0 then ⟨(kyB (sortT L)).toArray⟩ else ⟨#[]⟩
theorem G7_ (L:List TagR) :(keyY L).size≤255:=by
 unfold keyY
 split
 case isTrue h=>
  unfold keyE at h
  by_cases h1:sortE L≠0
  ·rw[if_pos h1] at h;exact absurd h h1
  rw[if_neg h1] at h
  by_cases h2:255<(kyB (sortT L)).length
  ·rw[if_pos h2] at h;cases h
  ·simp[ByteArray.size];omega
 case isFalse h=>simp[ByteArray.size]
def letN (n:Nat):Bool:=(decide (97≤n)&&decide (n≤122))||(decide (48≤n)&&decide (n≤57))||decide (n=95)||decide (n=46)||decide (n=45)
theorem Or_ (n:Nat) (w:World):Calls prog 108 #[.int .u8 n] w fun e w'=>e=.returned (.bool (letN n))∧w=w':=by
 rcases(show(97≤n∧n≤122)∨(48≤n∧n≤57)∨n=95∨n=46∨n=45∨n<45∨n=47∨(58≤n∧n≤94)∨n=96∨123≤n by omega) with h|h|h|h|h|h|h|h|h|h
 ·obtain⟨h1,h2⟩:=h
  have i1 :(97:Int)≤(n:Int):=by omega
  have i2 :(n:Int)≤122:=by omega
  have HB:=hh_ (show letN n=true by simp[letN];omega)
  go_enter func108,ntmps108
  go_wp2_with fail
  go_ret
  exact⟨by rw[HB.out];rfl,rfl⟩
 ·obtain⟨h1,h2⟩:=h
  have i1 :(48:Int)≤(n:Int):=by omega
  have i2 :(n:Int)≤57:=by omega
  have HB:=hh_ (show letN n=true by simp[letN];omega)
  go_enter func108,ntmps108
  go_wp2_with fail
  go_ret
  exact⟨by rw[HB.out];rfl,rfl⟩
 ·subst h
  have HB:=hh_ (show letN 95=true from rfl);rw[show(((95:Nat):Nat):Int) =(95:Int) from rfl]
  go_enter func108,ntmps108
  go_wp2_with fail
  go_ret
  exact⟨by rw[HB.out];rfl,rfl⟩
 ·subst h
  have HB:=hh_ (show letN 46=true from rfl);rw[show(((46:Nat):Nat):Int) =(46:Int) from rfl]
  go_enter func108,ntmps108
  go_wp2_with fail
  go_ret
  exact⟨by rw[HB.out];rfl,rfl⟩
 ·subst h
  have HB:=hh_ (show letN 45=true from rfl);rw[show(((45:Nat):Nat):Int) =(45:Int) from rfl]
  go_enter func108,ntmps108
  go_wp2_with fail
  go_ret
  exact⟨by rw[HB.out];rfl,rfl⟩
 ·have i1 :(n:Int)<45:=by omega
  have HB:=hh_ (show letN n=false by simp[letN];omega);have f1 :((n:Int)==95)=false:=bf_ (by omega);have f2 :((n:Int)==46)=false:=bf_ (by omega);have f3 :((n:Int)==45)=false:=bf_ (by omega)
  go_enter func108,ntmps108
  go_wp2_with fail
  go_ret
  exact⟨by rw[HB.out];rfl,rfl⟩
 ·subst h
  have HB:=hh_ (show letN 47=false from rfl);rw[show(((47:Nat):Nat):Int) =(47:Int) from rfl]
  go_enter func108,ntmps108
  go_wp2_with fail
  go_ret
  exact⟨by rw[HB.out];rfl,rfl⟩
 ·obtain⟨h1,h2⟩:=h
  have i1 :(58:Int)≤(n:Int):=by omega
  have i2 :(n:Int)≤94:=by omega
  have i3:decide ((n:Int)≤57)=false:=df_ (by omega);have HB:=hh_ (show letN n=false by simp[letN];omega);have f1 :((n:Int)==95)=false:=bf_ (by omega);have f2 :((n:Int)==46)=false:=bf_ (by omega);have f3 :((n:Int)==45)=false:=bf_ (by omega)
  go_enter func108,ntmps108
  go_wp2_with fail
  go_ret
  exact⟨by rw[HB.out];rfl,rfl⟩
 ·subst h
  have HB:=hh_ (show letN 96=false from rfl);rw[show(((96:Nat):Nat):Int) =(96:Int) from rfl]
  go_enter func108,ntmps108
  go_wp2_with fail
  go_ret
  exact⟨by rw[HB.out];rfl,rfl⟩
 ·have i1 :(123:Int)≤(n:Int):=by omega
  have i3:decide ((n:Int)≤57)=false:=df_ (by omega);have i4:decide ((n:Int)≤122)=false:=df_ (by omega);have HB:=hh_ (show letN n=false by simp[letN];omega);have f1 :((n:Int)==95)=false:=bf_ (by omega);have f2 :((n:Int)==46)=false:=bf_ (by omega);have f3 :((n:Int)==45)=false:=bf_ (by omega)
  go_enter func108,ntmps108
  go_wp2_with fail
  go_ret
  exact⟨by rw[HB.out];rfl,rfl⟩
theorem X9_ (b:UInt8) (w:World):Calls prog 108 #[.int .u8 b.toNat] w fun e w'=>e=.returned (.bool (letB b))∧w=w':=Or_ b.toNat w
theorem Q4_ {q:List UInt8} (h:∀i (hi:i<q.length),letB q[i]=true):q.all letB=true:=by
 rw[List.all_eq_true];intro x hx;obtain⟨i,hi,rfl⟩:=List.getElem_of_mem hx;exact h i hi
theorem I6_ {q:List UInt8} {i:Nat} (hi:i<q.length) (h:letB q[i]=false):q.all letB=false:=by
 rw[List.all_eq_false];exact⟨_,mg_ hi,by simp[h]⟩
theorem hm_ (t:TagR) (w:World) (hW:TagW t):Calls prog 73 #[tagV t] w (RetInt (tagE t) w):=by
 obtain⟨hn,hv⟩:=hW;have HN:=hh_ (J8_ t);have HX:=hh_ (show tagE t=if (nmB t).all letB=false then 3 else if t.name.size=0 then 3 else if 32<t.name.size∨64<t.value.size then 4 else 0 from rfl);have HQ:=hh_ (show nmB t=t.name.data.toList from rfl);generalize tagE t=E at *;generalize nmB t=q at *;obtain⟨y,v⟩:=t;dsimp only at *;have B1:=Blk.new w #[.string y,.string v] 53;have G1:=Ad_ (Ab_ w none) (.cells #[.string y,.string v] 53)
 go_enter func73,ntmps73
 go_upto_region 1 with fail
 generalize w.alloc _=w1 at *;generalize w.heap.size=b at *;have b1:=B1.cell
 go_wp2_with fail
 go_loopw [3] (fun s3 wk=>∃i:Nat,i≤q.length∧s3=.int .i64 i∧(∀j (hj:j<q.length),j<i→letB q[j]=true)∧w1=wk) (fun s3 _=>q.length-(RowKit.intOf s3).toNat)
 case atStart=>exact⟨0,zl_ _,rfl,by intro j hj h;omega,rfl⟩
 case round=>
  obtain⟨i,hi,rfl,hall,rfl⟩:=hrel;have Hall:=hh_ hall;have hql:=HN.out;clear hall
  by_cases hlt:i<q.length
  ·have hi1 :(i:Int)<(y.size:Int):=by omega
   have hi2:i<y.size:=by omega
   have hx:q[i]=y[i]'hi2:=by
    have:q[i]?=some (y[i]'hi2):=by
     rw[HQ.out]
     show y.data.toList[i]?=_
     rw[Array.getElem?_toList,Array.getElem?_eq_getElem (by exact hi2)];rfl
    rw[gq_ hlt] at this;exact Option.some.inj this
   have HF:=hh_ (show letB q[i]=false→E=3 from fun h=>by rw[HX.out,if_pos (I6_ hlt h)])
   have HS:=hh_ (show letB q[i]=true→∀j (hj:j<q.length),j<i+1→letB q[j]=true from fun h j hj hji=>by
    rcases Nat.lt_or_ge j i with h1|h1
    ·exact Hall.out j hj h1
    ·obtain rfl:j=i:=by omega
     exact h)
   rw[hx] at HF HS
   have C:=hh_ fun w'=>X9_ (y[i]'hi2) w'
   have hi0 :(0:Int)≤(i:Int):=by omega
   clear hx Hall;cases hb:letB (y[i]'hi2)
   ·rw[hb] at C
    have HF2:=hh_ (HF.out hb);clear hb
    go_wp2_with (go_at_call 108;refine(C.out _).mono ?_;rintro e w' ⟨rfl,rfl⟩)
    go_ret
    exact Aj_ HF2.out G1
   ·rw[hb] at C
    have HS2:=hh_ (HS.out hb);clear hb
    go_wp2_with (go_at_call 108;refine(C.out _).mono ?_;rintro e w' ⟨rfl,rfl⟩)
    exact⟨⟨i+1,by omega,by go_num,HS2.out,by trivial⟩,by simp[RowKit.intOf];omega⟩
  ·have hi1:¬(i:Int)<(y.size:Int):=by omega
   have HA:=hh_ (show ¬q.all letB=false by rw[Q4_ fun j hj=>Hall.out j hj (by omega)];simp)
   by_cases h0:y.size=0
   ·have HF:=hh_ (show E=3 by rw[HX.out,if_neg HA.out,if_pos h0])
    obtain rfl:y =⟨#[]⟩:=by
     obtain⟨⟨l⟩⟩:=y
     have:l=[]:=by simpa [ByteArray.size] using h0
     rw[this]
    clear h0
    go_wp2_with fail
    go_ret
    exact Aj_ HF.out G1
   ·have hne:y.toList.isEmpty=false:=by
     rw[ByteArray.toList_eq];obtain⟨⟨l⟩⟩:=y
     cases l with
     | nil=>exact absurd rfl h0
     | cons a l=>rfl
    have HF:=hh_ (show E=if 32<y.size∨64<v.size then 4 else 0 by rw[HX.out,if_neg HA.out,if_neg h0]);clear h0 HX
    by_cases h1:32<y.size
    ·have j1 :(32:Int)<(y.size:Int):=by omega
     have HF2:=hh_ (HF.out.trans (if_pos (.inl h1)));clear HF h1
     go_wp2_with fail
     go_ret
     exact Aj_ HF2.out G1
    ·have j1 :(y.size:Int)≤32:=by omega
     by_cases h2:64<v.size
     ·have j2 :(64:Int)<(v.size:Int):=by omega
      have HF2:=hh_ (HF.out.trans (if_pos (.inr h2)));clear HF h1 h2
      go_wp2_with fail
      go_ret
      exact Aj_ HF2.out G1
     ·have j2 :(v.size:Int)≤64:=by omega
      have HF2:=hh_ (HF.out.trans (if_neg (fun h=>h.elim h1 h2)));clear HF h1 h2
      go_wp2_with fail
      go_ret
      exact Aj_ HF2.out G1
theorem Xs_ (n:Nat) (w:World):Calls prog 170 #[.int .u8 n] w fun e w'=>e=.returned (.bool (letN n))∧w=w':=by
 rcases(show(97≤n∧n≤122)∨(48≤n∧n≤57)∨n=95∨n=46∨n=45∨n<45∨n=47∨(58≤n∧n≤94)∨n=96∨123≤n by omega) with h|h|h|h|h|h|h|h|h|h
 ·obtain⟨h1,h2⟩:=h
  have i1 :(97:Int)≤(n:Int):=by omega
  have i2 :(n:Int)≤122:=by omega
  have HB:=hh_ (show letN n=true by simp[letN];omega)
  go_enter func170,ntmps170
  go_wp2_with fail
  go_ret
  exact⟨by rw[HB.out];rfl,rfl⟩
 ·obtain⟨h1,h2⟩:=h
  have i1 :(48:Int)≤(n:Int):=by omega
  have i2 :(n:Int)≤57:=by omega
  have HB:=hh_ (show letN n=true by simp[letN];omega)
  go_enter func170,ntmps170
  go_wp2_with fail
  go_ret
  exact⟨by rw[HB.out];rfl,rfl⟩
 ·subst h
  have HB:=hh_ (show letN 95=true from rfl);rw[show(((95:Nat):Nat):Int) =(95:Int) from rfl]
  go_enter func170,ntmps170
  go_wp2_with fail
  go_ret
  exact⟨by rw[HB.out];rfl,rfl⟩
 ·subst h
  have HB:=hh_ (show letN 46=true from rfl);rw[show(((46:Nat):Nat):Int) =(46:Int) from rfl]
  go_enter func170,ntmps170
  go_wp2_with fail
  go_ret
  exact⟨by rw[HB.out];rfl,rfl⟩
 ·subst h
  have HB:=hh_ (show letN 45=true from rfl);rw[show(((45:Nat):Nat):Int) =(45:Int) from rfl]
  go_enter func170,ntmps170
  go_wp2_with fail
  go_ret
  exact⟨by rw[HB.out];rfl,rfl⟩
 ·have i1 :(n:Int)<45:=by omega
  have HB:=hh_ (show letN n=false by simp[letN];omega);have f1 :((n:Int)==95)=false:=bf_ (by omega);have f2 :((n:Int)==46)=false:=bf_ (by omega);have f3 :((n:Int)==45)=false:=bf_ (by omega)
  go_enter func170,ntmps170
  go_wp2_with fail
  go_ret
  exact⟨by rw[HB.out];rfl,rfl⟩
 ·subst h
  have HB:=hh_ (show letN 47=false from rfl);rw[show(((47:Nat):Nat):Int) =(47:Int) from rfl]
  go_enter func170,ntmps170
  go_wp2_with fail
  go_ret
  exact⟨by rw[HB.out];rfl,rfl⟩
 ·obtain⟨h1,h2⟩:=h
  have i1 :(58:Int)≤(n:Int):=by omega
  have i2 :(n:Int)≤94:=by omega
  have i3:decide ((n:Int)≤57)=false:=df_ (by omega);have HB:=hh_ (show letN n=false by simp[letN];omega);have f1 :((n:Int)==95)=false:=bf_ (by omega);have f2 :((n:Int)==46)=false:=bf_ (by omega);have f3 :((n:Int)==45)=false:=bf_ (by omega)
  go_enter func170,ntmps170
  go_wp2_with fail
  go_ret
  exact⟨by rw[HB.out];rfl,rfl⟩
 ·subst h
  have HB:=hh_ (show letN 96=false from rfl);rw[show(((96:Nat):Nat):Int) =(96:Int) from rfl]
  go_enter func170,ntmps170
  go_wp2_with fail
  go_ret
  exact⟨by rw[HB.out];rfl,rfl⟩
 ·have i1 :(123:Int)≤(n:Int):=by omega
  have i3:decide ((n:Int)≤57)=false:=df_ (by omega);have i4:decide ((n:Int)≤122)=false:=df_ (by omega);have HB:=hh_ (show letN n=false by simp[letN];omega);have f1 :((n:Int)==95)=false:=bf_ (by omega);have f2 :((n:Int)==46)=false:=bf_ (by omega);have f3 :((n:Int)==45)=false:=bf_ (by omega)
  go_enter func170,ntmps170
  go_wp2_with fail
  go_ret
  exact⟨by rw[HB.out];rfl,rfl⟩
theorem Yy_ (b:UInt8) (w:World):Calls prog 170 #[.int .u8 b.toNat] w fun e w'=>e=.returned (.bool (letB b))∧w=w':=Xs_ b.toNat w
theorem Y6_ (t:TagR) (w:World) (hW:TagW t):Calls prog 131 #[tagV t] w (RetInt (tagE t) w):=by
 obtain⟨hn,hv⟩:=hW;have HN:=hh_ (J8_ t);have HX:=hh_ (show tagE t=if (nmB t).all letB=false then 3 else if t.name.size=0 then 3 else if 32<t.name.size∨64<t.value.size then 4 else 0 from rfl);have HQ:=hh_ (show nmB t=t.name.data.toList from rfl);generalize tagE t=E at *;generalize nmB t=q at *;obtain⟨y,v⟩:=t;dsimp only at *;have B1:=Blk.new w #[.string y,.string v] 53;have G1:=Ad_ (Ab_ w none) (.cells #[.string y,.string v] 53)
 go_enter func131,ntmps131
 go_upto_region 1 with fail
 generalize w.alloc _=w1 at *;generalize w.heap.size=b at *;have b1:=B1.cell
 by_cases h0:y.size=0
 ·have HF:=hh_ (show E=3 by
   rw[HX.out,if_pos h0]
   split <;> rfl)
  obtain rfl:y =⟨#[]⟩:=by
   obtain⟨⟨l⟩⟩:=y
   have:l=[]:=by simpa [ByteArray.size] using h0
   rw[this]
  clear h0
  go_wp2_with fail
  go_ret
  exact Aj_ HF.out G1
 have hne:y.toList.isEmpty=false:=by
  rw[ByteArray.toList_eq];obtain⟨⟨l⟩⟩:=y
  cases l with
  | nil=>exact absurd rfl h0
  | cons a l=>rfl
 go_upto_region 4 with fail
 go_loopw [10] (fun s10 wk=>∃i:Nat,i≤q.length∧s10=.int .i64 i∧(∀j (hj:j<q.length),j<i→letB q[j]=true)∧w1=wk) (fun s10 _=>q.length-(RowKit.intOf s10).toNat)
 case atStart=>exact⟨0,zl_ _,rfl,by intro j hj h;omega,rfl⟩
 case round=>
  obtain⟨i,hi,rfl,hall,rfl⟩:=hrel;have Hall:=hh_ hall;have hql:=HN.out;clear hall
  by_cases hlt:i<q.length
  ·have hi1 :(i:Int)<(y.size:Int):=by omega
   have hi2:i<y.size:=by omega
   have hx:q[i]=y[i]'hi2:=by
    have:q[i]?=some (y[i]'hi2):=by
     rw[HQ.out]
     show y.data.toList[i]?=_
     rw[Array.getElem?_toList,Array.getElem?_eq_getElem (by exact hi2)];rfl
    rw[gq_ hlt] at this;exact Option.some.inj this
   have HF:=hh_ (show letB q[i]=false→E=3 from fun h=>by rw[HX.out,if_pos (I6_ hlt h)])
   have HS:=hh_ (show letB q[i]=true→∀j (hj:j<q.length),j<i+1→letB q[j]=true from fun h j hj hji=>by
    rcases Nat.lt_or_ge j i with h1|h1
    ·exact Hall.out j hj h1
    ·obtain rfl:j=i:=by omega
     exact h)
   rw[hx] at HF HS
   have C:=hh_ fun w'=>Yy_ (y[i]'hi2) w'
   have hi0 :(0:Int)≤(i:Int):=by omega
   clear hx Hall;cases hb:letB (y[i]'hi2)
   ·rw[hb] at C
    have HF2:=hh_ (HF.out hb);clear hb
    go_wp2_with (go_at_call 170;refine(C.out _).mono ?_;rintro e w' ⟨rfl,rfl⟩)
    go_ret
    exact Aj_ HF2.out G1
   ·rw[hb] at C
    have HS2:=hh_ (HS.out hb);clear hb
    go_wp2_with (go_at_call 170;refine(C.out _).mono ?_;rintro e w' ⟨rfl,rfl⟩)
    exact⟨⟨i+1,by omega,by go_num,HS2.out,by trivial⟩,by simp[RowKit.intOf];omega⟩
  ·have hi1:¬(i:Int)<(y.size:Int):=by omega
   have HA:=hh_ (show ¬q.all letB=false by rw[Q4_ fun j hj=>Hall.out j hj (by omega)];simp);have HF:=hh_ (show E=if 32<y.size∨64<v.size then 4 else 0 by rw[HX.out,if_neg HA.out,if_neg h0]);clear h0 HX
   by_cases h1:32<y.size
   ·have j1 :(32:Int)<(y.size:Int):=by omega
    have HF2:=hh_ (HF.out.trans (if_pos (.inl h1)));clear HF h1
    go_wp2_with fail
    go_ret
    exact Aj_ HF2.out G1
   ·have j1 :(y.size:Int)≤32:=by omega
    by_cases h2:64<v.size
    ·have j2 :(64:Int)<(v.size:Int):=by omega
     have HF2:=hh_ (HF.out.trans (if_pos (.inr h2)));clear HF h1 h2
     go_wp2_with fail
     go_ret
     exact Aj_ HF2.out G1
    ·have j2 :(v.size:Int)≤64:=by omega
     have HF2:=hh_ (HF.out.trans (if_neg (fun h=>h.elim h1 h2)));clear HF h1 h2
     go_wp2_with fail
     go_ret
     exact Aj_ HF2.out G1
end
section
open Go.RowKit
def cutF:List UInt8→Option (List UInt8×List UInt8)
 | []=>none
 | b::r=>if r.length<b.toNat then none else some (r.take b.toNat,r.drop b.toNat)
theorem Wi_ {l a r:List UInt8} (h:cutF l=some (a,r)):r.length<l.length:=by
 cases l with
 | nil=>cases h
 | cons b q=>
  simp only[cutF] at h
  by_cases hb:q.length<b.toNat
  ·rw[if_pos hb] at h;cases h
  ·rw[if_neg hb] at h
   obtain⟨rfl,rfl⟩:=by simpa using h
   simp;omega
theorem Zf_ {l a r:List UInt8} (h:cutF l=some (a,r)):∃b:UInt8,l=b::(a++r)∧a.length=b.toNat:=by
 cases l with
 | nil=>cases h
 | cons b q=>
  simp only[cutF] at h
  by_cases hb:q.length<b.toNat
  ·rw[if_pos hb] at h;cases h
  ·rw[if_neg hb] at h
   obtain⟨rfl,rfl⟩:=by simpa using h
   exact⟨b,by rw[List.take_append_drop],by simp;omega⟩
def cut2 (l:List UInt8):Option (TagR×List UInt8):=match cutF l with
 | none=>none
 | some (a,r)=>match cutF r with
  | none=>none
  | some (b,s)=>some (⟨⟨a.toArray⟩,⟨b.toArray⟩⟩,s)
theorem ek_ {l:List UInt8} {t:TagR} {s:List UInt8} (h:cut2 l=some (t,s)):s.length<l.length:=by
 unfold cut2 at h
 split at h
 ·cases h
 ·rename_i a r h1
  split at h
  ·cases h
  ·rename_i b s' h2
   cases h;exact Nat.lt_trans (Wi_ h2) (Wi_ h1)
def splitP (l:List UInt8):Option (List TagR):=
 if l=[] then some [] else match _h:cut2 l with
  | none=>none
  | some (t,s)=>(splitP s).map (t::·)
termination_by l.length
decreasing_by exact ek_ _h
theorem Gl_:splitP []=some []:=by rw[splitP];rfl
theorem T3_ {l:List UInt8} (h:l≠[]) (h2:cut2 l=none):splitP l=none:=by
 rw[splitP,if_neg h]
 split
 ·rfl
 ·rename_i h3;rw[h2] at h3;cases h3
theorem Gv_ {l s:List UInt8} {t:TagR} (h:l≠[]) (h2:cut2 l=some (t,s)):splitP l =(splitP s).map (t::·):=by
 rw[splitP,if_neg h]
 split
 ·rename_i h3;rw[h2] at h3;cases h3
 ·rename_i t' s' h3
  rw[h2] at h3;cases h3;rfl
def El_ (L:List TagR) (r:List UInt8):Option (List TagR):=(splitP r).map (L++·)
theorem Kc_ (L:List TagR):El_ L []=some L:=by simp[El_,Gl_]
theorem Rt_ (l:List UInt8):El_ [] l=splitP l:=by simp[El_]
theorem Fw_ {L:List TagR} {l:List UInt8} (h:l≠[]) (h2:cut2 l=none):El_ L l=none:=by unfold El_;rw[T3_ h h2];rfl
theorem Kb_ {L:List TagR} {l s:List UInt8} {t:TagR} (h:l≠[]) (h2:cut2 l=some (t,s)):El_ L l=El_ (L++[t]) s:=by
 unfold El_;rw[Gv_ h h2];cases splitP s <;> simp
def splitE (k:ByteArray):Int:=if 255<k.size then 4 else match splitP k.data.toList with
 | none=>3
 | some L=>if keyE L≠0∨keyY L≠k then 3 else 0
def splitL (k:ByteArray):List TagR:=if splitE k=0 then (splitP k.data.toList).getD [] else []
theorem H0_ (h:255<k.size):splitE k=4:=if_pos h
theorem Gd_ (h:¬255<k.size) (h2:splitP k.data.toList=none):splitE k=3:=by unfold splitE;rw[if_neg h,h2]
theorem Ez_ {L:List TagR} (h:¬255<k.size) (h2:splitP k.data.toList=some L) (h3:keyE L≠0∨keyY L≠k):splitE k=3:=by unfold splitE;rw[if_neg h,h2];simp only;rw[if_pos h3]
theorem F1_ {L:List TagR} (h:¬255<k.size) (h2:splitP k.data.toList=some L) (h3:keyE L=0) (h4:keyY L=k):splitE k=0∧splitL k=L:=by
 have e:splitE k=0:=by unfold splitE;rw[if_neg h,h2];simp only;rw[if_neg (by simp[h3,h4])]
 exact⟨e,by unfold splitL;rw[if_pos e,h2];rfl⟩
end
section
open Go.RowKit Go.Sort
def CutP (l:List UInt8) (w:World) (e:Ending) (w':World):Prop:=
 w.grownBy w' none∧match cutF l with
  | none=>e=.returned (.tuple #[.string ⟨#[]⟩,.string ⟨#[]⟩,.bool false])
  | some (a,r)=>e=.returned (.tuple #[.string ⟨a.toArray⟩,.string ⟨r.toArray⟩,.bool true])
theorem Mc_ {l:List UInt8} (h:cutF l=none):CutP l w (.returned (.tuple #[.string ⟨#[]⟩,.string ⟨#[]⟩,.bool false])) w:=⟨Ab_ _ _,by rw[h]⟩
theorem Ru_ {l a r:List UInt8} (h:cutF l=some (a,r)) (hg:w.grownBy w' none):CutP l w (.returned (.tuple #[.string ⟨a.toArray⟩,.string ⟨r.toArray⟩,.bool true])) w':=⟨hg,by rw[h]⟩
theorem Rq_ (b:UInt8) (q:List UInt8) (n:Nat) :(⟨⟨b::q⟩⟩:ByteArray).extract 1 (1+n) =⟨(q.take n).toArray⟩:=by
 apply ByteArray.ext
 rw[ByteArray.data_extract]
 apply Array.ext'
 simp
theorem Rp_ (b:UInt8) (q:List UInt8) (n:Nat) :(⟨⟨b::q⟩⟩:ByteArray).extract (1+n) (q.length+1) =⟨(q.drop n).toArray⟩:=by
 apply ByteArray.ext
 rw[ByteArray.data_extract]
 apply Array.ext'
 simp[Nat.add_comm 1 n]
 exact tk_ (by simp)
theorem hp_ (k:ByteArray) (w:World) (hk:k.size≤1000000):Calls prog 64 #[.string k] w (CutP k.data.toList w):=by
 obtain⟨⟨l⟩⟩:=k
 cases l with
 | nil=>
  go_enter func64,ntmps64
  go_wp2_with fail
  go_ret3
  exact Mc_ rfl
 | cons b q=>
  have hs :(⟨(b::q).toArray⟩:ByteArray).size=q.length+1:=by simp[ByteArray.size]
  have hne :(⟨(b::q).toArray⟩:ByteArray).toList.isEmpty=false:=by rw[ByteArray.toList_eq];rfl
  have hq:q.length≤1000000:=by have :(⟨(b::q).toArray⟩:ByteArray).size≤1000000:=hk;omega
  have hw1:wrap64 (q.length:Int) =(q.length:Int):=by unfold wrap64;omega
  have hbb:=b.toNat_lt
  have hw2:wrap64 (b.toNat:Int) =(b.toNat:Int):=by unfold wrap64;omega
  have hw3:wrap64 (1+(b.toNat:Int))=1+(b.toNat:Int):=by unfold wrap64;omega
  have hx:∀h,(⟨⟨b::q⟩⟩:ByteArray)[0]'h=b:=fun _=>rfl
  by_cases hb:q.length<b.toNat
  ·have hb2 :(q.length:Int)<(b.toNat:Int):=by omega
   have hb3 :((⟨(b::q).toArray⟩:ByteArray).size:Int)-1<(b.toNat:Int):=by rw[hs];omega
   go_enter func64,ntmps64
   go_wp2_with fail
   go_ret3
   exact Mc_ (by simp only[cutF];rw[if_pos hb])
  ·have hb2:¬(q.length:Int)<(b.toNat:Int):=by omega
   have hb3:¬((⟨(b::q).toArray⟩:ByteArray).size:Int)-1<(b.toNat:Int):=by rw[hs];omega
   go_enter func64,ntmps64
   go_upto_region 4 with fail
   have i1 :(0:Int)≤1+(b.toNat:Int):=by omega
   have i2 :(1:Int)≤1+(b.toNat:Int):=by omega
   have i3:1+(b.toNat:Int)≤(q.length:Int)+1:=by omega
   have i4 :(1:Int)≤(q.length:Int)+1:=by omega
   go_quiet (fail)
   go_wp2_with fail
   go_ret3
   rw[Rq_,Rp_];exact Ru_ (by simp only[cutF];rw[if_neg hb]) (Ae_ (Ab_ w none) nq)
theorem Y9_ (v:Value) (l:List TagR) (w:World) (h:RdL tagF 2 w v l) (hl:l.length≤1000000):Calls prog 132 #[v] w (RetOwn tagF 2 53 l w):=by
 obtain⟨a,c,rfl⟩:=h.shape;have H:=hh_ h
 have hb1:l.length*32≤140737488355328:=by omega
 have hb2:l.length≤9223372036854775807:=by omega
 cases a with
 | none=>
  have hn:l=[]:=by
   rcases h.2.2 with⟨h0,_⟩ |⟨g,off,cap,hv,_⟩
   ·exact List.length_eq_zero_iff.1 h0
   ·cases hv
  subst hn
  have hq:=fun w=>Lib.run_eql_slice_nil (P:=prog) w _ _ none 0 c 0 0 (Co_).ht
  simp only[List.length_nil]
  go_enter func132,ntmps132
  go_wp2
  go_ret
  exact⟨_,rfl,Own.nil _ _ _ _ _,Ab_ _ _⟩
 | some ad=>
  clear h
  have hq:=fun w=>Lib.run_eql_slice_nil (P:=prog) w _ _ (some ad) l.length c 0 0 (Co_).ht
  go_enter func132,ntmps132
  go_upto_region 3 with fail
  have N:=A0_ (e:=53) tagF 2 (le_ w.heap.size);have R:=H.out.same (ga_ w (.cells #[] 53) none)
  go_wp2_with (at_builtin;refine A5_ Co_ Dc_ N R rfl hb1 hb2 (by simp) ?_;intro v4 w4 o4 g4 l4)
  go_ret
  exact⟨_,rfl,o4,Aa_ (ga_ w _ none) g4⟩
def cmpT (x y:TagR):Int:=Lib.compareBytes x.name.data.toList y.name.data.toList
theorem Ud_ (x y:TagR) (w:World):Calls prog 134 #[tagV x,tagV y] w (RetInt (cmpT x y) w):=by
 have hc:=hh_ fun w'=>Tryz.strings_Compare x.name y.name w'
 have HX:=hh_ (show cmpT x y=Lib.compareBytes x.name.data.toList y.name.data.toList from rfl);generalize cmpT x y=z at *;generalize Lib.compareBytes x.name.data.toList y.name.data.toList=r at *;have HG:=hh_ (fun w' h=>Aa_ (Ad_ (Ad_ (Ab_ w none) (.cells #[.string x.name,.string x.value] 53)) (.cells #[.string y.name,.string y.value] 53)) h:∀w',World.grownBy ((w.alloc (.cells #[.string x.name,.string x.value] 53)).alloc (.cells #[.string y.name,.string y.value] 53)) w' none→w.grownBy w' none)
 go_enter func134,ntmps134
 go_wp2_with (go_at_call 135;refine(hc.out _).mono ?_;rintro e w1 ⟨rfl,g1⟩)
 go_ret
 exact Aj_ HX.out (HG.out _ (Ab_ _ _))
theorem c2_:∀a b:List UInt8,Lib.compareBytes a b<0↔a<b
 | [],[]=>by simp[Lib.compareBytes]
 | [],_::_=>by simp[Lib.compareBytes]
 | _::_,[]=>by simp[Lib.compareBytes]
 | a::r,b::bs=>by
  rw[List.cons_lt_cons_iff];unfold Lib.compareBytes
  by_cases h1:a<b
  ·simp[h1]
  ·rw[if_neg h1]
   by_cases h2:b<a
   ·rw[if_pos h2]
    refine⟨fun h=>absurd h (by omega),?_⟩;rintro(h |⟨rfl,_⟩)
    ·exact absurd h h1
    ·exact absurd h2 h1
   ·rw[if_neg h2,c2_ r bs]
    have e:a=b:=UInt8.le_antisymm (UInt8.not_lt.1 h2) (UInt8.not_lt.1 h1);exact⟨fun h=>.inr ⟨e,h⟩,fun h=>h.elim (fun h=>absurd h h1) fun h=>h.2⟩
def befT (x y:TagR):Bool:=decide (nmB x<nmB y)
theorem ae_ (x y:TagR):decide (cmpT x y<0)=befT x y:=by
 unfold cmpT befT;rw[Bool.eq_iff_iff];simp only[decide_eq_true_eq];exact c2_ _ _
def insKT (x:TagR) (L:List TagR):Nat→Nat
 | 0=>0
 | k+1=>if ((L[k]?).map (befT x)).getD false then insKT x L k else k+1
theorem Ga_ (x:TagR) (L:List TagR):∀k,insKT x L k≤k
 | 0=>le_ _
 | k+1=>by
  unfold insKT
  split
  ·exact Nat.le_succ_of_le (Ga_ x L k)
  ·exact le_ _
def Fr_ (L:List TagR) (x:TagR):List TagR:=L.take (insKT x L L.length)++[x]++L.drop (insKT x L L.length)
theorem V8_ (L:List TagR) (x:TagR) :(Fr_ L x).length=L.length+1:=by
 have:=Ga_ x L L.length
 unfold Fr_
 simp;omega
def sortS (l:List TagR):List TagR:=l.foldl Fr_ []
theorem Kg_ (l:List TagR) (x:TagR):sortS (l++[x])=Fr_ (sortS l) x:=by simp[sortS]
theorem M3_ (l:List TagR) :(sortS l).length=l.length:=by
 have:∀(l a:List TagR),(l.foldl Fr_ a).length=a.length+l.length:=by
  intro l
  induction l with
  | nil=>simp
  | cons x l ih=>intro a;simp only[List.foldl_cons,ih,V8_,lc_];omega
 simpa [sortS] using this l []
theorem Dw_ (x:TagR) (L:List TagR):∀{k j:Nat} (_:insKT x L k≤j) (_:j<k) (h:j<L.length),nmB x<nmB L[j]
 | 0,_,_,h2,_=>absurd h2 (by omega)
 | k+1,j,h1,h2,h3=>by
  unfold insKT at h1
  by_cases hc :((L[k]?).map (befT x)).getD false=true
  ·rw[if_pos hc] at h1
   by_cases hj:j<k
   ·exact Dw_ x L h1 hj h3
   ·obtain rfl:j=k:=by omega
    rw[gq_ h3] at hc
    simpa [befT] using hc
  ·rw[if_neg hc] at h1;omega
theorem Dv_ (x:TagR) (L:List TagR):∀{k j:Nat} (_:insKT x L k=j+1) (h:j<L.length),¬nmB x<nmB L[j]
 | 0,_,h1,_=>absurd h1 (by simp[insKT])
 | k+1,j,h1,h3=>by
  unfold insKT at h1
  by_cases hc :((L[k]?).map (befT x)).getD false=true
  ·rw[if_pos hc] at h1
   exact Dv_ x L h1 h3
  ·rw[if_neg hc] at h1
   obtain rfl:k=j:=by omega
   rw[gq_ h3] at hc
   simpa [befT] using hc
theorem an_ {L:List TagR} {x:TagR} {p:Nat} (hp:p≤L.length) (h1:∀j (hj:j<L.length),j<p→nmB L[j]<nmB x) (h2:∀(hj:p<L.length),¬nmB L[p]<nmB x):lessT L x=p:=by
 rcases Nat.lt_trichotomy (lessT L x) p with h|h|h
 ·exact absurd (h1 _ (by omega) h) (Hn_ (L:=L) (k:=x) (by omega))
 ·exact h
 ·have:=Hi_ L x
  exact absurd (Hh_ h (by omega)) (h2 (by omega))
theorem ao_ {L:List TagR} {x:TagR} (h:AscT L) (hx:∀y∈L,nmB y≠nmB x):Fr_ L x=insT L x:=by
 have hle:=Ga_ x L L.length
 have e:lessT L x=insKT x L L.length:=by
  refine an_ hle (fun j hj hjp=>?_) (fun hj=>?_)
  ·have h1:=Dv_ x L (k:=L.length) (j:=insKT x L L.length-1) (by omega) (by omega)
   have h2:nmB L[insKT x L L.length-1]<nmB x:=Mq_ h1 fun e=>hx _ (mg_ _) e.symm
   by_cases hjj:j=insKT x L L.length-1
   ·subst hjj;exact h2
   ·exact List.lt_trans (List.pairwise_iff_getElem.1 h j (insKT x L L.length-1) hj (by omega) (by omega)) h2
  ·exact fun h3=>List.lt_irrefl _ (List.lt_trans h3 (Dw_ x L (k:=L.length) (le_ _) hj hj))
 unfold Fr_ insT;rw[e]
def AdjEq (S:List TagR):Prop:=∃i,∃h:i+1<S.length,nmB S[i]=nmB S[i+1]
theorem Wg_ {L:List TagR} {x:TagR} {p i:Nat} (hp:p≤L.length) (hi:i<p) :(L.take p++[x]++L.drop p)[i]?=L[i]?:=by
 have e :(L.take p).length=p:=by simp;omega
 rw[List.append_assoc,List.getElem?_append_left (by omega),List.getElem?_take,if_pos hi]
theorem f4_ {L:List TagR} {x:TagR} {p:Nat} (hp:p≤L.length) :(L.take p++[x]++L.drop p)[p]?=some x:=by
 have e :(L.take p).length=p:=by simp;omega
 rw[List.append_assoc,List.getElem?_append_right (by omega),e];simp
theorem cq_ {L:List TagR} {x:TagR} {p i:Nat} (hp:p≤L.length) (hi:p≤i) :(L.take p++[x]++L.drop p)[i+1]?=L[i]?:=by
 have e :(L.take p).length=p:=by simp;omega
 rw[List.append_assoc,List.getElem?_append_right (by omega),e,show i+1-p =(i-p)+1 by omega,List.singleton_append,List.getElem?_cons_succ,List.getElem?_drop,show p+(i-p)=i by omega]
theorem Vc_ {S:List TagR} {i:Nat} {x y:TagR} (h1:S[i]?=some x) (h2:S[i+1]?=some y) (h:nmB x=nmB y):AdjEq S:=by
 obtain⟨a,rfl⟩:=gs_ h1;obtain⟨b,rfl⟩:=gs_ h2;exact⟨i,b,h⟩
theorem dx_ {L:List TagR} {x:TagR} (h:AdjEq L):AdjEq (Fr_ L x):=by
 obtain⟨i,hi,e⟩:=h;have hle:=Ga_ x L L.length;unfold Fr_
 by_cases h1:insKT x L L.length≤i
 ·refine Vc_ (i:=i+1) (x:=L[i]) (y:=L[i+1]) ?_ ?_ e
  ·rw[cq_ hle h1,gq_]
  ·rw[cq_ hle (by omega),gq_]
 ·by_cases h2:i+1<insKT x L L.length
  ·refine Vc_ (i:=i) (x:=L[i]) (y:=L[i+1]) ?_ ?_ e
   ·rw[Wg_ hle (by omega),gq_]
   ·rw[Wg_ hle h2,gq_]
  ·have h3:insKT x L L.length=i+1:=by omega
   have h4:=Dv_ x L h3 (by omega);have h5:=Dw_ x L (k:=L.length) (j:=i+1) (by omega) hi hi;rw[←e] at h5;exact absurd h5 h4
theorem dg_ {L:List TagR} {x y:TagR} (h:AscT L) (hy:y∈L) (e:nmB y=nmB x):AdjEq (Fr_ L x):=by
 obtain⟨i,hi,rfl⟩:=List.getElem_of_mem hy;have hle:=Ga_ x L L.length
 have h1:i<insKT x L L.length:=by
  refine Nat.lt_of_not_le fun h1=>?_
  have:=Dw_ x L (k:=L.length) h1 hi hi
  rw[e] at this;exact List.lt_irrefl _ this
 have h2:¬i+1<insKT x L L.length:=fun h2=>by
  have h3:=Dv_ x L (k:=L.length) (j:=insKT x L L.length-1) (by omega) (by omega);have h4:=List.pairwise_iff_getElem.1 h i (insKT x L L.length-1) hi (by omega) (by omega);rw[e] at h4;exact h3 h4
 unfold Fr_;refine Vc_ (i:=i) (x:=L[i]) (y:=x) ?_ ?_ e
 ·rw[Wg_ hle h1,gq_]
 ·rw[show i+1=insKT x L L.length by omega];exact f4_ hle
theorem Zd_:∀(l:List TagR),(Dif l→sortS l=sortT l)∧(¬Dif l→AdjEq (sortS l)):=by
 intro l
 have key:∀k,k≤l.length→(Dif (l.take k)→sortS (l.take k)=sortT (l.take k))∧(¬Dif (l.take k)→AdjEq (sortS (l.take k))):=by
  intro k
  induction k with
  | zero=>intro _;exact⟨fun _=>by simp[sortS,sortT],fun h=>absurd (by simp[Dif]) h⟩
  | succ k ih=>
   intro hk;obtain⟨i1,i2⟩:=ih (by omega);rw[tg_ (by omega),Kg_,Ep_]
   by_cases hd:Dif (l.take k)
   ·rw[i1 hd]
    have ha:=Fo_ hd
    constructor
    ·intro h
     exact ao_ ha fun y hy=>(E7_.1 h).2 y ((Ci_ _ _).1 hy)
    ·intro h
     have:∃y∈l.take k,nmB y=nmB l[k]:=by
      refine Decidable.byContradiction fun hn=>h (E7_.2 ⟨hd,fun y hy e=>hn ⟨y,hy,e⟩⟩)
     obtain⟨y,hy,e⟩:=this;exact dg_ ha ((Ci_ _ _).2 hy) e
   ·exact⟨fun h=>absurd (E7_.1 h).1 hd,fun _=>dx_ (i2 hd)⟩
 have:=key l.length (le_ _)
 rwa [tk_ (le_ _)] at this
theorem S0_ {S:List TagR} (h:AscT S):¬AdjEq S:=by
 rintro⟨i,hi,e⟩
 have:=List.pairwise_iff_getElem.1 h i (i+1) (by omega) hi (by omega)
 rw[e] at this;exact List.lt_irrefl _ this
theorem e2_ (S R:List TagR) (x:TagR) {j:Nat} (hj:j≤S.length) :(S.take j++[x]++S.drop j++R)[j]?=some x:=by
 have e :(S.take j).length=j:=by simp;omega
 rw[List.append_assoc,List.append_assoc,List.getElem?_append_right (by omega),e];simp
theorem Pf_ (S R:List TagR) (x:TagR) {j k:Nat} (hj:j≤S.length) (hk:k<j) :(S.take j++[x]++S.drop j++R)[k]?=S[k]?:=by
 have e :(S.take j).length=j:=by simp;omega
 rw[List.append_assoc,List.append_assoc,List.getElem?_append_left (by omega),List.getElem?_take,if_pos hk]
theorem Ri_ (S R:List TagR) (x:TagR) (j:Nat) :(S.take j++[x]++S.drop j++R).length=S.length+1+R.length:=by
 simp;omega
theorem Xu_ (S R:List TagR) (x:TagR) {j:Nat} (hj:j+1≤S.length) :((S.take (j+1)++[x]++S.drop (j+1)++R).set (j+1) S[j]).set j x=S.take j++[x]++S.drop j++R:=by
 have e1 :(S.take (j+1)).length=j+1:=by simp;omega
 have e2 :(S.take j).length=j:=by simp;omega
 have e3:S.take (j+1)=S.take j++[S[j]]:=tg_ (by omega);have e4:S.drop j=S[j]::S.drop (j+1):=List.drop_eq_getElem_cons (by omega);rw[List.append_assoc,List.append_assoc,List.set_append_right _ _ (by omega),e1,Nat.sub_self,e3];simp only[List.cons_append,List.nil_append,List.set_cons_zero,List.append_assoc];rw[List.set_append_right _ _ (by omega),e2,Nat.sub_self];simp only[List.set_cons_zero];rw[e4,List.cons_append]
theorem Own.storeT2 {B:Nat} {g n cap:Nat} {l:List TagR} (h:Own tagF 2 53 B w (.slice (some ⟨g,0,none⟩) n cap) l) {i:Nat} (hi:i<l.length) (y:TagR) :
  Own tagF 2 53 B ((w.setCell ⟨g,i*2,none⟩ (.string y.name)).setCell ⟨g,i*2+1,none⟩ (.string y.value)) (.slice (some ⟨g,0,none⟩) n cap) (l.set i y) ∧
   w.grownBy ((w.setCell ⟨g,i*2,none⟩ (.string y.name)).setCell ⟨g,i*2+1,none⟩ (.string y.value)) (some g):=by
 have h1:=h.stored Au_ hi (show 0<2 by omega) (.string y.name) ⟨y.name,l[i].value⟩ rfl;have h2:=h1.1.stored Au_ (i:=i) (by simpa using hi) (show 1<2 by omega) (.string y.value) y (by simp[tagF]);refine⟨?_,Aa_ h1.2 h2.2⟩
 have:=h2.1
 rw[List.set_set] at this
 simpa using this
abbrev P1_:Value:=.func (Fn.func 134) #[] #[]
theorem Pm_ (l:List TagR):sortS (l.take 1)++l.drop 1=l:=by
 cases l with
 | nil=>rfl
 | cons x l=>simp[sortS,Fr_,insKT]
theorem bp_ (B:Nat) (a:Option Addr) (c:Nat) (l:List TagR) (w:World) (h:Own tagF 2 53 B w (.slice a l.length c) l) (hl:l.length≤1000000) :
  Calls prog 189 #[.slice a l.length c,.int .i64 0,.int .i64 l.length,P1_] w fun e w'=>
   e=.returned (.tuple #[])∧Own tagF 2 53 B w' (.slice a l.length c) (sortS l)∧w.grownBy w' (Value.ownBlock (.slice a l.length c)):=by
 have hm:=h.len;have H:=hh_ h
 have hll :(l.length:Int)≤1000000:=by omega
 clear h;generalize hV :(Value.slice a l.length c).ownBlock=rb;have HV:=hh_ hV;clear hV
 go_enter func189,ntmps189
 go_wp2_with fail
 go_loopw [8,9,18,19] (fun s8 _ _ _ wk=>∃(i:Nat),1≤i∧s8=.int .i64 i∧Own tagF 2 53 B wk (.slice a l.length c) (sortS (l.take i)++l.drop i)∧w.grownBy wk rb) (fun s8 _ _ _ _=>l.length+1-(RowKit.intOf s8).toNat)
 case atStart=>exact⟨1,by omega,rfl,by rw[Pm_];exact H.out,Ab_ _ _⟩
 case round=>
  obtain⟨i,hi,rfl,hO,hg⟩:=hrel
  by_cases hil:i<l.length
  ·have hdr:l.drop i=l[i]::l.drop (i+1):=List.drop_eq_getElem_cons hil
   have HS:=hh_ (show Fr_ (sortS (l.take i)) l[i]=sortS (l.take (i+1)) by rw[tg_ hil,Kg_])
   have hSl :(sortS (l.take i)).length=i:=by rw[M3_,lk_];omega
   have hO2:Own tagF 2 53 B wr (.slice a l.length c) ((sortS (l.take i)).take i++[l[i]]++(sortS (l.take i)).drop i++l.drop (i+1)):=by
    rw[tk_ (by omega),List.drop_of_length_le (by omega),List.append_nil,List.append_assoc];rw[hdr] at hO;exact hO
   have hRl :(l.drop (i+1)).length=l.length-(i+1):=by simp
   have HO:=hh_ hO2;clear hO hO2 hdr;generalize sortS (l.take i)=S at *;obtain⟨R,hR⟩:∃R,l.drop (i+1)=R:=⟨_,rfl⟩;have HR:=hh_ hR;rw[hR] at hRl HO;clear hR;generalize l[i]=x at *;subst hSl;have HK:=hh_ (show Fr_ S x=S.take (insKT x S S.length)++[x]++S.drop (insKT x S S.length) from rfl);obtain⟨P,hP⟩:∃P,insKT x S S.length=P:=⟨_,rfl⟩;have Hst:=hh_ hP;rw[hP] at HK;clear hP;have HRl:=hh_ hRl;clear hRl
   go_wp2_with fail
   go_loopw [9,18,19] (fun s9 _ _ wk=>∃j:Nat,j≤S.length∧s9=.int .i64 j∧insKT x S j=P∧Own tagF 2 53 B wk (.slice a l.length c) (S.take j++[x]++S.drop j++R)∧w.grownBy wk rb) (fun s9 _ _ _=>(RowKit.intOf s9).toNat)
   case atStart=>exact⟨S.length,le_ _,rfl,Hst.out,HO.out,hg⟩
   case round=>
    clear HO hg;obtain⟨j,hj,rfl,hik,hO,hg⟩:=hrel;have Hik:=hh_ hik;clear hik;have hML:=Ri_ S R x j;have hmj:=e2_ S R x hj;obtain⟨gv,cv,hv,hBg,hgv,hcv,hcx,hfz⟩:=hO.at_ Au_ (i:=j) (by omega)
    obtain⟨rfl,-,rfl⟩:a=some ⟨gv,0,none⟩∧l.length =(S.take j++[x]++S.drop j++R).length∧c=cv:=by simpa only[Value.slice.injEq] using hv
    clear hv
    have ex :(S.take j++[x]++S.drop j++R)[j]'(by omega)=x:=by
     have:=gq_ (l:=S.take j++[x]++S.drop j++R) (i:=j) (by omega)
     rw[hmj] at this;exact(Option.some.inj this).symm
    rw[ex] at hcx;have c0:=hcx 0 _ rfl;have c1:=hcx 1 _ rfl;rw[Nat.add_zero] at c0;clear hcx hmj ex
    by_cases hj0:0<j
    ·have hd:decide ((0:Int)<(j:Int))=true:=dt_ (by omega)
     obtain⟨k,hk⟩:∃k,j=k+1:=⟨j-1,by omega⟩
     have hkS:k<S.length:=by omega
     have hmk:=Pf_ S R x hj (k:=k) (by omega);rw[gq_ hkS] at hmk;obtain⟨gv',cv',hv',-,-,-,hcy,-⟩:=hO.at_ Au_ (i:=k) (by omega)
     obtain⟨hg',-,-⟩:some ⟨gv,0,none⟩=some (⟨gv',0,none⟩:Addr)∧l.length =(S.take j++[x]++S.drop j++R).length∧c=cv':=by simpa only[Value.slice.injEq] using hv'
     cases hg';clear hv'
     have ey :(S.take j++[x]++S.drop j++R)[k]'(by omega)=S[k]:=by
      have:=gq_ (l:=S.take j++[x]++S.drop j++R) (i:=k) (by omega)
      rw[hmk] at this;exact(Option.some.inj this).symm
     rw[ey] at hcy;have d0:=hcy 0 _ rfl;have d1:=hcy 1 _ rfl;rw[Nat.add_zero] at d0;clear hcy hmk ey;have hst:=hh_ (show insKT x S j=if befT x S[k] then insKT x S k else j by rw[hk,insKT,gq_ hkS];rfl);have hms:=hh_ (Xu_ S R x (j:=k) (by omega));generalize S[k]=y at *;have hcn:=ae_ x y
     have hjl :(j:Int)<(l.length:Int):=by omega
     have hkl :(k:Int)<(l.length:Int):=by omega
     have hk0 :(0:Int)≤(k:Int):=by omega
     have hs1:IntKind.i64.wrap ((j:Int)-1) =(k:Int):=by rw[IntWalk.i64_in _ (by omega)];omega
     have hs4 :(j:Int)-1 =(k:Int):=by omega
     have r0:=cell_regrown c0;have r1:=cell_regrown c1;have p0:=cell_regrown d0;have p1:=cell_regrown d1
     have r4:=Bn_ (w:=wr) fun w' hg=>Ud_ x y w'
     have HC:=hh_ fun w' (h:World.grownBy wr w' none)=>And.intro (((Am_ h).1 gv _ hgv (by simp)).trans c0) (And.intro (((Am_ h).1 gv _ hgv (by simp)).trans c1) (And.intro (((Am_ h).1 gv _ hgv (by simp)).trans d0) (((Am_ h).1 gv _ hgv (by simp)).trans d1)))
     have HFz:=hh_ fun w' (h:World.grownBy wr w' none) o=>((Am_ h).2 gv o hgv (by simp)).trans (hfz o)
     have Hk:=hh_ hk;have HML:=hh_ hML;clear hk hML hfz c0 c1 d0 d1;generalize cmpT x y=q at *;generalize befT x y=bb at *
     go_wp2_with fail
     (refine Tail.wp_region_tail_grown 17 (by kernel_rfl) (by kernel_rfl) ?_;simp only[List.take,List.drop];(repeat(go_big_quiet_step (with_reducible exact r4 _ _)));refine wn_ ?_;rintro _ ⟨⟨d5,os5⟩,rfl⟩)
     have K3:=Aa_ hg (Ak_ (A3_ wr d5 os5) rb);have O3:=hO.same (A3_ wr d5 os5);have G3:=A3_ wr d5 os5;generalize grow (redrawn wr d5) os5=w3 at *;clear r0 r1 p0 p1 r4 hs1;cases bb
     ·have Hst2:=hh_ (hst.out.trans (if_neg (by simp)))
      clear hst
      go_wp2_with fail
      exact⟨⟨S.length+1,by omega,by go_num,by rw[←HS.out,HK.out,←Hik.out,Hst2.out,HR.out];exact O3,K3⟩,by simp[RowKit.intOf];omega⟩
     ·have Hst2:=hh_ (hst.out.trans (if_pos rfl))
      clear hst
      go_wp2_with fail
      have Gd:wr.grownBy w3.drew none:=Aa_ G3 gw_
      (refine rz_ 14 #[false,false,true,true,true,false,false,false,false,false,false,false,false,false] (fun _ _ _ _ _=>False) ?_;simp only[ts_])
      (refine tq_ 9 ?_;(repeat(go_big_quiet_step (fail)));refine wn_ ?_)
      (refine to_ ?_;intro y9 my9 dy9)
      clear dy9;obtain⟨_,_,d0,d1⟩:=HC.out y9 (Aa_ Gd my9)
      go_wp2_with fail
      refine⟨Ab_ _ _,?_⟩;clear d0 d1
      (refine tq_ 3 ?_;(repeat(go_big_quiet_step (fail)));refine wn_ ?_)
      (refine to_ ?_;intro y13 my13 dy13)
      clear dy13;obtain⟨c0,c1,_,_⟩:=HC.out y13 (Aa_ Gd my13)
      go_wp2_with fail
      refine⟨Ab_ _ _,?_⟩;clear c0 c1
      (refine Rg.tree_nil ?_;intro z mz dz cz)
      clear dz cz;have hfz:=HFz.out z (Aa_ Gd mz);obtain⟨c0,c1,d0,d1⟩:=HC.out z (Aa_ Gd mz)
      have n0:¬(k*2=j*2):=by have:=Hk.out;omega
      have n1:¬(j*2=k*2):=by have:=Hk.out;omega
      have n2:¬(k*2=j*2+1):=by have:=Hk.out;omega
      have n3:¬(j*2+1=k*2):=by have:=Hk.out;omega
      have n4:¬(k*2+1=j*2):=by have:=Hk.out;omega
      have n5:¬(j*2=k*2+1):=by have:=Hk.out;omega
      have n6:¬(k*2+1=j*2+1):=by have:=Hk.out;omega
      have n7:¬(j*2+1=k*2+1):=by have:=Hk.out;omega
      go_wp2_with fail
      obtain rfl:=Hk.out;have Oz:=O3.same (Aa_ (show World.grownBy w3 w3.drew none from gw_) mz)
      have hlt1:k+1<(S.take (k+1)++[x]++S.drop (k+1)++R).length:=by rw[Ri_];omega
      have s1:=Oz.storeT2 hlt1 y;have s2:=s1.1.storeT2 (i:=k) (by rw[List.length_set];omega) x;have hrb:some gv=rb:=HV.out;have s3:=s2.1;rw[hms.out] at s3;exact⟨⟨k,by omega,rfl,by rw[←Hik.out,Hst2.out],s3,Aa_ K3 (Aa_ (Ak_ (Aa_ (show World.grownBy w3 w3.drew none from gw_) mz) rb) (hrb▸Aa_ s1.2 s2.2))⟩,by simp[RowKit.intOf]⟩
    ·obtain rfl:j=0:=by omega
     have hd:decide ((0:Int)<((0:Nat):Int))=false:=rfl;clear c0 c1
     go_wp2_with fail
     go_quiet (fail)
     go_wp2_with fail
     have hik2:P=0:=by rw[←Hik.out];rfl
     exact⟨⟨S.length+1,by omega,by go_num,by rw[←HS.out,HK.out,HR.out,hik2];exact hO.same (Ae_ (Ab_ _ _) _),Ae_ hg _⟩,by simp[RowKit.intOf];omega⟩
  ·have e1:sortS (l.take i)++l.drop i=sortS l:=by rw[tk_ (by omega),List.drop_of_length_le (by omega),List.append_nil]
   rw[e1] at hO
   go_wp2_with fail
   go_end0
   exact⟨rfl,hO,hg⟩
theorem g0_ (B:Nat) (a:Option Addr) (c:Nat) (l:List TagR) (q:Int) (w:World) (h:Own tagF 2 53 B w (.slice a l.length c) l) (hl:l.length≤8) :
  Calls prog 171 #[.slice a l.length c,.int .i64 0,.int .i64 l.length,.int .i64 q,P1_] w fun e w'=>
   e=.returned (.tuple #[])∧Own tagF 2 53 B w' (.slice a l.length c) (sortS l)∧w.grownBy w' (Value.ownBlock (.slice a l.length c)):=by
 have hc:=hh_ (bp_ B a c l w h (by omega))
 have h1 :(l.length:Int)≤12:=by omega
 have h2:wrap64 (l.length:Int) =(l.length:Int):=by unfold wrap64;omega
 clear h
 go_enter func171,ntmps171
 go_wp2_with fail
 go_loopw [1,2,3,10,11,12] (fun s1 s2 _ _ _ _ wk=>s1=.int .i64 0∧s2=.int .i64 l.length∧w=wk) (fun _ _ _ _ _ _ _=>0)
 case atStart=>exact⟨rfl,rfl,rfl⟩
 case round=>
  obtain⟨rfl,rfl,rfl⟩:=hrel
  go_wp2_with (go_at_call 189;refine hc.out.mono ?_;rintro e w2 ⟨rfl,o2,g2⟩)
  refine bodyPost_ret (results_none (h:=by kernel_rfl) ..) rfl ?_;exact⟨rfl,o2,g2⟩
theorem O0_ (B:Nat) (a:Option Addr) (c:Nat) (l:List TagR) (w:World) (h:Own tagF 2 53 B w (.slice a l.length c) l) (hl:l.length≤8) :
  Calls prog 133 #[.slice a l.length c,P1_] w fun e w'=>
   e=.returned (.tuple #[])∧Own tagF 2 53 B w' (.slice a l.length c) (sortS l)∧w.grownBy w' (Value.ownBlock (.slice a l.length c)):=by
 have hc:=hh_ fun q=>g0_ B a c l q w h hl
 have hw:IntKind.u64.wrap (l.length:Int) =(l.length:Int):=IntWalk.u64_in _ (by omega)
 have hb:=hh_ fun n w'=>Tryz.bits_Len n w'
 clear h
 go_enter func133,ntmps133
 go_wp2_with (first
  |(go_at_call 107;refine(hb.out _ _ (by omega) (by omega)).mono ?_;rintro e w1 ⟨rfl,rfl⟩)
  |(go_at_call 171;refine(hc.out _).mono ?_;rintro e w2 ⟨rfl,o2,g2⟩))
 go_end0
 exact⟨rfl,o2,g2⟩
theorem h8_ (a b:ByteArray):Op.bytesLess a.toList b.toList=decide (a.data.toList<b.data.toList):=by
 rw[ByteArray.toList_eq,ByteArray.toList_eq,bytesLess_eq]
theorem Mv_ (a b:ByteArray) :(a.toList==b.toList)=decide (a.data.toList=b.data.toList):=by
 rw[ByteArray.toList_eq,ByteArray.toList_eq,Bool.eq_iff_iff];simp
def Ou_ (L:List TagR) (w:World) (e:Ending) (w':World):Prop:=∃v,e=.returned (.tuple #[v,.int .i64 (sortE L)])∧Own tagF 2 53 w.heap.size w' v (if sortE L=0 then sortT L else [])∧w.grownBy w' none
theorem C8_ {L:List TagR} {E:Int} (h:sortE L=E) (h0:E≠0) (hg:w.grownBy w' none):Ou_ L w (.returned (.tuple #[.slice none 0 0,.int .i64 E])) w':=
 ⟨_,by rw[h],by rw[if_neg (by omega)];exact Own.nil _ _ _ _ _,hg⟩
theorem a0_ (v:Value) (L:List TagR) (w:World) (h:RdL tagF 2 w v L) (hW:∀t∈L,TagW t):Calls prog 36 #[v] w (Ou_ L w):=by
 obtain⟨a,c,rfl⟩:=h.shape;have hm:=h.2.1;have H:=hh_ h;have HW:=hh_ hW;clear h hW
 by_cases h0:L.length=0
 ·have HE:=hh_ (Fl_ (.inl h0))
  obtain rfl:L=[]:=List.eq_nil_of_length_eq_zero h0;clear h0
  go_enter func36,ntmps36
  go_wp2_with fail
  go_ret2
  exact C8_ HE.out (by decide) (Ab_ _ _)
 have i0 :((L.length:Int)==0)=false:=bf_ (by omega)
 by_cases h8:8<L.length
 ·have HE:=hh_ (Fl_ (.inr h8))
  have i8 :(8:Int)<(L.length:Int):=by omega
  clear h0
  go_enter func36,ntmps36
  go_wp2_with fail
  go_ret2
  exact C8_ HE.out (by decide) (Ab_ _ _)
 have i8 :(L.length:Int)≤8:=by omega
 have Hfew:=hh_ (show ¬(L.length=0∨8<L.length) by omega);clear h0
 go_enter func36,ntmps36
 go_wp2_with fail
 go_loopw [21] (fun s21 wk=>∃i:Nat,i≤L.length∧s21=.int .i64 i∧(∀j (hj:j<L.length),j<i→tagE L[j]=0)∧w.grownBy wk none) (fun s21 _=>L.length-(RowKit.intOf s21).toNat)
 case atStart=>exact⟨0,zl_ _,rfl,by intro j hj h;omega,Ab_ _ _⟩
 case round=>
  obtain⟨i,hi,rfl,hall,hg⟩:=hrel;have Hall:=hh_ hall;have HGr:=hh_ hg;clear hall
  by_cases hlt:i<L.length
  ·obtain⟨gx,ox,cx,hv,hgx,hcx⟩:=(RdL.same H.out hg).at_ Au_ hlt
   cases hv;have c0:=hcx 0 _ rfl;have c1:=hcx 1 _ rfl;rw[Nat.add_zero] at c0;have hw:=HW.out _ (mg_ hlt)
   have HF:=hh_ (show ∀E:Int,E≠0→tagE L[i]=E→sortE L=E from fun E hE h=>by
    have h1:=Re_ hlt Hall.out (by rw[h];exact hE)
    rw[M5_ Hfew.out (by rw[h1,h];exact hE),h1,h])
   have HS:=hh_ (show tagE L[i]=0→∀j (hj:j<L.length),j<i+1→tagE L[j]=0 from fun h j hj hji=>by
    rcases Nat.lt_or_ge j i with h1|h1
    ·exact Hall.out j hj h1
    ·obtain rfl:j=i:=by omega
     exact h)
   have C:=hh_ fun w'=>hm_ L[i] w' hw
   clear hcx hw Hall hg;generalize L[i]=x at *;generalize tagE x=EE at *
   by_cases hE:EE=0
   ·subst hE
    have HS2:=hh_ (HS.out rfl);clear HF HS
    go_wp2_with (go_at_call 73;refine(C.out _).mono ?_;rintro e w2 ⟨rfl,g2⟩)
    exact⟨⟨i+1,by omega,by go_num,HS2.out,Aa_ HGr.out (Aa_ (ga_ _ _ _) g2)⟩,by simp[RowKit.intOf];omega⟩
   ·have he2 :(EE != 0)=true:=by simpa using hE
    have he3 :(EE==0)=false:=by simpa using hE
    have HF2:=hh_ (HF.out EE hE rfl);have HE0:=hh_ hE;clear HF HS hE
    go_wp2_with (go_at_call 73;refine(C.out _).mono ?_;rintro e w2 ⟨rfl,g2⟩)
    go_ret2
    exact C8_ HF2.out HE0.out (Aa_ HGr.out (Aa_ (ga_ _ _ _) g2))
  ·have HT:=hh_ (show D5_ L=0 from L2_ fun t ht=>by
    obtain⟨j,hj,rfl⟩:=List.getElem_of_mem ht
    exact Hall.out j hj (by omega))
   have hi1:¬(i:Int)<(L.length:Int):=by omega
   clear Hall
   go_upto_region 12 with fail
   clear hlt hi1
   go_loopw [33,7] (fun s33 s7 wk=>∃(j:Nat),j≤L.length∧s33=.int .i64 j∧Dif (L.take j)∧Own tagF 2 53 w.heap.size wk s7 (sortT (L.take j))∧w.grownBy wk none) (fun s33 _ _=>L.length-(RowKit.intOf s33).toNat)
   case atStart=>exact⟨0,zl_ _,rfl,by simp[Dif],Own.nil _ _ _ _ _,hg⟩
   case round=>
    clear hg HGr hi;obtain⟨j,hj,rfl,hdif,hO,hg⟩:=hrel;have HDf:=hh_ hdif;clear hdif
    by_cases hjl:j<L.length
    ·obtain⟨gx,ox,cx,hv,hgx,hcx⟩:=(RdL.same H.out hg).at_ Au_ hjl
     cases hv;have c0:=hcx 0 _ rfl;have c1:=hcx 1 _ rfl;rw[Nat.add_zero] at c0;have HT2:=hh_ (show sortT (L.take (j+1))=insT (sortT (L.take j)) L[j] by rw[tg_ hjl,Ep_]);have hfnd:=Wj_ (x:=L[j]) (Fo_ HDf.out)
     have HNo:=hh_ (p:=(∃(hk:lessT (sortT (L.take j)) L[j]<(sortT (L.take j)).length),nmB (sortT (L.take j))[lessT (sortT (L.take j)) L[j]]=nmB L[j])→sortE L=5) (fun h=>by
      obtain⟨y,hy,e⟩:=hfnd.2 h
      refine M9_ Hfew.out HT.out fun hd=>?_
      have h2:=hd.take (j+1);rw[tg_ hjl] at h2
      exact(E7_.1 h2).2 y ((Ci_ _ _).1 hy) e)
     have HYes:=hh_ (p:=¬(∃(hk:lessT (sortT (L.take j)) L[j]<(sortT (L.take j)).length),nmB (sortT (L.take j))[lessT (sortT (L.take j)) L[j]]=nmB L[j])→Dif (L.take (j+1))) (fun h=>by
      rw[tg_ hjl]
      exact E7_.2 ⟨HDf.out,fun y hy e=>h (hfnd.1 ⟨y,(Ci_ _ _).2 hy,e⟩)⟩)
     have hsl :(sortT (L.take j)).length≤8:=by rw[Eg_,lk_];omega
     clear hcx hfnd;generalize sortT (L.take j)=S at *;generalize L[j]=x at *;obtain⟨oa,oc,rfl⟩:=hO.shape
     go_upto_region 14 with fail
     have O2:=hO.same (ga_ wr (.cells #[.string x.name,.string x.value] 53) none);have G2:=Ad_ hg (.cells #[.string x.name,.string x.value] 53);have A2:=Blk.new wr #[.string x.name,.string x.value] 53;generalize wr.alloc _=w2 at *;generalize wr.heap.size=gk at *;have HN1:=hh_ (Hi_ S x)
     have HN2:=hh_ fun i (h:i<lessT S x) h2=>Hh_ (k:=x) h h2
     have HN3:=hh_ fun h=>Hn_ (L:=S) (k:=x) h
     have HI:=hh_ (show insT S x=S.take (lessT S x)++[x]++S.drop (lessT S x) from rfl);clear hO hg c0 c1 hgx;generalize lessT S x=N at *;have hN:=HN1.out
     go_cut [10] (fun s10 wx=>s10=.int .i64 0∧w2=wx)
     case first=>
      go_wp2_with fail
      go_meet
      exact⟨rfl,rfl⟩
     obtain⟨rfl,rfl⟩:=hcut
     rename_i hK
     refine hK _ _ ?_
     apply wp_seq_k
     intro K1 hK1
     go_cut [10,37,38,39,40,41,42,43,44,45,46,47,48,49,50,51,52] (fun s10 _ _ _ _ _ _ _ _ _ _ _ _ _ _ _ _ wx=>s10=.int .i64 N∧w2.grownBy wx none)
     case first=>
      go_wp2_with fail
      go_loopw [10] (fun s10 wk=>∃m:Nat,m≤N∧s10=.int .i64 m∧w2.grownBy wk none) (fun s10 _=>N-(RowKit.intOf s10).toNat)
      case atStart=>exact⟨0,zl_ _,rfl,Ab_ _ _⟩
      case round=>
       obtain⟨m,hm,rfl,hgm⟩:=hrel;have am:=(A2.same hgm).cell
       by_cases hml:m<S.length
       ·obtain⟨go,oo,co,hvo,hgo,cm⟩:=(RdL.same O2.rd hgm).at_ Au_ hml
        cases hvo;have cm0:=cm 0 _ rfl;have cm1:=cm 1 _ rfl;rw[Nat.add_zero] at cm0
        have hml2 :(m:Int)<(S.length:Int):=by omega
        have hbl:=h8_ S[m].name x.name;clear cm
        by_cases hmN:m<N
        ·have hlt:=HN2.out m hmN hml
         rw[dt_ (show S[m].name.data.toList<x.name.data.toList from hlt)] at hbl;generalize S[m]=y at *;clear hlt
         go_wp2_with fail
         go_quiet (fail)
         go_wp2_with fail
         exact⟨⟨m+1,by omega,by go_num,Ae_ hgm _⟩,by simp[RowKit.intOf];omega⟩
        ·obtain rfl:m=N:=by omega
         have hlt:=HN3.out hml;rw[df_ (show ¬S[m].name.data.toList<x.name.data.toList from hlt)] at hbl;generalize S[m]=y at *;clear hlt
         go_wp2_with fail
         go_quiet (fail)
         go_wp2_with fail
         go_meet
         exact⟨rfl,Ae_ hgm _⟩
       ·obtain rfl:m=N:=by omega
        have hml2:decide ((m:Int)<(S.length:Int))=false:=df_ (by omega)
        go_wp2_with fail
        go_quiet (fail)
        go_wp2_with fail
        go_meet
        exact⟨rfl,Ae_ hgm _⟩
     obtain⟨rfl,h3⟩:=hcut;refine hK1 _ _ ?_;have O3:=O2.same h3;have A3:=A2.same h3;have a3:=A3.cell
     by_cases hdup:∃(hk:N<S.length),nmB S[N]=nmB x
     ·have HF:=hh_ (HNo.out hdup)
      obtain⟨hml,he⟩:=hdup;obtain⟨go,oo,co,hvo,hgo,cm⟩:=(RdL.same O3.rd (Ab_ _ _)).at_ Au_ hml;cases hvo;have cm0:=cm 0 _ rfl;have cm1:=cm 1 _ rfl;rw[Nat.add_zero] at cm0
      have hml2 :(N:Int)<(S.length:Int):=by omega
      have hbe:=Mv_ S[N].name x.name;rw[dt_ (show S[N].name.data.toList=x.name.data.toList from he)] at hbe;generalize S[N]=y at *;clear he cm HNo HYes HN1 HN2 HN3
      go_wp2_with fail
      go_quiet (fail)
      go_wp2_with fail
      go_ret2
      exact C8_ HF.out (by decide) (Aa_ G2 (Ae_ h3 _))
     ·have HD2:=hh_ (HYes.out hdup)
      have O3':=hh_ O3;have A3':=hh_ A3
      apply wp_seq_k
      intro K3 hK3
      go_cut [53,54,55,56,57,58,59,60,61,62,63,64,65,66] (fun _ _ _ _ _ _ _ _ _ _ _ _ _ s66 wx=>s66=.bool false∧w2.grownBy wx none)
      case first=>
       by_cases hml:N<S.length
       ·obtain⟨go,oo,co,hvo,hgo,cm⟩:=O3.rd.at_ Au_ hml
        cases hvo;have cm0:=cm 0 _ rfl;have cm1:=cm 1 _ rfl;rw[Nat.add_zero] at cm0
        have hml2 :(N:Int)<(S.length:Int):=by omega
        have hbe:=Mv_ S[N].name x.name;rw[df_ (show ¬S[N].name.data.toList=x.name.data.toList from fun e=>hdup ⟨hml,e⟩)] at hbe;generalize S[N]=y at *;clear hdup cm
        go_wp2_with fail
        go_quiet (fail)
        go_wp2_with fail
        go_meet
        exact⟨rfl,Ae_ h3 _⟩
       ·obtain rfl:N=S.length:=by omega
        clear hdup;have hml2:decide ((S.length:Int)<(S.length:Int))=false:=df_ (by omega)
        go_wp2_with fail
        go_quiet (fail)
        go_wp2_with fail
        go_meet
        exact⟨rfl,Ae_ h3 _⟩
      obtain⟨rfl,h4⟩:=hcut;clear a3 A3 O3 hK hK1 hdup;refine hK3 _ _ ?_;have O3:=O3'.out;have A3:=A3'.out;clear O3' A3';have O3:=O2.same h4;have A3:=A2.same h4;have G3:=Aa_ G2 h4;have hKl:=hN;have HSb:=hh_ hsl
      have hsl:S.length≤1000000:=by omega
      obtain⟨P,rfl⟩:∃P,P=N:=⟨_,rfl⟩;clear O2 A2 HNo HYes HN1 HN2 HN3 hN h3;have hcap:=O3.cap
      have hP0 :(0:Int)≤(P:Int):=by omega
      have hP1 :(P:Int)≤(S.length:Int):=by omega
      have hP2 :(P:Int)≤(oc:Int):=by omega
      have hP3 :(S.length:Int)≤(oc:Int):=by omega
      have hsz:=G3.size;refine wp_region_any (by kernel_rfl) ?_
      (refine tp_ 8 75 (.slice oa S.length oc) ?_);simp only[List.setIfInBounds_toArray,List.set_cons_zero,List.set_cons_succ]
      (refine tp_ 9 76 (.int .i64 P) ?_);simp only[List.setIfInBounds_toArray,List.set_cons_zero,List.set_cons_succ]
      (refine Tail.take_put 10 77 (.slice (if oc=P then oa else oa.map (·.add (P*2))) (S.length-P) (oc-P)) rfl rfl (by kernel_rfl) (by kernel_rfl) (by kernel_rfl) (fun _ _ _ h=>h) (Or.inl ⟨by rfl,fun w=>?_⟩) ?_;· go_simp);simp only[List.setIfInBounds_toArray,List.set_cons_zero,List.set_cons_succ]
      have RD:=hh_ fun w' (h:Own tagF 2 53 w.heap.size w' (.slice oa S.length oc) S)=>h.rd.drop Au_ hKl hcap (oc-P)
      generalize (if oc=P then oa else oa.map (·.add (P*2)))=od at *
      (refine ra_ 7 #[false,false,false,false,false,false,false,false,true,true,true,false,false] ?_;simp only[List.take,List.drop,Rg.tailL];simp (decide:=true) only[if_true,if_false])
      have Gd:wc.grownBy wc.drew none:=gw_;have Kd:=Aa_ G3 Gd
      have hb1 :(S.take P).length=P:=by simp;omega
      have hb2 :(S.take P).length*32≤140737488355328:=by rw[hb1];omega
      have hb3 :(S.take P).length≤9223372036854775807:=by rw[hb1];omega
      have hb4 :((S.take P).length+1)*32≤140737488355328:=by rw[hb1];omega
      have hb5 :(S.take P).length+1≤9223372036854775807:=by rw[hb1];omega
      have hb6 :(S.take P++[x]).length=P+1:=by rw[la_,hb1];rfl
      have hb7 :(S.drop P).length=S.length-P:=by simp
      have hb8 :((S.take P++[x]).length+(S.drop P).length)*32≤140737488355328:=by rw[hb6,hb7];omega
      have hb9 :(S.take P++[x]).length+(S.drop P).length≤9223372036854775807:=by rw[hb6,hb7];omega
      have Hb1:=hh_ hb1.symm;have Hb7:=hh_ hb7.symm;clear hb1 hb6 hb7
      (refine to_ ?_;intro y0 my0 dy0)
      clear dy0;have zy0:w.heap.size≤y0.heap.size:=(Aa_ Kd my0).size
      go_wp2_with fail
      refine⟨ga_ _ _ _,?_⟩;have N0:=A0_ (e:=53) tagF 2 zy0;have hg0:wc.heap.size≤y0.heap.size:=(Aa_ Gd my0).size;generalize y0.alloc _=e0 at *;generalize y0.heap.size=g0 at *
      (refine tq_ 3 ?_;(repeat(go_big_quiet_step (fail)));refine wn_ ?_)
      (refine to_ ?_;intro y4 my4 dy4)
      have N4:=N0.same (dy4.out 0 (by omega) (by kernel_rfl));have K4:=Aa_ Gd my4;have R4:=(O3.rd.take Au_ hKl oc).same K4;have z4:=(Aa_ Kd my4).size
      go_wp2_with (at_builtin;refine A5_ Co_ Dc_ N4 R4 Hb1.out hb2 hb3 z4 ?_;intro v4 e4 o4 g4 l4;have Hg4:=hh_ g4;clear g4)
      refine⟨Hg4.out,?_⟩;have hv4:=Lies.ge l4 (fun k hk=>lt_ hg0 (Rz_ _ _ _ k hk)) K4.size;clear R4 N0 N4 K4 z4 dy4 l4
      (refine to_ ?_;intro y5 my5 dy5)
      clear dy5;have a5:=(A3.same (Aa_ Gd my5)).cell
      go_wp2_with fail
      refine⟨Ab_ _ _,?_⟩;clear a5
      (refine to_ ?_;intro y6 my6 dy6)
      clear dy6
      go_wp2_with fail
      refine⟨ga_ _ _ _,?_⟩;have N6:=Blk.new y6 #[.string x.name,.string x.value] 53;generalize y6.alloc _=e6 at *;generalize y6.heap.size=g6 at *
      (refine Rg.tree_nil ?_;intro z mz dz cz)
      have o5:=o4.same (dz.out 4 (by omega));have N7:=(N6.same (dz.out 6 (by omega))).one Au_ x rfl;have Kz:=Aa_ Gd mz;have KK:=Aa_ Kd mz;have z7:=KK.size;have O7:=O3.same Kz
      have hlo:∀k,Value.ownBlock (.slice oa S.length oc)=some k→k<wc.heap.size:=fun k hk=>(O3.lt k hk).2
      have tok:=hh_ hP0;clear dz cz my0 my4 my5 my6 mz Hg4 Kz N6 o4 O3 A3 hg0 zy0 Gd Kd
      go_wp2_with (first
       |(at_builtin;have _t:=tok;refine app Co_ Dc_ o5 N7 rfl hb4 hb5 z7 ?_;intro v7 w7 o7 g7 l7;clear tok;have K7:=Aq_ KK o5 (le_ _) g7;have R8:=RD.out _ (O7.kept g7 (fun k hk e=>by have:=hlo k hk;have:=hv4 k e;omega));have z8:=K7.size)
       |(at_builtin;refine app Co_ Dc_ o7 R8 Hb7.out hb8 hb9 z8 ?_;intro v8 w8 o8 g8 l8;have K8:=Aq_ K7 o7 (le_ _) g8))
      exact⟨⟨j+1,by omega,by go_num,HD2.out,by rw[HT2.out,HI.out];exact o8,K8⟩,by simp[RowKit.intOf];omega⟩
    ·have hke:L.take j=L:=tk_ (by omega)
     rw[hke] at hO HDf;have HE:=hh_ (Lg_ Hfew.out HT.out HDf.out);obtain⟨oa,oc,rfl⟩:=hO.shape;have HO:=hh_ hO;clear hO hke
     go_wp2_with fail
     go_ret2
     exact⟨_,by rw[HE.out];rfl,by rw[HE.out,if_pos rfl];exact HO.out,hg⟩
theorem Qw_ (w:World) (g:Nat) (b:UInt8) (h:w.cell? ⟨g,0,none⟩=some (.int .u8 b.toNat)) :(convert 63 9 (.slice (some ⟨g,0,none⟩) 1 1)).run prog w=.ok (.string ⟨#[b]⟩) w:=by
 rw[run_convert_bytes_string w 63 9 5 _ 1 1 underlying63 underlying5 underlying9];rw[run_bytesToString w ⟨g,0,none⟩ 1 1 [(b.toNat:Int)]]
 ·show Result.ok (Value.string _) w=_
  congr 2
  simp[ByteArray.push,ByteArray.empty,ByteArray.emptyWithCapacity]
  all_goals rfl
 ·exact run_loadCells_list w ⟨g,0,none⟩ [.int .u8 b.toNat] (fun j v hv=>by
   cases j with
   | zero=>simp at hv;subst hv;exact h
   | succ j=>simp at hv)
theorem b8_ (a b:ByteArray) :(a++b).data.toList=a.data.toList++b.data.toList:=by
 simp[ByteArray.data_append]
theorem Wc_ {a:ByteArray} {l:List UInt8} (h:a.data.toList=l):a =⟨l.toArray⟩:=by
 obtain⟨⟨x⟩⟩:=a;subst h;rfl
theorem J9_ {n:Nat}:IntKind.u8.wrap (n:Int) =(((UInt8.ofNat n).toNat:Nat):Int):=by
 rw[P4_,UInt8.toNat_ofNat']
def KeyP (L:List TagR) (w:World) (e:Ending) (w':World):Prop:=e=.returned (.tuple #[.string (keyY L),.int .i64 (keyE L)])∧w.grownBy w' none
theorem Hu_ (v:Value) (L:List TagR) (w:World) (h:RdL tagF 2 w v L) (hW:∀t∈L,TagW t):Calls prog 16 #[v] w (KeyP L w):=by
 obtain⟨a,c,rfl⟩:=h.shape;have C:=hh_ (a0_ _ L w h hW);have HK:=hh_ (show keyE L=if sortE L≠0 then sortE L else if 255<(kyB (sortT L)).length then 4 else 0 from rfl);have HY:=hh_ (show keyY L=if keyE L=0 then ⟨(kyB (sortT L)).toArray⟩ else ⟨#[]⟩ from rfl);have H0:=hh_ (L0_ (L:=L));have Hlen:=hh_ (Eg_ L);have HM:=hh_ (Ci_ L);clear h hW
 go_enter func16,ntmps16
 by_cases hE:sortE L=0
 ·have C2:=C.out
  unfold Ou_ at C2;rw[hE,if_pos rfl] at C2;have C3:=hh_ C2;obtain⟨h0,h8,ht,-⟩:=H0.out hE;have HK2:=hh_ (HK.out.trans (if_neg (by omega)));have HT:=hh_ (fun t h=>Pg_ (ht t ((HM.out t).1 h)):∀t∈sortT L,_);clear C C2 HK H0 HM ht hE;generalize sortT L=S at *
  have hSl :(S.length:Int)≤8:=by have:=Hlen.out;omega
  go_wp2_with (go_at_call 36;refine C3.out.mono ?_;rintro e w2 ⟨v2,rfl,o2,g2⟩;obtain⟨a2,c2,rfl⟩:=o2.shape)
  have HO:=hh_ o2;have HG:=hh_ g2;clear o2 g2
  go_loopw [19,6] (fun s19 s6 wk=>∃(k:Nat) (O:ByteArray),k≤S.length∧s19=.int .i64 k∧s6=.string O∧O.data.toList=kyB (S.take k)∧O.size≤98*k∧w2.grownBy wk none) (fun s19 _ _=>S.length-(RowKit.intOf s19).toNat)
  case atStart=>exact⟨0,⟨#[]⟩,zl_ _,rfl,rfl,rfl,by simp[ByteArray.size],Ab_ _ _⟩
  case round=>
   obtain⟨k,O,hk,rfl,rfl,hO,hOl,hg⟩:=hrel;have HOl:=hh_ hO;clear hO
   by_cases hlt:k<S.length
   ·obtain⟨gx,ox,cx,hv,hgx,hcx⟩:=(RdL.same HO.out.rd hg).at_ Au_ hlt
    cases hv;have c0:=hcx 0 _ rfl;have c1:=hcx 1 _ rfl;rw[Nat.add_zero] at c0;obtain⟨-,-,hn32,hv64⟩:=HT.out _ (mg_ hlt);have HS:=hh_ (show kyB (S.take (k+1))=kyB (S.take k)++tkB S[k] by rw[tg_ hlt,Ra_]);clear hcx;generalize S[k]=x at *;have hw1:=J9_ (n:=x.name.size);have hw2:=J9_ (n:=x.value.size);have HB:=hh_ (show tkB x=UInt8.ofNat x.name.size::nmB x++(UInt8.ofNat x.value.size::vlB x) from rfl);obtain⟨b1,hb1⟩:∃b,UInt8.ofNat x.name.size=b:=⟨_,rfl⟩;obtain⟨b2,hb2⟩:∃b,UInt8.ofNat x.value.size=b:=⟨_,rfl⟩;rw[hb1] at hw1 HB;rw[hb2] at hw2 HB;clear hb1 hb2
    have hc1:=fun w' g h=>Qw_ w' g b1 h
    have hc2:=fun w' g h=>Qw_ w' g b2 h
    go_wp2_with fail
    have hsz :(O++(⟨#[b1]⟩++x.name++⟨#[b2]⟩++x.value)).size≤98*(k+1):=by
     simp only[ByteArray.size_append];have e1 :(⟨#[b1]⟩:ByteArray).size=1:=rfl;have e2 :(⟨#[b2]⟩:ByteArray).size=1:=rfl;rw[e1,e2];omega
    exact⟨⟨k+1,_,by omega,by go_num,rfl,by rw[HS.out,HB.out];simp only[b8_];rw[HOl.out];simp[nmB,vlB],hsz,Ad_ (Ad_ (Ad_ hg _) _) _⟩,by simp[RowKit.intOf];omega⟩
   ·have hke:S.take k=S:=tk_ (by omega)
    have HOf:=HOl.out;rw[hke] at HOf;clear hke
    by_cases hlong:255<O.size
    ·have j1 :(255:Int)<(O.size:Int):=by omega
     have HF:=hh_ (show keyE L=4 by rw[HK2.out,←HOf,if_pos (show 255<O.data.toList.length from hlong)]);clear hlong HOf
     go_wp2_with fail
     go_ret2
     exact⟨by rw[HF.out,HY.out,HF.out];rfl,Aa_ HG.out hg⟩
    ·have j1 :(O.size:Int)≤255:=by omega
     have HF:=hh_ (show keyE L=0 by rw[HK2.out,←HOf,if_neg (show ¬255<O.data.toList.length from hlong)]);have HQ:=hh_ (show keyY L=O by rw[HY.out,HF.out,if_pos rfl];exact(Wc_ HOf).symm);clear hlong HOf
     go_wp2_with fail
     go_ret2
     exact⟨by rw[HF.out,HQ.out];rfl,Aa_ HG.out hg⟩
 ·have C2:=C.out
  unfold Ou_ at C2;have HF:=hh_ (HK.out.trans (if_pos hE));have HF2:=hh_ (show keyY L =⟨#[]⟩ by rw[HY.out,HF.out,if_neg hE]);generalize sortE L=EE at *;rw[if_neg hE] at C2;have C3:=hh_ C2
  have he2 :(EE != 0)=true:=by simpa using hE
  have he3 :(EE==0)=false:=by simpa using hE
  clear C C2 HK H0 HM hE
  go_wp2_with (go_at_call 36;refine C3.out.mono ?_;rintro e w2 ⟨v2,rfl,o2,g2⟩;obtain⟨a2,c2,rfl⟩:=o2.shape)
  go_ret2
  exact⟨by rw[HF.out,HF2.out];rfl,g2⟩
theorem e1_ (v:Value) (L:List TagR) (w:World) (h:RdL tagF 2 w v L) (hW:∀t∈L,TagW t):Calls prog 103 #[v] w (Ou_ L w):=by
 obtain⟨a,c,rfl⟩:=h.shape;have hm:=h.2.1;have H:=hh_ h;have HW:=hh_ hW;clear h hW
 by_cases h0:L.length=0
 ·have HE:=hh_ (Fl_ (.inl h0))
  obtain rfl:L=[]:=List.eq_nil_of_length_eq_zero h0;clear h0
  go_enter func103,ntmps103
  go_wp2_with fail
  go_ret2
  exact C8_ HE.out (by decide) (Ab_ _ _)
 have i0 :((L.length:Int)==0)=false:=bf_ (by omega)
 by_cases h8:8<L.length
 ·have HE:=hh_ (Fl_ (.inr h8))
  have i8 :(8:Int)<(L.length:Int):=by omega
  clear h0
  go_enter func103,ntmps103
  go_wp2_with fail
  go_ret2
  exact C8_ HE.out (by decide) (Ab_ _ _)
 have i8 :(L.length:Int)≤8:=by omega
 have Hfew:=hh_ (show ¬(L.length=0∨8<L.length) by omega);clear h0
 go_enter func103,ntmps103
 go_wp2_with fail
 go_loopw [19] (fun s19 wk=>∃i:Nat,i≤L.length∧s19=.int .i64 i∧(∀j (hj:j<L.length),j<i→tagE L[j]=0)∧w.grownBy wk none) (fun s19 _=>L.length-(RowKit.intOf s19).toNat)
 case atStart=>exact⟨0,zl_ _,rfl,by intro j hj h;omega,Ab_ _ _⟩
 case round=>
  obtain⟨i,hi,rfl,hall,hg⟩:=hrel;have Hall:=hh_ hall;have HGr:=hh_ hg;clear hall
  by_cases hlt:i<L.length
  ·obtain⟨gx,ox,cx,hv,hgx,hcx⟩:=(RdL.same H.out hg).at_ Au_ hlt
   cases hv;have c0:=hcx 0 _ rfl;have c1:=hcx 1 _ rfl;rw[Nat.add_zero] at c0;have hw:=HW.out _ (mg_ hlt)
   have HF:=hh_ (show ∀E:Int,E≠0→tagE L[i]=E→sortE L=E from fun E hE h=>by
    have h1:=Re_ hlt Hall.out (by rw[h];exact hE)
    rw[M5_ Hfew.out (by rw[h1,h];exact hE),h1,h])
   have HS:=hh_ (show tagE L[i]=0→∀j (hj:j<L.length),j<i+1→tagE L[j]=0 from fun h j hj hji=>by
    rcases Nat.lt_or_ge j i with h1|h1
    ·exact Hall.out j hj h1
    ·obtain rfl:j=i:=by omega
     exact h)
   have C:=hh_ fun w'=>Y6_ L[i] w' hw
   clear hcx hw Hall hg;generalize L[i]=x at *;generalize tagE x=EE at *
   by_cases hE:EE=0
   ·subst hE
    have HS2:=hh_ (HS.out rfl);clear HF HS
    go_wp2_with (go_at_call 131;refine(C.out _).mono ?_;rintro e w2 ⟨rfl,g2⟩)
    exact⟨⟨i+1,by omega,by go_num,HS2.out,Aa_ HGr.out (Aa_ (ga_ _ _ _) g2)⟩,by simp[RowKit.intOf];omega⟩
   ·have he2 :(EE != 0)=true:=by simpa using hE
    have he3 :(EE==0)=false:=by simpa using hE
    have HF2:=hh_ (HF.out EE hE rfl);have HE0:=hh_ hE;clear HF HS hE
    go_wp2_with (go_at_call 131;refine(C.out _).mono ?_;rintro e w2 ⟨rfl,g2⟩)
    go_ret2
    exact C8_ HF2.out HE0.out (Aa_ HGr.out (Aa_ (ga_ _ _ _) g2))
  ·have HT:=hh_ (show D5_ L=0 from L2_ fun t ht=>by
    obtain⟨j,hj,rfl⟩:=List.getElem_of_mem ht
    exact Hall.out j hj (by omega))
   have hi1:¬(i:Int)<(L.length:Int):=by omega
   have C1:=hh_ (Y9_ _ L wr (H.out.same hg) (by omega))
   have C2:=hh_ fun a c w' h=>O0_ wr.heap.size a c L w' h (by omega)
   clear Hall hg
   go_upto_region 13 with(first
    |(go_at_call 132;refine C1.out.mono ?_;rintro e w2 ⟨v2,rfl,o2,g2⟩;obtain⟨a2,c2,rfl⟩:=o2.shape)
    |(go_at_call 133;refine(C2.out _ _ _ o2).mono ?_;rintro e w3 ⟨rfl,o3,g3⟩))
   have G3:=Aq_ (Aa_ HGr.out g2) o2 HGr.out.size g3;have O3:=o3.base (B':=w.heap.size) (fun k hk=>lt_ HGr.out.size (o3.lt k hk).1);have hSl:=M3_ L;have HI:=hh_ (Zd_ L);have HTA:=hh_ (Fo_ (L:=L));clear o2 g2 o3 g3 C1 C2 hlt hi1;obtain⟨S,hS⟩:∃S,sortS L=S:=⟨_,rfl⟩;rw[hS] at O3 hSl HI;clear hS
   have HOK:=hh_ (p:=(∀j (hj:j+1<S.length),nmB S[j]≠nmB S[j+1])→sortE L=0∧S=sortT L) (fun h=>by
    have hd:Dif L:=Decidable.byContradiction fun hn=>by
     obtain⟨j,hj,e⟩:=HI.out.2 hn;exact h j hj e
    exact⟨Lg_ Hfew.out HT.out hd,HI.out.1 hd⟩)
   have HBAD:=hh_ (p:=∀j (hj:j+1<S.length),nmB S[j]=nmB S[j+1]→sortE L=5) (fun j hj e=>by
    refine M9_ Hfew.out HT.out fun hd=>?_
    exact(show ¬AdjEq S from by rw[HI.out.1 hd];exact S0_ (HTA.out hd)) ⟨j,hj,e⟩)
   clear HI HTA;have HO:=hh_ O3;have HG:=hh_ G3;clear O3 G3
   go_loopw [8] (fun s8 wk=>∃i:Nat,1≤i∧s8=.int .i64 i∧i≤S.length+1∧(∀j (hj:j+1<S.length),j+1<i→nmB S[j]≠nmB S[j+1])∧w3.grownBy wk none) (fun s8 _=>S.length+1-(RowKit.intOf s8).toNat)
   case atStart=>exact⟨1,by omega,rfl,by omega,by intro j hj h;omega,Ab_ _ _⟩
   case round=>
    obtain⟨i,hi1,rfl,hi2,hall,hg⟩:=hrel;have Hall:=hh_ hall;clear hall
    by_cases hil:i<S.length
    ·obtain⟨k,rfl⟩:∃k,i=k+1:=⟨i-1,by omega⟩
     obtain⟨gx,ox,cx,hv,hgx,hcx⟩:=(RdL.same HO.out.rd hg).at_ Au_ hil;obtain⟨gy,oy,cy,hv2,-,hcy⟩:=(RdL.same HO.out.rd hg).at_ Au_ (show k<S.length by omega)
     obtain⟨rfl,-,rfl⟩:a2=some ⟨gx,ox,none⟩∧L.length=S.length∧c2=cx:=by simpa only[Value.slice.injEq] using hv
     obtain⟨hg2,-,-⟩:some ⟨gx,ox,none⟩=some (⟨gy,oy,none⟩:Addr)∧L.length=S.length∧c2=cy:=by simpa only[Value.slice.injEq] using hv2
     cases hg2;clear hv hv2;have c0:=hcx 0 _ rfl;have d0:=hcy 0 _ rfl;rw[Nat.add_zero] at c0 d0;clear hcx hcy
     have hlt2 :((k+1:Nat):Int)<(L.length:Int):=by omega
     have hk1 :(k:Int)<(L.length:Int):=by omega
     have hs1:IntKind.i64.wrap (((k+1:Nat):Int)-1) =(k:Int):=by rw[IntWalk.i64_in _ (by omega)];omega
     have hs2 :((k+1:Nat):Int)-1 =(k:Int):=by omega
     have HB:=hh_ (HBAD.out k hil)
     have HN:=hh_ (p:=nmB S[k]≠nmB S[k+1]→∀j (hj:j+1<S.length),j+1<k+1+1→nmB S[j]≠nmB S[j+1]) (fun h j hj hjk=>by
      by_cases e:j=k
      ·subst e;exact h
      ·exact Hall.out j hj (by omega))
     have hbe:=Mv_ S[k+1].name S[k].name;have HX:=hh_ (show nmB S[k]=S[k].name.data.toList from rfl);have HY:=hh_ (show nmB S[k+1]=S[k+1].name.data.toList from rfl);generalize nmB S[k]=nx at *;generalize nmB S[k+1]=ny at *;generalize S[k]=x at *;generalize S[k+1]=y at *
     by_cases he:nx=ny
     ·rw[dt_ (show y.name.data.toList=x.name.data.toList by rw[←HX.out,←HY.out];exact he.symm)] at hbe
      have HF:=hh_ (HB.out he);clear he HN HB HX HY
      go_wp2_with fail
      go_quiet (fail)
      go_wp2_with fail
      go_ret2
      exact C8_ HF.out (by decide) (Aa_ HG.out (Ae_ hg _))
     ·rw[df_ (show ¬y.name.data.toList=x.name.data.toList by rw[←HX.out,←HY.out];exact fun e=>he e.symm)] at hbe
      have HN2:=hh_ (HN.out he);clear he HN HB HX HY
      go_wp2_with fail
      go_quiet (fail)
      go_wp2_with fail
      exact⟨⟨k+1+1,by omega,by go_num,by omega,HN2.out,Ae_ hg _⟩,by simp[RowKit.intOf];omega⟩
    ·have HF:=hh_ (HOK.out (fun j hj=>Hall.out j hj (by omega)))
     go_wp2_with fail
     go_ret2
     refine⟨_,by rw[HF.out.1];rfl,?_,Aa_ HG.out hg⟩;rw[if_pos HF.out.1,←HF.out.2];exact HO.out.same hg
theorem Ya_ (s:ByteArray):cellsOf byF s.data.toList=Lib.strCells s:=by
 have:∀l:List UInt8,cellsOf byF l=l.map fun b=>Value.int .u8 b.toNat:=by
  intro l
  induction l with
  | nil=>rfl
  | cons x l ih=>simp only[cellsOf,List.flatMap_cons,List.map_cons] at *;rw[ih];rfl
 rw[this];rfl
theorem dj_ :(prog.info? 5).map (fun i=>(i.zero,i.size,i.bytes))=some (some (.int .u8 0),1,1):=by kernel_rfl
theorem Lw_ {B:Nat} {v:Value} {l:List UInt8} {rest:List Oper} (hown:Own byF 1 5 B w v l) (s:ByteArray) (hb:l.length+s.size≤140737488355328) (hbase:B≤w.heap.size)
  (hgd:o.guard=none) (sl x:Operand) (ho:o.op=.call { callee:=.builtin .append,args:=#[sl,x],argTypes:=#[63,9] }) (hs:a.eval sl=v) (hx:a.eval x=.string s)
  (h:∀v' w',Own byF 1 5 B w' v' (l++s.data.toList)→w.grownBy w' v.ownBlock→wpList prog ops Q rest (a.put o.dst v') w'):wpList prog ops Q (o::rest) a w:=by
 obtain⟨i,hi,hz0,hz1,hz2⟩:=info_parts dj_
 refine Lib.wpList_append_own_string w hgd sl x 63 9 ho B 5 i underlying63 underlying9 hi hz0 hz1 hz2 v l.length _ hs hown s hx (by unfold maxLen;omega) hb hbase fun v' w' h1 h2 _=>h v' w' ?_ h2
 unfold Own;rw[Ar_,Ya_,la_];have e:s.data.toList.length=s.size:=Array.length_toList;rw[e];exact h1
end
section
open Go.RowKit
def bigs:Nat→List UInt8→Nat
 | 0,_=>0
 | _,[]=>0
 | f+1,b::l=>if 128≤b.toNat then bigs f l+1 else 0
theorem Ds_:∀(f:Nat) (l:List UInt8),bigs f l≤f∧bigs f l≤l.length
 | 0,_=>by simp[bigs]
 | f+1,[]=>by simp[bigs]
 | f+1,b::l=>by
  have:=Ds_ f l
  simp only[bigs]
  split
  ·simp;omega
  ·simp
theorem Xl_:∀{f:Nat} {l:List UInt8} {i:Nat} (_:i<bigs f l) (h:i<l.length),128≤l[i].toNat
 | 0,_,_,h,_=>by simp[bigs] at h
 | f+1,[],_,h,_=>by simp[bigs] at h
 | f+1,b::l,0,h,_=>by
  simp only[bigs] at h
  split at h
  ·simpa
  ·omega
 | f+1,b::l,i+1,h,hl=>by
  simp only[bigs] at h
  split at h
  ·have:=Xl_ (f:=f) (l:=l) (i:=i) (by omega) (by simpa using hl)
   simpa using this
  ·omega
theorem Xb_:∀{f:Nat} {l:List UInt8} (_:bigs f l<f) (h:bigs f l<l.length),l[bigs f l].toNat<128
 | 0,_,h,_=>by omega
 | f+1,[],_,h=>by simp at h
 | f+1,b::l,h,hl=>by
  by_cases hb:128≤b.toNat
  ·have e:bigs (f+1) (b::l)=bigs f l+1:=by simp[bigs,hb]
   have:=Xb_ (f:=f) (l:=l) (by omega) (by rw[e] at hl;simpa using hl)
   simpa [e] using this
  ·have e:bigs (f+1) (b::l)=0:=by simp[bigs,hb]
   simp only[e,List.getElem_cons_zero];omega
def valU:List UInt8→Nat
 | []=>0
 | b::l=>b.toNat%128+128*valU l
theorem Wz_ (l:List UInt8) (b:UInt8):valU (l++[b])=valU l+b.toNat%128*128 ^ l.length:=by
 induction l with
 | nil=>simp[valU]
 | cons a l ih=>
  simp only[List.cons_append,valU,ih,lc_,Nat.pow_succ];rw[Nat.mul_add,Nat.add_assoc]
  congr 2
  rw[Nat.mul_comm (128 ^ l.length) 128,←Nat.mul_assoc,←Nat.mul_assoc,Nat.mul_comm 128]
theorem ec_ (l:List UInt8):valU l<128 ^ l.length:=by
 induction l with
 | nil=>simp[valU]
 | cons b l ih=>
  simp only[valU,lc_,Nat.pow_succ]
  have:b.toNat%128<128:=Nat.mod_lt _ (by omega)
  omega
def readF (l:List UInt8):Nat×Nat×Int:=
 if bigs 10 l=10 then (0,0,3)
 else match l[bigs 10 l]? with
  | none=>(0,0,2)
  | some b=>if (bigs 10 l=9∧1<b.toNat)∨(0<bigs 10 l∧b.toNat=0) then (0,0,3) else (valU (l.take (bigs 10 l+1)),bigs 10 l+1,0)
theorem Eb_ {l:List UInt8} (h:bigs 10 l=10):readF l =(0,0,3):=by unfold readF;rw[if_pos h]
theorem Dy_ {l:List UInt8} (h:bigs 10 l≠10) (h2:l.length=bigs 10 l):readF l =(0,0,2):=by
 unfold readF;rw[if_neg h,List.getElem?_eq_none (by omega)]
theorem Ej_ {l:List UInt8} (h:bigs 10 l≠10) (h2:bigs 10 l<l.length) (h3 :(bigs 10 l=9∧1<l[bigs 10 l].toNat)∨(0<bigs 10 l∧l[bigs 10 l].toNat=0)):readF l =(0,0,3):=by
 unfold readF;rw[if_neg h,gq_ h2];simp only;rw[if_pos h3]
theorem F0_ {l:List UInt8} (h:bigs 10 l≠10) (h2:bigs 10 l<l.length) (h3:¬((bigs 10 l=9∧1<l[bigs 10 l].toNat)∨(0<bigs 10 l∧l[bigs 10 l].toNat=0))):readF l =(valU (l.take (bigs 10 l+1)),bigs 10 l+1,0):=by
 unfold readF;rw[if_neg h,gq_ h2];simp only;rw[if_neg h3]
theorem Gk_ (l:List UInt8) :(readF l).2.1≤l.length:=by
 unfold readF
 split
 ·simp
 ·split
  ·simp
  ·rename_i b hb
   have:=(gs_ hb).1
   split <;> simp;omega
theorem Fc_ (l:List UInt8) :(readF l).1<18446744073709551616:=by
 by_cases h:bigs 10 l=10
 ·rw[Eb_ h];simp
 by_cases h2:bigs 10 l<l.length
 ·by_cases h3 :(bigs 10 l=9∧1<l[bigs 10 l].toNat)∨(0<bigs 10 l∧l[bigs 10 l].toNat=0)
  ·rw[Ej_ h h2 h3];simp
  ·rw[F0_ h h2 h3]
   show valU (l.take (bigs 10 l+1))<_
   rw[tg_ h2,Wz_];have hb:=Ds_ 10 l
   have hb9:bigs 10 l=9→l[bigs 10 l].toNat≤1:=fun h9=>Nat.le_of_not_lt fun hc=>h3 (.inl ⟨h9,hc⟩)
   clear h3;have hv:=ec_ (l.take (bigs 10 l))
   have hl :(l.take (bigs 10 l)).length=bigs 10 l:=by rw[lk_];omega
   rw[hl] at hv ⊢;generalize l[bigs 10 l]=b at *;generalize valU (l.take (bigs 10 l))=V at *;have hbl:b.toNat%128<128:=Nat.mod_lt _ (by omega);generalize bigs 10 l=m at *
   by_cases h9:m=9
   ·have hb1:=hb9 h9
    subst h9
    have e :(128:Nat) ^ 9=9223372036854775808:=by decide
    rw[Nat.mod_eq_of_lt (show b.toNat<128 by omega)];rw[e] at hv ⊢
    omega
   ·have hp:128 ^ m≤128 ^ 8:=Nat.pow_le_pow_right (by omega) (by omega)
    have e :(128:Nat) ^ 8=72057594037927936:=by decide
    have hq:b.toNat%128*128 ^ m≤127*128 ^ 8:=Nat.mul_le_mul (by omega) hp;rw[e] at hp hq
    omega
 ·rw[Dy_ h (by have:=Ds_ 10 l;omega)];simp
end
section
open Go.RowKit Go.Sort
theorem Vn_ (l:List UInt8) (k:Nat):valU (l.drop k)≤valU l:=by
 induction l generalizing k with
 | nil=>simp
 | cons b l ih=>
  cases k with
  | zero=>simp
  | succ k=>
   have:=ih k
   simp only[List.drop_succ_cons,valU];omega
theorem O1_ (v:Value) (l:List UInt8) (w:World) (h:RdL byF 1 w v l):Calls prog 81 #[v] w (Cq_ (.tuple #[.int .u64 (readF l).1,.int .i64 (readF l).2.1,.int .i64 (readF l).2.2]) w):=by
 obtain⟨a,c,rfl⟩:=h.shape;have hm:=h.2.1;have H:=hh_ h;have hM:=Ds_ 10 l;have HT:=hh_ (Eb_ (l:=l));have HSh:=hh_ (Dy_ (l:=l));have HBd:=hh_ (Ej_ (l:=l));have HOk:=hh_ (F0_ (l:=l));have HW:=hh_ (Fc_ l)
 have HL:=hh_ fun i (h1:i<bigs 10 l) (h2:i<l.length)=>Xl_ h1 h2
 have HA:=hh_ fun(h1:bigs 10 l<10) (h2:bigs 10 l<l.length)=>Xb_ h1 h2
 clear h;generalize readF l=F at *;generalize bigs 10 l=M at *
 go_enter func81,ntmps81
 go_wp2
 go_loopw [5] (fun s5 wk=>∃i:Nat,i≤M∧s5=.int .i64 i∧w.grownBy wk none) (fun s5 _=>10-(RowKit.intOf s5).toNat)
 case atStart=>exact⟨0,zl_ _,rfl,Ab_ _ _⟩
 case round=>
  obtain⟨i,hi,rfl,hg⟩:=hrel
  by_cases hiM:i<M
  ·have hil:i<l.length:=by omega
   obtain⟨g,off,cap,hv,hgl,ci⟩:=(RdL.same H.out hg).one Tn_ hil;cases hv;have hb:=HL.out i hiM hil
   have hb2 :(128:Int)≤(l[i].toNat:Int):=by omega
   generalize l[i]=b at *
   have hi0 :(0:Int)≤(i:Int):=by omega
   have hil2 :(i:Int)<(l.length:Int):=by omega
   have hi102 :(i:Int)<10:=by omega
   go_wp2_with fail
   exact⟨⟨i+1,by omega,by go_num,hg⟩,by simp[RowKit.intOf];omega⟩
  ·obtain rfl:i=M:=by omega
   by_cases h10:i=10
   ·have HF:=hh_ (HT.out h10)
    subst h10
    by_cases hl:10<l.length
    ·have hl2 :(10:Int)<(l.length:Int):=by omega
     go_wp2_with fail
     go_ret3
     exact Bx_ (by rw[HF.out];rfl) hg
    ·have hl2:¬(10:Int)<(l.length:Int):=by omega
     go_wp2_with fail
     go_ret3
     exact Bx_ (by rw[HF.out];rfl) hg
   ·by_cases hil:i<l.length
    ·obtain⟨g,off,cap,hv,hgl,ci⟩:=(RdL.same H.out hg).one Tn_ hil
     cases hv;have hb:=HA.out (by omega) hil
     have hb2 :(l[i].toNat:Int)<128:=by omega
     have hb0 :(0:Int)≤(l[i].toNat:Int):=by omega
     by_cases hbad :(i=9∧1<l[i].toNat)∨(0<i∧l[i].toNat=0)
     ·have HF:=hh_ (HBd.out (by omega) hil hbad)
      rcases hbad with⟨h9,h1⟩ |⟨h0,h1⟩
      ·subst h9
       have h1' :(1:Int)<(l[9].toNat:Int):=by omega
       have hl9 :(9:Int)<(l.length:Int):=by omega
       clear h10 hb h1 HW HOk HBd HA HL HSh HT;generalize l[9]=b at *
       go_wp2_with fail
       go_ret3
       exact Bx_ (by rw[HF.out];rfl) hg
      ·have h1' :(l[i].toNat:Int)≤0:=by omega
       have hbz :((l[i].toNat:Int)==0)=true:=by rw[beq_iff_eq];omega
       have hi0 :(0:Int)<(i:Int):=by omega
       have hil2 :(i:Int)<(l.length:Int):=by omega
       have hi102 :(i:Int)<10:=by omega
       clear h10 hb h1 HW HOk HBd HA HL HSh HT
       by_cases h9:i=9
       ·subst h9
        generalize l[9]=b at *
        go_wp2_with fail
        go_ret3
        exact Bx_ (by rw[HF.out];rfl) hg
       ·have h9':¬((i:Int)=9):=by omega
        generalize l[i]=b at *
        go_wp2_with fail
        go_ret3
        exact Bx_ (by rw[HF.out];rfl) hg
     ·have hil2 :(i:Int)<(l.length:Int):=by omega
      have hi102 :(i:Int)<10:=by omega
      have key :(((i:Int)==9)=true∧¬(1:Int)<(l[i].toNat:Int)∧(0:Int)<(i:Int)∧((l[i].toNat:Int)==0)=false)∨(¬(i:Int)=9∧¬(0:Int)<(i:Int))∨(¬(i:Int)=9∧(0:Int)<(i:Int)∧((l[i].toNat:Int)==0)=false):=by
       rw[beq_eq_false_iff_ne,beq_iff_eq]
       by_cases h9:i=9
       ·subst h9;omega
       ·omega
      rcases key with⟨h9',h1',h0',h1''⟩ |⟨h9',h0'⟩ |⟨h9',h0',h1''⟩
      all_goals
       have HF:=hh_ (HOk.out (by omega) hil (by omega));have hTw:=HW.out;rw[HF.out] at hTw;have HTw:=hh_ (show valU (l.take (i+1))<18446744073709551616 from hTw);clear hTw
       go_wp2_with fail
       go_loopw [2,6] (fun s2 s6 wk=>∃j:Nat,j≤i+1∧s6=.int .i64 ((i:Nat)-(j:Int))∧s2=.int .u64 (valU ((l.take (i+1)).drop (i+1-j)))∧w.grownBy wk none) (fun _ s6 _=>((RowKit.intOf s6)+1).toNat)
       case atStart=>exact⟨0,zl_ _,by go_num,by rw[List.drop_of_length_le (by rw[lk_];omega)];rfl,hg⟩
       case round=>
        obtain⟨j,hj,rfl,rfl,hgj⟩:=hrel
        by_cases hjM:j≤i
        ·have hk:i-j<l.length:=by omega
         obtain⟨g2,off2,cap2,hv2,hgl2,cj⟩:=(RdL.same H.out hgj).one Tn_ hk;cases hv2
         have hst :(l.take (i+1)).drop (i+1-(j+1))=l[i-j]::(l.take (i+1)).drop (i+1-j):=by
          rw[show i+1-(j+1)=i-j by omega,List.drop_eq_getElem_cons (by rw[lk_];omega)]
          congr 1
          ·simp
          ·congr 1;omega
         have hle:=Vn_ (l.take (i+1)) (i+1-(j+1));rw[hst] at hle;have HST:=hh_ hst;have hTw:=HTw.out;have hbt:=(l[i-j]).toNat_lt;simp only[valU] at hle;have hw1:IntKind.u64.wrap (((l[i-j]).toNat:Int)%128) =((l[i-j]).toNat:Int)%128:=IntWalk.u64_in _ (by omega);have hw2:IntKind.u64.wrap ((valU ((l.take (i+1)).drop (i+1-j)):Int)*128) =(valU ((l.take (i+1)).drop (i+1-j)):Int)*128:=IntWalk.u64_in _ (by omega);have hw3:IntKind.u64.wrap ((valU ((l.take (i+1)).drop (i+1-j)):Int)*128+((l[i-j]).toNat:Int)%128) =(valU ((l.take (i+1)).drop (i+1-j)):Int)*128+((l[i-j]).toNat:Int)%128:=IntWalk.u64_in _ (by omega)
         have hij :((i:Nat):Int)-(j:Int) =((i-j:Nat):Int):=by omega
         rw[hij];have HIJ:=hh_ hij;clear hst hle hTw hij;obtain⟨V1,hV1⟩:∃V1,valU ((l.take (i+1)).drop (i+1-j))=V1:=⟨_,rfl⟩;rw[hV1] at hw2 hw3 ⊢;have HV1:=hh_ hV1;clear hV1;generalize l[i-j]=b2 at *
         (try rw[Nat.zero_sub,Nat.add_zero] at cj)
         have hk0 :(0:Int)≤((i-j:Nat):Int):=by omega
         have hk1 :((i-j:Nat):Int)<(l.length:Int):=by omega
         go_wp2_with fail
         exact⟨⟨j+1,by omega,congrArg _ (by omega),congrArg _ (by rw[HST.out];simp only[valU];rw[HV1.out];omega),hgj⟩,by simp[RowKit.intOf] <;> omega⟩
        ·obtain rfl:j=i+1:=by omega
         have hz :((i:Nat):Int)-((i+1:Nat):Int)=-1:=by omega
         rw[hz];clear hz
         go_wp2_with fail
         go_ret3
         exact Bx_ (by rw[HF.out];simp) hgj
    ·have HF:=hh_ (HSh.out (by omega) (by omega))
     obtain rfl:i=l.length:=by omega
     have h10':¬((l.length:Int)=10):=by omega
     go_wp2_with fail
     go_ret3
     exact Bx_ (by rw[HF.out];rfl) hg
end
section
open Go.RowKit
def numF (most:Nat) (over:Int) (l:List UInt8) (e:Int):Nat×List UInt8×Int:=
 if e≠0 then (0,l,e)
 else if (readF l).2.2≠0 then (0,l,(readF l).2.2)
 else if most<(readF l).1 then (0,l.drop (readF l).2.1,over)
 else ((readF l).1,l.drop (readF l).2.1,0)
abbrev weiF (l:List UInt8) (e:Int):Nat×List UInt8×Int:=numF 18446744073709551615 1 l e
theorem N1_ (l:List UInt8) (h :(readF l).2.2≠0) :(readF l).1=0∧(readF l).2.1=0∧((readF l).2.2=2∨(readF l).2.2=3):=by
 by_cases h1:bigs 10 l=10
 ·rw[Eb_ h1];simp
 by_cases h2:bigs 10 l<l.length
 ·by_cases h3 :(bigs 10 l=9∧1<l[bigs 10 l].toNat)∨(0<bigs 10 l∧l[bigs 10 l].toNat=0)
  ·rw[Ej_ h1 h2 h3];simp
  ·rw[F0_ h1 h2 h3] at h;simp at h
 ·rw[Dy_ h1 (by have:=Ds_ 10 l;omega)];simp
theorem Xi_ {most:Nat} {over:Int} {l:List UInt8} {e:Int} :(numF most over l e).1<18446744073709551616∧(numF most over l e).1≤most:=by
 have:=Fc_ l
 unfold numF
 split
 ·simp
 ·split
  ·simp
  ·split
   ·simp
   ·simp;omega
theorem C9_ {most:Nat} {over:Int} {l:List UInt8} {e:Int} :(numF most over l e).2.1.length≤l.length:=by
 unfold numF
 split
 ·exact le_ _
 ·split
  ·exact le_ _
  ·split <;> simp
end
section
open Go.RowKit Go.Sort
structure Rdr (B:Nat) (w:World) (g:Nat) (l:List UInt8) (e:Int):Prop where
 ex:∃a c,Blk w g #[.slice a l.length c,.int .i64 e]∧RdL byF 1 w (.slice a l.length c) l∧l.length≤c∧∀ad,a=some ad→0<l.length→ad.block<B
 hg:B≤g
theorem Eh_ {α:Type} {f:α→List Value} {s:Nat} {a:Option Addr} {n c:Nat} {l:List α} {r:Option Nat} {B:Nat} (h:RdL f s w (.slice a n c) l) (hg:w.grownBy w' r) (ha:∀ad,a=some ad→0<l.length→ad.block<B) (hr:∀k,r=some k→B≤k):RdL f s w' (.slice a n c) l:=by
 cases r with
 | none=>exact h.same hg
 | some k=>exact Rd.kept0 h hg fun h0 q e a' n' c' hv=>by cases e;cases hv;have:=ha _ rfl h0;have:=hr k rfl;omega
theorem Rdr.kept {B:Nat} {g:Nat} {l:List UInt8} {e:Int} {r:Option Nat} (h:Rdr B w g l e) (hg:w.grownBy w' r) (hr:r≠some g) (hB:∀k,r=some k→B≤k):Rdr B w' g l e:=by
 obtain⟨a,c,h1,h2,h3,h4⟩:=h.ex;exact⟨⟨a,c,h1.kept hg hr,Eh_ h2 hg h4 hB,h3,h4⟩,h.hg⟩
theorem Rdr.same {B:Nat} {g:Nat} {l:List UInt8} {e:Int} (h:Rdr B w g l e) (hg:w.grownBy w' none):Rdr B w' g l e:=h.kept hg (by simp) (by simp)
theorem Ns_ (ad:Addr) (k:Nat) :(ad.add k).block=ad.block:=by unfold Addr.add;split <;> rfl
theorem Rdr.setE {B:Nat} {g:Nat} {l:List UInt8} {e:Int} (h:Rdr B w g l e) (f:Int):Rdr B (w.setCell ⟨g,1,none⟩ (.int .i64 f)) g l f∧w.grownBy (w.setCell ⟨g,1,none⟩ (.int .i64 f)) (some g):=by
 obtain⟨a,c,h1,h2,h3,h4⟩:=h.ex;have hg:w.grownBy (w.setCell ⟨g,1,none⟩ (.int .i64 f)) (some g):=Ac_ (Ab_ w (some g)) 1 (.int .i64 f);exact⟨⟨⟨a,c,h1.set_ 1 _ rfl,Eh_ h2 hg h4 (fun k e=>by cases e;exact h.hg),h3,h4⟩,h.hg⟩,hg⟩
theorem Rdr.setB {B:Nat} {g:Nat} {l:List UInt8} {e:Int} {a:Option Addr} {c:Nat} (h1:Blk w g #[.slice a l.length c,.int .i64 e]) (h2:RdL byF 1 w (.slice a l.length c) l) (h3:l.length≤c) (h4:∀ad,a=some ad→0<l.length→ad.block<B) (hB:B≤g) {k:Nat} (hk:k≤l.length) :
  Rdr B (w.setCell ⟨g,0,none⟩ (.slice (if c=k then a else a.map (·.add k)) (l.length-k) (c-k))) g (l.drop k) e∧w.grownBy (w.setCell ⟨g,0,none⟩ (.slice (if c=k then a else a.map (·.add k)) (l.length-k) (c-k))) (some g):=by
 have h5:=RdL.drop Bv_ h2 hk h3 (c-k);rw[Nat.mul_one] at h5;have hg:w.grownBy (w.setCell ⟨g,0,none⟩ (.slice (if c=k then a else a.map (·.add k)) (l.length-k) (c-k))) (some g):=Ac_ (Ab_ w (some g)) 0 _
 have h6:∀ad,(if c=k then a else a.map (·.add k))=some ad→0<(l.drop k).length→ad.block<B:=by
  intro ad e h0
  have h0':0<l.length:=by rw[List.length_drop] at h0;omega
  split at e
  ·exact h4 ad e h0'
  ·obtain⟨x,hx,rfl⟩:=Option.map_eq_some_iff.1 e
   rw[Ns_];exact h4 x hx h0'
 generalize (if c=k then a else a.map (·.add k))=a' at *;have hl :(l.drop k).length=l.length-k:=List.length_drop;refine⟨⟨⟨a',c-k,?_,?_,by omega,h6⟩,hB⟩,hg⟩
 ·rw[hl];exact h1.set_ 0 _ rfl
 ·rw[hl];exact Eh_ h5 hg h6 fun k e=>by cases e;exact hB
theorem X6_ {l:List UInt8} {a:Option Addr} {n c:Nat} (h:RdL byF 1 w (.slice a n c) l) :(convert 63 9 (.slice a n c)).run prog w=.ok (.string ⟨l.toArray⟩) w:=by
 obtain⟨a',c',hv⟩:=Rd.shape h;cases hv
 rcases h.2.2 with⟨h0,_⟩ |⟨g,off,cap,hv,_,hc⟩
 ·obtain rfl:l=[]:=List.eq_nil_of_length_eq_zero h0
  cases a with
  | none=>exact run_convert_bytes_nil w 63 5 underlying63 underlying5 0 c _ underlying9
  | some ad=>
   rw[run_convert_bytes_string w 63 9 5 _ _ c underlying63 underlying5 underlying9];rw[show([]:List UInt8).length=0 from rfl,run_bytesToString w ad 0 c []]
   ·rfl
   ·exact run_loadCells_list w ad [] (fun j v hv=>by simp at hv)
 ·cases hv
  have hcl:∀i,i<l.length→w.cell? ⟨g,off+i,none⟩=some (.int .u8 ((l.map fun b=>(b.toNat:Int)).getD i 0)):=by
   intro i hi
   have e:∀(l:List UInt8) (i:Nat),i<l.length→(cellsOf byF l)[i]?=some (.int .u8 ((l.map fun b=>(b.toNat:Int)).getD i 0)):=by
    intro l
    induction l with
    | nil=>intro i hi;simp at hi
    | cons b l ih=>
     intro i hi
     cases i with
     | zero=>simp[cellsOf,byF]
     | succ i=>
      have:=ih i (by simpa using hi)
      simpa [cellsOf,byF] using this
   exact hc i _ (e l i hi)
  rw[run_convert_bytes_arg w 63 5 underlying63 underlying5 g off l.length c (l.map fun b=>(b.toNat:Int)) (by simp) hcl _ underlying9]
  congr 2
  unfold strOfNums
  congr 2
  rw[List.map_map]
  conv=>rhs;rw[←List.map_id l]
  apply List.map_congr_left
  intro b _
  simp
def NumP (B g:Nat) (w:World) (F:Nat×List UInt8×Int) (en:Ending) (w':World):Prop:=
 en=.returned (.int .u64 F.1)∧Rdr B w' g F.2.1 F.2.2∧w.grownBy w' (some g)
theorem Rdr.new {g:Nat} {l:List UInt8} {a:Option Addr} {c:Nat} (hr:RdL byF 1 w (.slice a l.length c) l) (hc:l.length≤c) (hb:Blk w' g #[.slice a l.length c,.int .i64 0]) (hg:w.grownBy w' none) (hB:w.heap.size≤g):Rdr w.heap.size w' g l 0:=
 ⟨⟨a,c,hb,hr.same hg,hc,fun ad e h0=>by subst e;exact Rd.blockLt hr h0 _ _ _ rfl⟩,hB⟩
end
section
open Go.RowKit Go.Sort
structure KyS (w0:World) (gk:Nat) (x:TagR) (v:Value) (l:List UInt8) (w:World):Prop where
 own:Own byF 1 5 w0.heap.size w v l
 blk:Blk w gk #[.string x.name,.string x.value]
 G:w0.grownBy w none
 ne:∀k,v.ownBlock=some k→k≠gk
theorem Sg_ {B gk:Nat} {w:World} {v:Value} {l:List UInt8} {s:ByteArray} (h:Own byF 1 5 B w v l) (hl:0<l.length) (hA:w.cell? ⟨gk,0,none⟩=some (.string s)):∀k,v.ownBlock=some k→k≠gk:=by
 obtain⟨g,cap,rfl,-,-,-,hcx,-⟩:=h.at_ Bv_ hl;intro k hk e;have c0:=hcx 0 _ rfl
 have:g=k:=by simpa [Value.ownBlock] using hk
 subst this;subst e;rw[Nat.zero_mul,Nat.add_zero,hA] at c0;cases c0
section
variable {w0 w w':World} {gk:Nat} {x:TagR} {v v':Value} {l l':List UInt8}
theorem KyS.grown (h:KyS w0 gk x v l w) (hg:w.grownBy w' v.ownBlock):w0.grownBy w' none:=Aq_ h.G h.own (le_ _) hg
theorem KyS.next (h:KyS w0 gk x v l w) (o:Own byF 1 5 w0.heap.size w' v' l') (hl:0<l'.length) (hg:w.grownBy w' v.ownBlock):KyS w0 gk x v' l' w':=by
 have hb:=h.blk.kept hg (fun e=>h.ne gk e rfl);exact⟨o,hb,h.grown hg,Sg_ o hl (by rw[hb.cell];rfl)⟩
end
theorem szB (s:ByteArray):s.data.toList.length=s.size:=Array.length_toList
theorem gl_ (v:Value) (L:List TagR) (w:World) (h:RdL tagF 2 w v L) (hW:∀t∈L,TagW t):Calls prog 65 #[v] w (KeyP L w):=by
 obtain⟨a,c,rfl⟩:=h.shape;have C:=hh_ (e1_ _ L w h hW);have HK:=hh_ (show keyE L=if sortE L≠0 then sortE L else if 255<(kyB (sortT L)).length then 4 else 0 from rfl);have HY:=hh_ (show keyY L=if keyE L=0 then ⟨(kyB (sortT L)).toArray⟩ else ⟨#[]⟩ from rfl);have H0:=hh_ (L0_ (L:=L));have Hlen:=hh_ (Eg_ L);have HM:=hh_ (Ci_ L);clear h hW
 go_enter func65,ntmps65
 by_cases hE:sortE L=0
 ·have C2:=C.out
  unfold Ou_ at C2;rw[hE,if_pos rfl] at C2;have C3:=hh_ C2;obtain⟨h0,h8,ht,-⟩:=H0.out hE;have HK2:=hh_ (HK.out.trans (if_neg (by omega)));have HT:=hh_ (fun t h=>Pg_ (ht t ((HM.out t).1 h)):∀t∈sortT L,_);clear C C2 HK H0 HM ht hE;generalize sortT L=S at *
  have hSl :(S.length:Int)≤8:=by have:=Hlen.out;omega
  go_upto_region 6 with(go_at_call 103;refine C3.out.mono ?_;rintro e w2 ⟨v2,rfl,o2,g2⟩;obtain⟨a2,c2,rfl⟩:=o2.shape)
  have HO:=hh_ o2;have HG:=hh_ g2;clear o2 g2
  go_loopw [19,6] (fun s19 s6 wk=>∃(k:Nat),k≤S.length∧s19=.int .i64 k∧Own byF 1 5 w2.heap.size wk s6 (kyB (S.take k))∧(kyB (S.take k)).length≤98*k∧w2.grownBy wk none) (fun s19 _ _=>S.length-(RowKit.intOf s19).toNat)
  case atStart=>exact⟨0,zl_ _,rfl,Own.nil _ _ _ _ _,by simp[kyB],Ab_ _ _⟩
  case round=>
   obtain⟨k,hk,rfl,hO,hOl,hg⟩:=hrel
   by_cases hlt:k<S.length
   ·obtain⟨gx,ox,cx,hv,hgx,hcx⟩:=(RdL.same HO.out.rd hg).at_ Au_ hlt
    cases hv;have c0:=hcx 0 _ rfl;have c1:=hcx 1 _ rfl;rw[Nat.add_zero] at c0;obtain⟨-,-,hn32,hv64⟩:=HT.out _ (mg_ hlt);have HS:=hh_ (show kyB (S.take (k+1))=kyB (S.take k)++tkB S[k] by rw[tg_ hlt,Ra_]);clear hcx;generalize S[k]=x at *;generalize kyB (S.take k)=O at *;have hw1:=J9_ (n:=x.name.size);have hw2:=J9_ (n:=x.value.size);have HB:=hh_ (show tkB x=UInt8.ofNat x.name.size::nmB x++(UInt8.ofNat x.value.size::vlB x) from rfl);obtain⟨b1,hb1⟩:∃b,UInt8.ofNat x.name.size=b:=⟨_,rfl⟩;obtain⟨b2,hb2⟩:∃b,UInt8.ofNat x.value.size=b:=⟨_,rfl⟩;rw[hb1] at hw1 HB;rw[hb2] at hw2 HB;clear hb1 hb2;have Hcs1:=hh_ (show(#[Value.int .u8 (b1.toNat:Int)]:Array Value).toList=byF b1 from rfl);have Hcs2:=hh_ (show(#[Value.int .u8 (b2.toNat:Int)]:Array Value).toList=byF b2 from rfl);obtain⟨oa,oc,rfl⟩:=hO.shape;have hol:=hO.lt
    go_upto_region 8 with fail
    have S0:KyS w2 wr.heap.size x (.slice oa O.length oc) O (wr.alloc (.cells #[.string x.name,.string x.value] 53)):=
     ⟨hO.same (ga_ _ _ _),Blk.new _ _ _,Ad_ hg _,fun k hk e=>by have:=(hol k hk).2;omega⟩
    generalize wr.alloc _=e0 at *;generalize wr.heap.size=gk at *;clear hO hol hg c0 c1 hgx;have a0:=S0.blk.cell
    have hb1 :(O.length+1)*1≤140737488355328:=by omega
    have hb2:O.length+1≤9223372036854775807:=by omega
    have hz:=S0.G.size
    go_upto_region 9 with(at_builtin;refine A9_ D6_ D9_ Bv_ S0.own b1 hb1 hb2 hz Hcs1.out ?_;intro v3 e1 o3 g3 l3)
    have S1:=S0.next o3 (by simp) g3;clear S0 a0 o3 g3 l3 hb1 hb2 hz
    have hL1 :(O++[b1]).length=O.length+1:=by simp
    generalize hO1:O++[b1]=O1 at *;have HE1:=hh_ hO1.symm;clear hO1;obtain⟨oa1,oc1,rfl⟩:=S1.own.shape;have a0:=S1.blk.cell
    have hb1:O1.length+x.name.size≤140737488355328:=by omega
    have hz:=S1.G.size
    go_upto_region 10 with(at_builtin;refine Lw_ S1.own x.name hb1 hz (by rfl) _ _ (by rfl) (by rfl) (by rfl) ?_;intro v4 e2 o4 g4)
    have S2:=S1.next o4 (by simp;omega) g4
    have hL2 :(O1++x.name.data.toList).length=O1.length+x.name.size:=by rw[la_,szB]
    have HE2:=hh_ (show O1++x.name.data.toList=O1++nmB x from rfl);clear S1 a0 o4 g4 hb1 hz;generalize O1++x.name.data.toList=O2 at *;obtain⟨oa2,oc2,rfl⟩:=S2.own.shape;have a0:=S2.blk.cell
    have hb1 :(O2.length+1)*1≤140737488355328:=by omega
    have hb2:O2.length+1≤9223372036854775807:=by omega
    have hz:=S2.G.size
    go_upto_region 11 with(at_builtin;refine A9_ D6_ D9_ Bv_ S2.own b2 hb1 hb2 hz Hcs2.out ?_;intro v5 e3 o5 g5 l5)
    have S3:=S2.next o5 (by simp) g5
    have hL3 :(O2++[b2]).length=O2.length+1:=by simp
    have HE3:=hh_ (show O2++[b2]=O2++[b2] from rfl);clear S2 a0 o5 g5 l5 hb1 hb2 hz;generalize hO3:O2++[b2]=O3 at *;replace HE3:=hh_ hO3;clear hO3;obtain⟨oa3,oc3,rfl⟩:=S3.own.shape;have a0:=S3.blk.cell
    have hb1:O3.length+x.value.size≤140737488355328:=by omega
    have hz:=S3.G.size
    go_upto_region 12 with(at_builtin;refine Lw_ S3.own x.value hb1 hz (by rfl) _ _ (by rfl) (by rfl) (by rfl) ?_;intro v6 e4 o6 g6)
    have o6':=hh_ o6;have G6:=S3.grown g6
    have hL4 :(O3++x.value.data.toList).length=O3.length+x.value.size:=by rw[la_,szB]
    have HEQ:=hh_ (show O3++x.value.data.toList=kyB (S.take (k+1)) by rw[HS.out,HB.out,←HE3.out,HE2.out,HE1.out];simp[vlB]);clear S3 a0 o6 g6 hb1 hz
    go_wp2_with fail
    exact⟨⟨k+1,by omega,by go_num,by rw[←HEQ.out];exact o6'.out,by rw[←HEQ.out,hL4];omega,G6⟩,by simp[RowKit.intOf];omega⟩
   ·have hke:S.take k=S:=tk_ (by omega)
    rw[hke] at hO hOl;generalize kyB S=OO at *;obtain⟨oa,oc,rfl⟩:=hO.shape;have hcv:=X6_ hO.rd;clear hke
    by_cases hlong:255<OO.length
    ·have j1 :(255:Int)<(OO.length:Int):=by omega
     have HF:=hh_ (show keyE L=4 by rw[HK2.out,if_pos hlong]);clear hlong hcv
     go_wp2_with fail
     go_ret2
     exact⟨by rw[HF.out,HY.out,HF.out];rfl,Aa_ HG.out hg⟩
    ·have j1 :(OO.length:Int)≤255:=by omega
     have HF:=hh_ (show keyE L=0 by rw[HK2.out,if_neg hlong]);have HQ:=hh_ (show keyY L =⟨OO.toArray⟩ by rw[HY.out,HF.out,if_pos rfl]);clear hlong
     go_wp2_with fail
     go_ret2
     exact⟨by rw[HF.out,HQ.out];rfl,Aa_ HG.out hg⟩
 ·have C2:=C.out
  unfold Ou_ at C2;have HF:=hh_ (HK.out.trans (if_pos hE));have HF2:=hh_ (show keyY L =⟨#[]⟩ by rw[HY.out,HF.out,if_neg hE]);generalize sortE L=EE at *;rw[if_neg hE] at C2;have C3:=hh_ C2
  have he2 :(EE != 0)=true:=by simpa using hE
  have he3 :(EE==0)=false:=by simpa using hE
  clear C C2 HK H0 HM hE
  go_wp2_with (go_at_call 103;refine C3.out.mono ?_;rintro e w2 ⟨v2,rfl,o2,g2⟩;obtain⟨a2,c2,rfl⟩:=o2.shape)
  go_ret2
  exact⟨by rw[HF.out,HF2.out];rfl,g2⟩
end
section
open Go.RowKit Go.Sort
def I5_ (k:ByteArray) (w:World) (e:Ending) (w':World):Prop:=∃v,e=.returned (.tuple #[v,.int .i64 (splitE k)])∧Own tagF 2 53 w.heap.size w' v (splitL k)∧w.grownBy w' none
theorem Bi_ {E:Int} (h:splitE k=E) (h0:E≠0) (hg:w.grownBy w' none):I5_ k w (.returned (.tuple #[.slice none 0 0,.int .i64 E])) w':=
 ⟨_,by rw[h],by unfold splitL;rw[if_neg (by omega)];exact Own.nil _ _ _ _ _,hg⟩
theorem hl_ {r:List UInt8} (h:cutF r=none) (hr:r.length≤1000000) (w:World):Calls prog 64 #[.string ⟨r.toArray⟩] w fun e w'=>e=.returned (.tuple #[.string ⟨#[]⟩,.string ⟨#[]⟩,.bool false])∧w.grownBy w' none:=
 (hp_ ⟨r.toArray⟩ w (by simpa [ByteArray.size] using hr)).mono fun e w' h1=>by
  unfold CutP at h1;rw[show(⟨r.toArray⟩:ByteArray).data.toList=r from rfl,h] at h1;exact⟨h1.2,h1.1⟩
theorem hb_ {r a s:List UInt8} (h:cutF r=some (a,s)) (hr:r.length≤1000000) (w:World):Calls prog 64 #[.string ⟨r.toArray⟩] w fun e w'=>e=.returned (.tuple #[.string ⟨a.toArray⟩,.string ⟨s.toArray⟩,.bool true])∧w.grownBy w' none:=
 (hp_ ⟨r.toArray⟩ w (by simpa [ByteArray.size] using hr)).mono fun e w' h1=>by
  unfold CutP at h1;rw[show(⟨r.toArray⟩:ByteArray).data.toList=r from rfl,h] at h1;exact⟨h1.2,h1.1⟩
theorem Qd_ {r:List UInt8} (h:cutF r=none):cut2 r=none:=by unfold cut2;rw[h]
theorem R0_ {r a s:List UInt8} (h:cutF r=some (a,s)) (h2:cutF s=none):cut2 r=none:=by unfold cut2;rw[h];simp only;rw[h2]
theorem Rj_ {r a s b u:List UInt8} (h:cutF r=some (a,s)) (h2:cutF s=some (b,u)):cut2 r=some (⟨⟨a.toArray⟩,⟨b.toArray⟩⟩,u):=by unfold cut2;rw[h];simp only;rw[h2]
theorem Hb_ {r a s:List UInt8} (h:cutF r=some (a,s)):a.length+s.length+1=r.length:=by
 obtain⟨b,rfl,_⟩:=Zf_ h
 simp
theorem bq_ (k:ByteArray) (w:World) (hk:k.size≤9223372036854775807):Calls prog 25 #[.string k] w (I5_ k w):=by
 by_cases hlong:255<k.size
 ·have HF:=hh_ (H0_ hlong)
  have i1 :(255:Int)<(k.size:Int):=by omega
  clear hlong
  go_enter func25,ntmps25
  go_wp2_with fail
  go_ret2
  exact Bi_ HF.out (by decide) (Ab_ _ _)
 have i1:¬(255:Int)<(k.size:Int):=by omega
 have i2 :(k.size:Int)≤255:=by omega
 have Hl:=hh_ hlong;have hkl:k.data.toList.length=k.size:=szB k;clear hlong
 go_enter func25,ntmps25
 go_upto_region 5 with fail
 go_loopw [5,4] (fun s5 s4 wk=>∃(r:List UInt8) (O:List TagR),s5=.string ⟨r.toArray⟩∧Own tagF 2 53 w.heap.size wk s4 O∧El_ O r=splitP k.data.toList∧O.length+r.length≤255∧(∀t∈O,TagW t)∧w.grownBy wk none) (fun s5 _ _=>match s5 with | .string b=>b.size | _=>0)
 case atStart=>exact⟨k.data.toList,[],rfl,Own.nil _ _ _ _ _,Rt_ _,by simp;omega,by simp,Ab_ _ _⟩
 case round=>
  obtain⟨r,O,rfl,hO,hA,hOl,hW,hg⟩:=hrel;have HA:=hh_ hA;have HW:=hh_ hW;clear hA hW;obtain⟨oa,oc,rfl⟩:=hO.shape
  by_cases hr:r=[]
  ·subst hr
   have HA2:=hh_ (show splitP k.data.toList=some O by rw[←HA.out,Kc_]);have CK:=hh_ (gl_ _ O wr hO.rd HW.out);have HO:=hh_ hO;have HG:=hh_ hg;clear hO hg HA
   by_cases hE:keyE O=0
   ·have hbe:=Mv_ (keyY O) k
    by_cases hY:keyY O=k
    ·obtain⟨HF1,HF2⟩:=F1_ Hl.out HA2.out hE hY
     have HF1:=hh_ HF1;have HF2:=hh_ HF2;rw[dt_ (by rw[hY])] at hbe;unfold KeyP at CK;rw[hE] at CK;generalize keyY O=ky at *;clear hE hY
     go_wp2_with (go_at_call 65;refine CK.out.mono ?_;rintro e w2 ⟨rfl,g2⟩)
     go_ret2
     exact⟨_,by rw[HF1.out];rfl,by rw[HF2.out];exact HO.out.same g2,Aa_ HG.out g2⟩
    ·have HF:=hh_ (Ez_ Hl.out HA2.out (.inr hY))
     have hY2:¬(keyY O).data.toList=k.data.toList:=fun e=>hY (Wc_ e▸(Wc_ (a:=k) rfl).symm▸rfl)
     rw[df_ hY2] at hbe;unfold KeyP at CK;rw[hE] at CK;generalize keyY O=ky at *;clear hE hY hY2
     go_wp2_with (go_at_call 65;refine CK.out.mono ?_;rintro e w2 ⟨rfl,g2⟩)
     go_ret2
     exact Bi_ HF.out (by decide) (Aa_ HG.out g2)
   ·have HF:=hh_ (Ez_ Hl.out HA2.out (.inl hE))
    unfold KeyP at CK;generalize keyY O=ky at *;generalize keyE O=EE at *
    have he2 :(EE != 0)=true:=by simpa using hE
    have he3 :(EE==0)=false:=by simpa using hE
    clear hE
    go_wp2_with (go_at_call 65;refine CK.out.mono ?_;rintro e w2 ⟨rfl,g2⟩)
    go_ret2
    exact Bi_ HF.out (by decide) (Aa_ HG.out g2)
  ·have hre:r.isEmpty=false:=by cases r <;> simp_all
   have hrl:r.length≤1000000:=by omega
   have HN:=hh_ hr;clear hr
   go_upto_region 8 with fail
   have A2:=Blk.new wr #[.string ⟨#[]⟩,.string ⟨#[]⟩] 53;have O2:=hO.same (ga_ wr (.cells #[.string ⟨#[]⟩,.string ⟨#[]⟩] 53) none);have G2:=Ad_ hg (.cells #[.string ⟨#[]⟩,.string ⟨#[]⟩] 53)
   have hlo:=fun k hk=>(hO.lt k hk).2
   have hz:=hg.size;generalize wr.alloc _=w2 at *;generalize wr.heap.size=gk at *;clear hO hg
   cases h1:cutF r with
   | none=>
    have HF:=hh_ (Gd_ Hl.out (by rw[←HA.out];exact Fw_ HN.out (Qd_ h1)));have C1:=hh_ (hl_ h1 hrl w2)
    have AA:=hh_ fun w' h=>A2.same (w':=w') h
    go_wp2_with (go_at_call 64;refine C1.out.mono ?_;rintro e w3 ⟨rfl,g3⟩;have a3:=(AA.out _ g3).cell;have f3:=(AA.out _ g3).free)
    go_ret2
    exact Bi_ HF.out (by decide) (Ai_ (Aa_ G2 g3) hz _)
   | some p=>
    obtain⟨ta,s⟩:=p;have hsl:=Hb_ h1;have C1:=hh_ (hb_ h1 hrl w2)
    have AA:=hh_ fun w' h=>A2.same (w':=w') h
    go_upto_region 11 with(go_at_call 64;refine C1.out.mono ?_;rintro e w3 ⟨rfl,g3⟩;have a3:=(AA.out _ g3).cell;have f3:=(AA.out _ g3).free)
    have A4:=(A2.same g3).set_ 0 (.string ⟨ta.toArray⟩) (cs':=#[.string ⟨ta.toArray⟩,.string ⟨#[]⟩]) rfl;have O4:=(O2.same g3).kept (Ac_ (Ab_ w3 (some gk)) 0 (.string ⟨ta.toArray⟩)) (fun q hq e=>by have:=hlo q hq;cases e;omega);have G4:=Ai_ (p:=⟨gk,0,none⟩) (Aa_ G2 g3) hz (.string ⟨ta.toArray⟩);clear O2 A2 AA C1 G2 a3 f3 g3;generalize w3.setCell ⟨gk,0,none⟩ (.string ⟨ta.toArray⟩)=w4 at *
    cases h2:cutF s with
    | none=>
     have HF:=hh_ (Gd_ Hl.out (by rw[←HA.out];exact Fw_ HN.out (R0_ h1 h2)));have C1:=hh_ (hl_ h2 (by omega) w4)
     have AA:=hh_ fun w' h=>A4.same (w':=w') h
     go_wp2_with (go_at_call 64;refine C1.out.mono ?_;rintro e w5 ⟨rfl,g5⟩;have a5:=(AA.out _ g5).cell;have f5:=(AA.out _ g5).free)
     go_ret2
     exact Bi_ HF.out (by decide) (Ai_ (Aa_ G4 g5) hz _)
    | some p=>
     obtain⟨tb,u⟩:=p;have hul:=Hb_ h2;have C1:=hh_ (hb_ h2 (by omega) w4)
     have AA:=hh_ fun w' h=>A4.same (w':=w') h
     have HS:=hh_ (Kb_ (L:=O) HN.out (Rj_ h1 h2))
     go_upto_region 14 with(go_at_call 64;refine C1.out.mono ?_;rintro e w5 ⟨rfl,g5⟩;have a5:=(AA.out _ g5).cell;have f5:=(AA.out _ g5).free)
     have A6:=(A4.same g5).set_ 1 (.string ⟨tb.toArray⟩) (cs':=#[.string ⟨ta.toArray⟩,.string ⟨tb.toArray⟩]) rfl;have O6:=(O4.same g5).kept (Ac_ (Ab_ w5 (some gk)) 1 (.string ⟨tb.toArray⟩)) (fun q hq e=>by have:=hlo q hq;cases e;omega);have G6:=Ai_ (p:=⟨gk,1,none⟩) (Aa_ G4 g5) hz (.string ⟨tb.toArray⟩);clear O4 A4 AA C1 G4 a5 f5 g5;generalize w5.setCell ⟨gk,1,none⟩ (.string ⟨tb.toArray⟩)=w6 at *;have a6:=A6.cell
     have hb1 :(O.length+1)*32≤140737488355328:=by omega
     have hb2:O.length+1≤9223372036854775807:=by omega
     have hz6:=G6.size
     have hta:ta.length≤255:=by omega
     have htb:tb.length≤255:=by omega
     have HTw:=hh_ (show TagW ⟨⟨ta.toArray⟩,⟨tb.toArray⟩⟩ from⟨by show ta.toArray.size≤_;simp;omega,by show tb.toArray.size≤_;simp;omega⟩);have HOl:=hh_ (show(O++[(⟨⟨ta.toArray⟩,⟨tb.toArray⟩⟩:TagR)]).length+u.length≤255 by simp;omega);have HUl:=hh_ (show u.length<r.length by omega)
     go_wp2_with (at_builtin;refine A9_ Co_ Dc_ Au_ O6 ⟨⟨ta.toArray⟩,⟨tb.toArray⟩⟩ hb1 hb2 hz6 (by rfl) ?_;intro v7 w7 o7 g7 l7)
     refine⟨⟨u,_,rfl,o7,by rw[←HS.out,HA.out],HOl.out,?_,Aq_ G6 O6 (le_ _) g7⟩,?_⟩
     ·intro t ht
      rcases ma_ ht with ht|ht
      ·exact HW.out t ht
      ·rw[ms_ ht];exact HTw.out
     ·show u.toArray.size<r.toArray.size
      simpa using HUl.out
end
section
open Go.RowKit
@[go_sem] theorem cx_ {P:Program} (w:World) (ts:Array TypeId) (t:TypeId) (k k' k'' k3:IntKind) (x y z u:Int) :(Builtin.max_ ts t #[.int k x,.int k' y,.int k'' z,.int k3 u]).run P w=.ok (.int k (max (max (max x y) z) u)) w:=by
 have e:∀a b:Int,(if b>a then b else a)=max a b:=fun a b=>by
  rw[Int.max_def];split <;> split <;> omega
 simp[Builtin.max_,Builtin.max2,e]
theorem Nk_ (c:Cfg) (l:List (Int×Int)) (t:List Int) (w:World) (hn:CfgNums c) (hm:CfgMem c l t w) (hc:G1_ c l) :
  Calls prog 75 #[c.val] w fun e w'=>e=.returned (.int .i64 0)∧w.grownBy w' none:=by
 obtain⟨a1,a2⟩:=hn.queue;obtain⟨a3,a4⟩:=hn.slots;obtain⟨a5,a6⟩:=hn.exact;obtain⟨a7,a8⟩:=hn.depth;obtain⟨a9,a10⟩:=hn.width;obtain⟨a11,a12⟩:=hn.top;obtain⟨a13,a14⟩:=hn.key;have b1:decide (c.Queue<1)=false:=df_ (by omega);have b2:decide (64<c.Queue)=false:=df_ (by omega);have b3:decide (c.Slots<1)=false:=df_ (by omega);have b4:decide (64<c.Slots)=false:=df_ (by omega);have b5:decide (c.Exact<0)=false:=df_ (by omega);have b6:decide (32<c.Exact)=false:=df_ (by omega);have b7:decide (c.Depth<1)=false:=df_ (by omega);have b8:decide (4<c.Depth)=false:=df_ (by omega);have b9:decide (c.Width<1)=false:=df_ (by omega);have b10:decide (256<c.Width)=false:=df_ (by omega);have b11:decide (c.Top<1)=false:=df_ (by omega);have b12:decide (64<c.Top)=false:=df_ (by omega);have b13:decide (c.Key<1)=false:=df_ (by omega);have b14:decide (255<c.Key)=false:=df_ (by omega);have hp:=hc.ok.pos;obtain⟨g,off,cap,hv,hgl,hcl⟩:=hm.classes.cell Du_ hp;obtain⟨p,hlast⟩:∃p,l[l.length-1]?=some p:=⟨l[l.length-1],gq_ (by omega)⟩;have c0:w.cell? ⟨g,off+(l.length-1)*2,none⟩=some (.int .i64 p.1):=hcl _ p hlast 0 _ rfl;obtain⟨q1,q2,q3⟩:=hc.last p hlast
 have e1 :((l.length:Int)-1).toNat=l.length-1:=by omega
 have e2 :(1:Int)≤l.length:=by omega
 have e3 :(0:Int)≤(l.length:Int)-1:=by omega
 have e4:1≤l.length:=hp;have e5:l.length≤8:=hc.ok.len;have b15:decide (p.1<max (max (max (8*c.Width) 32) 24) c.Key)=false:=df_ (by omega);have Hn:=hh_ hn;have Hm:=hh_ hm;have Hc:=hh_ hc;have Hv:=hh_ hv;have Hmode:=hh_ hn.mode;have hpos:=hh_ hp;clear hn hm hc hcl hlast hv a1 a2 a3 a4 a5 a6 a7 a8 a11 a12
 have am:∃m1 m2,(c.Mode != 1)=m1∧(c.Mode != 2)=m2∧(m1&&m2)=false:=by
  refine⟨_,_,rfl,rfl,?_⟩
  rcases Hmode.out with h|h <;> simp[h]
 obtain⟨m1,m2,am1,am2,am3⟩:=am;cases m1 <;> cases m2
 case true.true=>simp at am3
 all_goals
  clear am3
  go_enter func75,ntmps75
  go_upto_region 1 with(refine At_ rfl _ rfl c rfl ?_;intro w1 B1 G1 z1)
  simp only[List.append_eq,List.cons_append,List.nil_append]
  go_wp2_with (first |(refine At_ rfl _ rfl c rfl ?_;intro w1 B1 G1 z1) |(refine An_ rfl _ rfl _ rfl c (by assumption) ?_) |(refine Bd_ rfl _ rfl _ rfl c (by assumption) ?_) |(go_at_call 109;refine(au_ c _ Hn.out).mono ?_;rintro e w2 ⟨rfl,G2⟩;have B2:=B1.same G2;have K2:=Aa_ G1 G2;clear B1 G1 G2) |(go_at_call 110;refine(aj_ c l t _ Hn.out (Hm.out.same K2)).mono ?_;rintro e w3 ⟨rfl,G3⟩;have B3:=B2.same G3;have K3:=Aa_ K2 G3;have hb3:=B3.cell;clear B2 G3 K2) |(go_at_call 111;refine(Un_ _ l _ (Hm.out.same K3).classes Hc.out.ok).mono ?_;rintro e w4 ⟨rfl,G4⟩;have hb4:=(B3.same G4).cell;have K4:=hh_ (Aa_ K3 G4);simp only[Cfg.arr,Hv.out] at hb4;have hc4:=((Am_ K4.out).1 _ (off+(l.length-1)*2) hgl (by simp)).trans c0;clear hb3 B3 G4 K3))
  go_ret
  exact⟨rfl,K4.out⟩
theorem Mg_ (c:Cfg) (l:List (Int×Int)) (t:List Int) (w:World) (hn:CfgNums c) (hm:CfgMem c l t w) (hc:G1_ c l) :
  Calls prog 77 #[c.val] w fun e w'=>e=.returned (.int .i64 (c.Shards*c.Windows*(c.Slots+c.Exact)))∧w.grownBy w' none:=by
 obtain⟨a1,a2⟩:=hn.shards;obtain⟨a3,a4⟩:=hn.windows;obtain⟨a5,a6⟩:=hn.slots;obtain⟨a7,a8⟩:=hn.exact
 have m1:c.Shards*c.Windows≤64:=by
  have:=Int.mul_le_mul a2 a4 (by omega) (by omega);simpa using this
 have m0:0≤c.Shards*c.Windows:=Int.mul_nonneg (by omega) (by omega)
 have m2:c.Shards*c.Windows*(c.Slots+c.Exact)≤6144:=by
  have:=Int.mul_le_mul m1 (show c.Slots+c.Exact≤96 by omega) (by omega) (by omega);simpa using this
 have m3:0≤c.Shards*c.Windows*(c.Slots+c.Exact):=Int.mul_nonneg m0 (by omega);have Hn:=hh_ hn;have Hm:=hh_ hm;have Hc:=hh_ hc;clear hn hm hc
 go_enter func77,ntmps77
 go_wp2_with (first |(refine At_ rfl _ rfl c rfl ?_;intro w1 B1 G1 z1) |(refine An_ rfl _ rfl _ rfl c (by assumption) ?_) |(go_at_call 75;refine(Nk_ c l t _ Hn.out (Hm.out.same G1) Hc.out).mono ?_;rintro e w2 ⟨rfl,G2⟩;have hb2:=(BoxAt.same (by assumption) G2).cell))
 go_ret
 exact⟨rfl,Aa_ G1 G2⟩
end
section
open Go.RowKit
attribute [local go_sem ↓] Ag_
attribute [local go_sem] Ah_
end
section
open Go.RowKit
theorem he_ (sv:Value) (n:Nat) (xs:List Int) (w:World) (h:Rd w 1 sv n (xs.map (fun x=>Value.int .i64 x))) :
  Calls prog 17 #[sv] w fun e w'=>e=.returned (.pointer (some ⟨w.heap.size,0,none⟩))∧Deck w'.heap.size w' w.heap.size∧w.grownBy w' none:=by
 obtain⟨a,cap,rfl⟩:=h.shape;have H:=hh_ h;clear h
 go_enter func17,ntmps17
 go_wp2
 go_ret
 have G:w.grownBy (w.alloc (.cells #[.slice a n cap,.int .i64 (0:Nat)] 94)) none:=ga_ w _ _;have R:=H.out
 have hlt:0<n→∀a' n' c',Value.slice a n cap=.slice (some a') n' c'→a'.block<w.heap.size:=fun h0=>R.blockLt h0
 exact⟨rfl,⟨_,xs,0,n,heap_alloc_new w _,zl_ _,R.same G,fun h0 a' n' c' hv=>by have:=hlt h0 a' n' c' hv;omega,by simp,fun h0 a' n' c' hv=>by have:=hlt h0 a' n' c' hv;simp;omega⟩,G⟩
structure Nums0 (c:Cfg):Prop where
 length:1≤c.Length∧c.Length≤20
 lateness:0≤c.Lateness∧c.Lateness<15
 windows:1≤c.Windows∧c.Windows≤4
 shards:1≤c.Shards∧c.Shards≤4
 queue:1≤c.Queue∧c.Queue≤64
 mode:c.Mode=1∨c.Mode=2
 slots:1≤c.Slots∧c.Slots≤4
 exact:0≤c.Exact∧c.Exact≤3
 promote:0≤c.Promote∧c.Promote<40
 depth:1≤c.Depth∧c.Depth≤3
 width:1≤c.Width∧c.Width≤9
 top:1≤c.Top∧c.Top≤6
 key:5≤c.Key∧c.Key≤255
 seed:0≤c.Seed∧c.Seed<18446744073709551616
structure MakeSt (B b r g:Nat) (w:World) (c:Cfg) (t:List Int) (wx:World):Prop where
 nums:Nums0 c
 deck:Deck B wx b
 box:BoxAt wx g c
 res:BoxAt wx r Cfg.zero
 table:RdL wordF 1 wx c.Table t
 tlen:t.length=16
 twords:L5_ t
 tblock:∀a n k,c.Table=.slice (some a) n k→r<a.block∧a.block<g
 lt:r<g
 old:B≤r
 low:w.heap.size=r
 grown:w.grownBy wx (some b)
theorem MakeSt.next {B b r g:Nat} {c:Cfg} {wx wy:World} (S:MakeSt B b r g w c t wx) (hd:Deck B wy b) (hg:wx.grownBy wy (some b)):MakeSt B b r g w c t wy:=by
 have hb:=hd.below;have h1:=S.old;have h2:=S.lt;refine⟨S.nums,hd,S.box.kept hg (by simp;omega),S.res.kept hg (by simp;omega),S.table.kept hg ?_,S.tlen,S.twords,S.tblock,S.lt,S.old,S.low,Aa_ S.grown hg⟩;intro b' hb' a n k hv;cases hb'
 have:=S.tblock a n k hv
 omega
theorem MakeSt.row {B b r g:Nat} {c c':Cfg} {wx wy:World} (S:MakeSt B b r g w c t wx) (hbox:BoxAt wy g c') (hn:Nums0 c') (ht:c'.Table=c.Table) (hg:wx.grownBy wy (some g)):MakeSt B b r g w c' t wy:=by
 have h1:=S.old;have h2:=S.lt;have h3:=S.low;have h4:=S.grown.size;refine⟨hn,S.deck.kept hg (by intro x hx;cases hx;omega),hbox,S.res.kept hg (by simp;omega),?_,S.tlen,S.twords,?_,S.lt,S.old,S.low,?_⟩
 ·rw[ht]
  refine S.table.kept hg ?_;intro b' hb' a n k hv;cases hb'
  have:=S.tblock a n k hv
  omega
 ·rw[ht];exact S.tblock
 ·exact⟨hg.os.trans S.grown.os,hg.tape.trans S.grown.tape,hg.output.trans S.grown.output,lt_ S.grown.size hg.size,fun i hi hnn=>(hg.block i (ll_ hi S.grown.size) (by simp;omega)).trans (S.grown.block i hi hnn)⟩
theorem MakeSt.set {B b r g:Nat} {c c':Cfg} {wx:World} (S:MakeSt B b r g w c t wx) (o:Nat) (v:Value) (hc:c.arr.setIfInBounds o v=c'.arr) (hn:Nums0 c') (ht:c'.Table=c.Table) :
  MakeSt B b r g w c' t (wx.setCell ⟨g,o,none⟩ v):=
 S.row (S.box.setF o v hc) hn ht (Ac_ (Ab_ wx _) o v)
theorem MakeSt.same {B b r g:Nat} {c:Cfg} {wx wy:World} (S:MakeSt B b r g w c t wx) (hg:wx.grownBy wy none):MakeSt B b r g w c t wy:=
 S.next (S.deck.kept hg (by simp)) (Ak_ hg _)
def J5_ (l:List (Int×Int)):Array Value:=(cellsOf clsF l).toArray
def Dn_ (w:World) (k:Nat) (l:List (Int×Int)):Prop:=w.heap[k]?=some (.cells (J5_ l) 99)
theorem T0_ (l:List (Int×Int)) (i:Nat) (hi:i<l.length) (v:Int) :(cellsOf clsF l).set (i*2+1) (.int .i64 v)=cellsOf clsF (l.set i ((l.getD i (0,0)).1,v)):=by
 induction l generalizing i with
 | nil=>simp at hi
 | cons p l ih=>
  cases i with
  | zero=>simp[cellsOf,clsF]
  | succ i=>
   have:=ih i (by simpa using hi)
   simp only[cellsOf,List.flatMap_cons,List.set_cons_succ,List.getD_cons_succ,clsF] at *;rw[←this,show(i+1)*2+1 =(i*2+1)+1+1 by omega]
   simp
theorem Dn_.set {k:Nat} {l:List (Int×Int)} (h:Dn_ w k l) {i:Nat} (hi:i<l.length) (v:Int) :
  Dn_ (w.setCell ⟨k,i*2+1,none⟩ (.int .i64 v)) k (l.set i ((l.getD i (0,0)).1,v)):=by
 unfold Dn_;rw[Eq_ _ h]
 simp[J5_,T0_ l i hi v]
theorem Dn_.lt {k:Nat} {l:List (Int×Int)} (h:Dn_ w k l):k<w.heap.size:=(Array.getElem?_eq_some_iff.1 h).1
theorem Dn_.kept {k:Nat} {l:List (Int×Int)} {r:Option Nat} (h:Dn_ w k l) (hg:w.grownBy w' r) (hr:r≠some k):Dn_ w' k l:=
 (hg.block k h.lt (fun e=>hr e.symm)).trans h
theorem Dn_.rd {k:Nat} {l:List (Int×Int)} (h:Dn_ w k l) (hl:l.length≤9223372036854775807):RdL clsF 2 w (.slice (some ⟨k,0,none⟩) l.length l.length) l:=by
 refine⟨As_ _ 2 Du_ l,hl,.inr ⟨k,0,_,rfl,h.lt,fun j u hu=>?_⟩⟩;unfold Dn_ at h;simp only[World.cell?,h,J5_,Nat.zero_add]
 simpa using hu
theorem Dn_.cell {k:Nat} {l:List (Int×Int)} (h:Dn_ w k l) {i:Nat} (hi:i<l.length):∃x,w.cell? ⟨k,i*2+1,none⟩=some (.int .i64 x):=by
 have hg:=Fe_ clsF 2 Du_ l i 1 (by omega) l[i] (gq_ hi);unfold Dn_ at h;refine⟨l[i].2,?_⟩;simp only[World.cell?,h,J5_]
 simpa [clsF] using hg
theorem Dn_.free {k:Nat} {l:List (Int×Int)} (h:Dn_ w k l) (i:Nat):w.frozen? ⟨k,i,none⟩=false:=by
 unfold Dn_ at h;simp[World.frozen?,h]
def fiveL:List (Int×Int):=[(8,0),(24,0),(32,0),(80,0),(256,0)]
def oneL:List (Int×Int):=[(256,0)]
theorem fw_:Ow_ fiveL:=by
 refine⟨by decide,by decide,fun i p hp=>?_,fun i p q hp hq=>?_⟩
 ·have:=mo_ hp
  simp[fiveL] at this
  rcases this with rfl|rfl|rfl|rfl|rfl <;> simp
 ·have hi:i<4:=by have:=(gs_ hq).1;simp[fiveL] at this;omega
  have:i=0∨i=1∨i=2∨i=3:=by omega
  rcases this with rfl|rfl|rfl|rfl <;> simp[fiveL] at hp hq <;> subst hp <;> subst hq <;> simp
theorem hf_:Ow_ oneL:=by
 refine⟨by decide,by decide,fun i p hp=>?_,fun i p q hp hq=>?_⟩
 ·have:=mo_ hp
  simp[oneL] at this
  subst this;simp
 ·have hi:=(gs_ hq).1;simp[oneL] at hi
structure ClsSt (B b r g:Nat) (w:World) (c:Cfg) (t:List Int) (k:Nat) (l:List (Int×Int)) (wx:World):Prop where
 st:MakeSt B b r g w c t wx
 spread:1≤c.Spread∧c.Spread≤c.Shards
 cls:Dn_ wx k l
 val:c.Classes=.slice (some ⟨k,0,none⟩) l.length l.length
 lt:g<k
 len:0<l.length∧l.length≤8
theorem Mh_ {B b r g:Nat} {c:Cfg} {wx:World} (S:MakeSt B b r g w c t wx) (l:List (Int×Int)) (hl:0<l.length∧l.length≤8) (h:1≤c.Spread∧c.Spread≤c.Shards) :
  ClsSt B b r g w ⟨c.Length,c.Lateness,c.Windows,c.Shards,c.Spread,c.Queue,c.Mode,c.Slots,c.Exact,c.Promote,c.Depth,c.Width,c.Top,c.Key,.slice (some ⟨wx.heap.size,0,none⟩) l.length l.length,c.Table,c.Seed⟩ t wx.heap.size l
   ((wx.setCell ⟨g,14,none⟩ (.slice (some ⟨wx.heap.size,0,none⟩) l.length l.length)).alloc (.cells (J5_ l) 99)):=by
 have h1:=S.set (c':=⟨c.Length,c.Lateness,c.Windows,c.Shards,c.Spread,c.Queue,c.Mode,c.Slots,c.Exact,c.Promote,c.Depth,c.Width,c.Top,c.Key,.slice (some ⟨wx.heap.size,0,none⟩) l.length l.length,c.Table,c.Seed⟩) 14 (.slice (some ⟨wx.heap.size,0,none⟩) l.length l.length) rfl
  ⟨S.nums.1,S.nums.2,S.nums.3,S.nums.4,S.nums.5,S.nums.6,S.nums.7,S.nums.8,S.nums.9,S.nums.10,S.nums.11,S.nums.12,S.nums.13,S.nums.14⟩ rfl
 refine⟨h1.same (ga_ _ _ _),h,?_,rfl,S.box.lt,hl⟩
 have:=heap_alloc_new (wx.setCell ⟨g,14,none⟩ (.slice (some ⟨wx.heap.size,0,none⟩) l.length l.length)) (.cells (J5_ l) 99)
 unfold Dn_;rw[←this]
 simp[World.setCell]
theorem ClsSt.next {B b r g:Nat} {c:Cfg} {k:Nat} {l:List (Int×Int)} {wx wy:World} (S:ClsSt B b r g w c t k l wx) (hd:Deck B wy b) (hg:wx.grownBy wy (some b)):ClsSt B b r g w c t k l wy:=by
 have h1:=hd.below;have h2:=S.st.old;have h3:=S.st.lt;have h4:=S.lt;exact⟨S.st.next hd hg,S.spread,S.cls.kept hg (by simp;omega),S.val,S.lt,S.len⟩
theorem ClsSt.same {B b r g:Nat} {c:Cfg} {k:Nat} {l:List (Int×Int)} {wx wy:World} (S:ClsSt B b r g w c t k l wx) (hg:wx.grownBy wy none):ClsSt B b r g w c t k l wy:=
 S.next (S.st.deck.kept hg (by simp)) (Ak_ hg _)
theorem ClsSt.nums {B b r g:Nat} {c:Cfg} {k:Nat} {l:List (Int×Int)} {wx:World} (S:ClsSt B b r g w c t k l wx):CfgNums c:=by
 have h:=S.st.nums;have h2:=S.spread
 have:=h.length;have:=h.lateness;have:=h.windows;have:=h.shards;have:=h.queue;have:=h.slots;have:=h.exact;have:=h.promote;have:=h.depth;have:=h.width;have:=h.top;have:=h.key
 exact⟨by omega,by omega,by omega,by omega,h2,by omega,h.mode,by omega,by omega,by omega,by omega,by omega,by omega,by omega,h.seed⟩
theorem ClsSt.mem {B b r g:Nat} {c:Cfg} {k:Nat} {l:List (Int×Int)} {wx:World} (S:ClsSt B b r g w c t k l wx):CfgMem c l t wx:=
 ⟨by rw[S.val];exact S.cls.rd (by have:=S.len;omega),S.st.table,S.st.tlen,S.st.twords⟩
end
end Go.Proofs.YtckmgjmeanloaaaGreat
