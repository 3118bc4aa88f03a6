/- Contracts of functions, and laws. -/
import Derived.Test.YtckmgjmeanloaaaGreatBcac
set_option maxHeartbeats 8000000
set_option maxRecDepth 100000
namespace Go.Proofs.YtckmgjmeanloaaaGreat
open Go.Proofs.Tryz
variable {w w':World} {t:List Int} {k:ByteArray} {Q:Exit→Act→World→Prop} {ops:Array Oper} {o:Oper} {a:Act} {cs:Array Value}
section
def Ent.cnt (e:Ent):Int:=e.own+e.slack
def hasK (k:ByteArray) (e:Ent):Bool:=decide (e.key=k)
def getE (L:List Ent) (k:ByteArray):Option Ent:=L.find? (hasK k)
def delE (L:List Ent) (k:ByteArray):List Ent:=L.eraseP (hasK k)
def keysE (L:List Ent):List ByteArray:=L.map (·.key)
def ltK (a b:ByteArray):Bool:=decide (a.data.toList<b.data.toList)
def insE (L:List Ent) (e:Ent):List Ent:=L.takeWhile (fun x=>ltK x.key e.key)++e::L.dropWhile (fun x=>ltK x.key e.key)
def sortEn (L:List Ent):List Ent:=L.foldl insE []
def minE:List Ent→Option Ent
 | []=>none
 | e::L=>match minE L with
  | none=>some e
  | some x=>if x.cnt<e.cnt then some x else some e
structure Ents (L:List Ent):Prop where
 nodup :(keysE L).Nodup
 key:∀e∈L,0<e.key.size∧e.key.size≤255
 own:∀e∈L,1≤e.own
 slack:∀e∈L,0≤e.slack
theorem Aw_ {L:List Ent} {e:Ent} (h:getE L k=some e):e∈L∧e.key=k:=
 ⟨List.mem_of_find?_eq_some h,of_decide_eq_true (List.find?_some h:hasK k e=true)⟩
theorem Bj_ {L:List Ent}:getE L k=none↔k∉keysE L:=by
 simp only[getE,keysE,hasK,List.find?_eq_none,decide_eq_true_eq,List.mem_map,not_exists,not_and]
theorem B3_ {L:List Ent} {e:Ent} (h:e∈L):e.key∈keysE L:=List.mem_map_of_mem h
theorem Qt_ {L:List Ent}:k∈keysE L↔∃e∈L,e.key=k:=by simp[keysE]
theorem Dx_ {L:List Ent} (h :(keysE L).Nodup) {e:Ent} (he:e∈L):getE L e.key=some e:=by
 induction L with
 | nil=>simp at he
 | cons a L ih=>
  have hn:=List.nodup_cons.1 (by simpa [keysE] using h :(a.key::keysE L).Nodup);unfold getE
  by_cases ha:a.key=e.key
  ·rcases List.mem_cons.1 he with rfl|h1
   ·simp[hasK]
   ·exact absurd (ha▸B3_ h1) hn.1
  ·rcases List.mem_cons.1 he with rfl|h1
   ·exact absurd rfl ha
   ·rw[List.find?_cons_of_neg (by simpa [hasK] using ha)]
    exact ih hn.2 h1
theorem Dr_ (L:List Ent) (k:ByteArray) :(delE L k).Sublist L:=List.eraseP_sublist
theorem A1_ {L:List Ent} {e:Ent} (h:e∈delE L k):e∈L:=(Dr_ L k).subset h
theorem Kt_ {L M:List Ent} (h:L.Sublist M) :(keysE L).Sublist (keysE M):=h.map _
theorem A8_ {L:List Ent} (h :(keysE L).Nodup) {x:ByteArray}:x∈keysE (delE L k)↔x∈keysE L∧x≠k:=by
 induction L with
 | nil=>simp[delE,keysE]
 | cons a L ih=>
  have hn:=List.nodup_cons.1 (by simpa [keysE] using h :(a.key::keysE L).Nodup);unfold delE
  by_cases ha:a.key=k
  ·rw[List.eraseP_cons_of_pos (by simpa [hasK] using ha)]
   simp only[keysE,List.map_cons,List.mem_cons]
   constructor
   ·intro hx
    refine⟨.inr hx,fun e=>?_⟩;rw[e,←ha] at hx;exact hn.1 hx
   ·rintro⟨rfl|hx,hne⟩
    ·exact absurd ha hne
    ·exact hx
  ·rw[List.eraseP_cons_of_neg (by simpa [hasK] using ha)]
   have:=ih hn.2
   unfold delE at this;simp only[keysE,List.map_cons,List.mem_cons] at *;rw[this]
   constructor
   ·rintro(rfl |⟨hx,hne⟩)
    ·exact⟨.inl rfl,ha⟩
    ·exact⟨.inr hx,hne⟩
   ·rintro⟨rfl|hx,hne⟩
    ·exact .inl rfl
    ·exact .inr ⟨hx,hne⟩
theorem Jb_ {L:List Ent} {e:Ent} (h:getE L k=some e):L.Perm (e::delE L k):=by
 induction L with
 | nil=>simp[getE] at h
 | cons a L ih=>
  unfold getE at h;unfold delE
  by_cases ha:hasK k a
  ·rw[List.find?_cons_of_pos ha] at h
   cases h;rw[List.eraseP_cons_of_pos ha]
  ·rw[List.find?_cons_of_neg ha] at h
   rw[List.eraseP_cons_of_neg ha];exact((ih h).cons a).trans (List.Perm.swap _ _ _)
theorem B1_ {L:List Ent} {e:Ent} (h:getE L k=some e) :(delE L k).length+1=L.length:=by
 have:=(Jb_ h).length_eq;simp at this;omega
theorem Ents.sub {L M:List Ent} (h:Ents M) (hs:L.Sublist M):Ents L:=
 ⟨(Kt_ hs).nodup h.nodup,fun e he=>h.key e (hs.subset he),fun e he=>h.own e (hs.subset he),fun e he=>h.slack e (hs.subset he)⟩
theorem Ents.del {L:List Ent} (h:Ents L) (k:ByteArray):Ents (delE L k):=h.sub (Dr_ L k)
theorem Ents.snoc {L:List Ent} (h:Ents L) {e:Ent} (hk:e.key∉keysE L) (h1:0<e.key.size∧e.key.size≤255) (h2:1≤e.own) (h3:0≤e.slack):Ents (L++[e]):=by
 refine⟨?_,?_,?_,?_⟩
 ·simp only[keysE,List.map_append,List.map_cons,List.map_nil]
  refine List.nodup_append.2 ⟨h.nodup,by simp,fun a ha b hb=>?_⟩;rw[List.mem_singleton] at hb;subst hb
  exact fun e'=>hk (e'▸ha)
 all_goals
  intro x hx
  rcases ma_ hx with hx|hx
 ·exact h.key x hx
 ·rw[ms_ hx];exact h1
 ·exact h.own x hx
 ·rw[ms_ hx];exact h2
 ·exact h.slack x hx
 ·rw[ms_ hx];exact h3
theorem Ents.nil:Ents []:=⟨by simp[keysE],by simp,by simp,by simp⟩
theorem ey_ {L:List Ent} (h :(keysE L).Nodup) (k:ByteArray):k∉keysE (delE L k):=fun hx=>((A8_ h).1 hx).2 rfl
theorem Fv_:∀{L:List Ent} {e:Ent},minE L=some e→e∈L
 | [],e,h=>by simp[minE] at h
 | a::L,e,h=>by
  unfold minE at h
  cases hm:minE L with
  | none=>rw[hm] at h;cases h;simp
  | some x=>
   rw[hm] at h;dsimp only at h
   split at h
   ·cases h;exact List.mem_cons_of_mem _ (Fv_ hm)
   ·cases h;simp
theorem Ii_ {L:List Ent}:minE L=none↔L=[]:=by
 cases L with
 | nil=>simp[minE]
 | cons a L=>unfold minE;cases minE L <;> simp;split <;> simp
theorem Pp_:∀{L:List Ent} {e:Ent},minE L=some e→∀x∈L,e.cnt≤x.cnt
 | [],e,h=>by simp[minE] at h
 | a::L,e,h=>by
  intro x hx;unfold minE at h
  cases hm:minE L with
  | none=>
   rw[hm] at h;cases h;rw[Ii_.1 hm] at hx
   rcases ms_ hx with rfl
   exact Int.le_refl _
  | some y=>
   rw[hm] at h;dsimp only at h;have ih:=Pp_ hm
   split at h
   ·cases h
    rcases List.mem_cons.1 hx with rfl|hx
    ·omega
    ·exact ih x hx
   ·cases h
    rcases List.mem_cons.1 hx with rfl|hx
    ·exact Int.le_refl _
    ·have:=ih x hx;omega
structure TabM where
 (mode m:Int) (L:List Ent) (base sum:Int)
def mostW:Int:=9223372036854775808
def addErr (sum:Int) (k:ByteArray) (w:Int):Int:=if k.size=0 then 3 else if w=0 then 1 else if mostW<sum+w then 12 else 0
def minOwn (L:List Ent) (w:Int):Int:=L.foldl (fun d e=>min d e.own) w
def cutE (L:List Ent) (d:Int):List Ent:=(L.map fun e=>(⟨e.key,e.own-d,e.slack⟩:Ent)).filter fun e=>decide (0<e.own)
def TabM.add (T:TabM) (k:ByteArray) (w:Int):TabM:=
 match getE T.L k with
 | some e=>{ T with sum:=T.sum+w,L:=delE T.L k++[⟨k,e.own+w,e.slack⟩] }
 | none=>
  if T.mode=2 then
   if (T.L.length:Int)=T.m then
    { T with sum:=T.sum+w,base:=T.base+minOwn T.L w,L:=if 0<w-minOwn T.L w then cutE T.L (minOwn T.L w)++[⟨k,w-minOwn T.L w,0⟩] else cutE T.L (minOwn T.L w) }
   else { T with sum:=T.sum+w,L:=T.L++[⟨k,w,0⟩] }
  else
   match minE T.L with
   | some x=>if (T.L.length:Int)=T.m then { T with sum:=T.sum+w,base:=x.cnt,L:=delE T.L x.key++[⟨k,w,x.cnt⟩] } else { T with sum:=T.sum+w,L:=T.L++[⟨k,w,T.base⟩] }
   | none=>{ T with sum:=T.sum+w,L:=T.L++[⟨k,w,T.base⟩] }
def TabM.fix (T:TabM) (e:Ent):Ent:=if T.mode=2 then ⟨e.key,e.own,T.base⟩ else e
def TabM.get (T:TabM) (k:ByteArray):Option Ent:=(getE T.L k).map T.fix
def TabM.take (T:TabM) (k:ByteArray):TabM:={ T with L:=delE T.L k }
def TabM.swapE (T:TabM) (k:ByteArray) (e:Ent):Ent:=if T.mode=2 then ⟨e.key,e.own,0⟩ else if e.own<T.base then ⟨e.key,e.own,max e.slack (T.base-e.own)⟩ else e
def TabM.swap (T:TabM) (k:ByteArray) (e:Ent):TabM:={ T with L:=delE T.L k++[T.swapE k e] }
def TabM.swapOk (T:TabM) (x e:Ent):Prop:=if T.mode=2 then 1≤e.own∧e.own≤x.own∧e.slack≤T.base else e.cnt≤x.cnt
def TabM.entries (T:TabM):List Ent:=sortEn (T.L.map T.fix)
structure B5_ (T:TabM):Prop where
 mode:T.mode=1∨T.mode=2
 m:1≤T.m∧T.m≤64
 ents:Ents T.L
 len :(T.L.length:Int)≤T.m
 base:0≤T.base∧T.base≤T.sum
 sum:T.sum≤mostW
 cnt:∀e∈T.L,(T.fix e).cnt≤T.sum
 low:T.mode=1→∀e∈T.L,T.base≤e.cnt
 zero:T.mode=2→∀e∈T.L,e.slack=0
theorem B5_.new {mode m:Int} (h:mode=1∨mode=2) (hm:1≤m∧m≤64):B5_ ⟨mode,m,[],0,0⟩:=
 ⟨h,hm,Ents.nil,by simp;omega,by simp,by simp[mostW],by simp,by simp,by simp⟩
theorem In_:∀(L:List Ent) (w:Int),minOwn L w≤w∧∀e∈L,minOwn L w≤e.own:=by
 intro L
 induction L with
 | nil=>intro w;simp[minOwn]
 | cons a L ih=>
  intro w;have h1:=ih (min w a.own);have e1:minOwn (a::L) w=minOwn L (min w a.own):=rfl;rw[e1];refine⟨by omega,fun e he=>?_⟩
  rcases List.mem_cons.1 he with rfl|he
  ·omega
  ·exact h1.2 e he
theorem minOwn_pos {L:List Ent} {w:Int} (hw:1≤w) (h:∀e∈L,1≤e.own):1≤minOwn L w:=by
 induction L generalizing w with
 | nil=>simpa [minOwn] using hw
 | cons a L ih=>
  have ha:=h a (by simp)
  exact ih (w:=min w a.own) (by omega) fun e he=>h e (List.mem_cons_of_mem _ he)
theorem Hg_ {L:List Ent} {d:Int} {e:Ent} (h:e∈cutE L d):∃x∈L,e =⟨x.key,x.own-d,x.slack⟩∧0<x.own-d:=by
 obtain⟨h1,h2⟩:=List.mem_filter.1 h;obtain⟨x,hx,rfl⟩:=List.mem_map.1 h1;exact⟨x,hx,rfl,of_decide_eq_true h2⟩
theorem Gb_ (L:List Ent) (d:Int) :(keysE (cutE L d)).Sublist (keysE L):=by
 have h1 :(cutE L d).Sublist (L.map fun e=>(⟨e.key,e.own-d,e.slack⟩:Ent)):=List.filter_sublist
 have:=h1.map (·.key)
 simpa [keysE,List.map_map,Function.comp_def] using this
theorem Hc_ (L:List Ent) (d:Int) :(cutE L d).length≤L.length:=by
 have h1 :(cutE L d).length≤(L.map fun e=>(⟨e.key,e.own-d,e.slack⟩:Ent)).length:=List.length_filter_le _ _
 simpa using h1
theorem Ents.cut {L:List Ent} (h:Ents L) (d:Int):Ents (cutE L d):=by
 refine⟨(Gb_ L d).nodup h.nodup,fun e he=>?_,fun e he=>?_,fun e he=>?_⟩ <;> obtain⟨x,hx,rfl,h0⟩:=Hg_ he
 ·exact h.key x hx
 ·show 1≤x.own-d;omega
 ·exact h.slack x hx
theorem fix2 {T:TabM} (h:T.mode=2) (e:Ent):T.fix e =⟨e.key,e.own,T.base⟩:=if_pos h
theorem fix1 {T:TabM} (h:T.mode≠2) (e:Ent):T.fix e=e:=if_neg h
theorem Cn_ (T:TabM) (e:Ent) :(T.fix e).key=e.key:=by unfold TabM.fix;split <;> rfl
theorem Cp_ (T:TabM) (e:Ent) :(T.fix e).own=e.own:=by unfold TabM.fix;split <;> rfl
inductive ip_ (T:TabM) (k:ByteArray) (w:Int):Prop
 | cut (hm:T.mode=2) (hl :(T.L.length:Int)=T.m)
 | room (hl :(T.L.length:Int)≠T.m)
 | out (hm:T.mode≠2) (hl :(T.L.length:Int)=T.m) (x:Ent) (hx:minE T.L=some x)
theorem addNo {T:TabM} (h:B5_ T) (k:ByteArray) (w:Int):ip_ T k w:=by
 by_cases hl :(T.L.length:Int)=T.m
 ·by_cases hm:T.mode=2
  ·exact .cut hm hl
  ·cases hx:minE T.L with
   | none=>rw[Ii_.1 hx] at hl;have:=h.m;simp at hl;omega
   | some x=>exact .out hm hl x hx
 ·exact .room hl
theorem Ht_ {T:TabM} {w:Int} {e:Ent} (h:getE T.L k=some e):T.add k w={ T with sum:=T.sum+w,L:=delE T.L k++[⟨k,e.own+w,e.slack⟩] }:=by unfold TabM.add;rw[h]
theorem H4_ {T:TabM} {w:Int} (h:getE T.L k=none) (hm:T.mode=2) (hl :(T.L.length:Int)=T.m) :
  T.add k w={ T with sum:=T.sum+w,base:=T.base+minOwn T.L w,L:=if 0<w-minOwn T.L w then cutE T.L (minOwn T.L w)++[⟨k,w-minOwn T.L w,0⟩] else cutE T.L (minOwn T.L w) }:=by
 unfold TabM.add;rw[h];dsimp only;rw[if_pos hm,if_pos hl]
theorem Et_ {T:TabM} {w:Int} (h:getE T.L k=none) (hl :(T.L.length:Int)≠T.m) :
  T.add k w={ T with sum:=T.sum+w,L:=T.L++[⟨k,w,if T.mode=2 then 0 else T.base⟩] }:=by
 unfold TabM.add;rw[h];dsimp only
 by_cases hm:T.mode=2
 ·rw[if_pos hm,if_neg hl,if_pos hm]
 ·rw[if_neg hm,if_neg hm]
  cases hx:minE T.L with
  | none=>rfl
  | some x=>dsimp only;rw[if_neg hl]
theorem It_ {T:TabM} {w:Int} {x:Ent} (h:getE T.L k=none) (hm:T.mode≠2) (hl :(T.L.length:Int)=T.m) (hx:minE T.L=some x) :
  T.add k w={ T with sum:=T.sum+w,base:=x.cnt,L:=delE T.L x.key++[⟨k,w,x.cnt⟩] }:=by
 unfold TabM.add;rw[h];dsimp only;rw[if_neg hm,hx];dsimp only;rw[if_pos hl]
theorem Q7_ (T:TabM) (k:ByteArray) (w:Int) :(T.add k w).mode=T.mode∧(T.add k w).m=T.m∧(T.add k w).sum=T.sum+w:=by
 unfold TabM.add
 cases getE T.L k with
 | some e=>exact⟨rfl,rfl,rfl⟩
 | none=>
  dsimp only
  split
  ·split <;> exact⟨rfl,rfl,rfl⟩
  ·cases minE T.L with
   | none=>exact⟨rfl,rfl,rfl⟩
   | some x=>dsimp only;split <;> exact⟨rfl,rfl,rfl⟩
theorem B5_.add {T:TabM} (h:B5_ T) {w:Int} (hk:0<k.size∧k.size≤255) (hw:1≤w) (hs:T.sum+w≤mostW):B5_ (T.add k w):=by
 have hb:=h.base
 cases hg:getE T.L k with
 | some e=>
  rw[Ht_ hg];obtain⟨he,hek⟩:=Aw_ hg;have h1:=h.ents.own e he;have h2:=h.ents.slack e he;have h3:=h.cnt e he;refine⟨h.mode,h.m,(h.ents.del k).snoc (ey_ h.ents.nodup k) hk (by dsimp only;omega) h2,?_,⟨hb.1,by dsimp only;omega⟩,hs,?_,?_,fun hm x hx=>(ma_ hx).elim (fun hx=>h.zero hm x (A1_ hx)) fun hx=>by rw[ms_ hx];exact h.zero hm e he⟩
  ·have:=B1_ hg;have:=h.len;simp;omega
  ·intro x hx
   rcases ma_ hx with hx|hx
   ·have h4:=h.cnt x (A1_ hx)
    simp only[TabM.fix,Ent.cnt] at *
    split at h4 <;> simp_all <;> omega
   ·rw[ms_ hx]
    simp only[TabM.fix,Ent.cnt] at *
    split at h3 <;> simp_all <;> omega
  ·intro hm x hx
   rcases ma_ hx with hx|hx
   ·exact h.low hm x (A1_ hx)
   ·have h4:=h.low hm e he
    rw[ms_ hx];simp only[Ent.cnt] at *
    omega
 | none=>
  have hkn:k∉keysE T.L:=Bj_.1 hg
  rcases addNo h k w with⟨hm,hl⟩ |⟨hl⟩ |⟨hm,hl,x,hx⟩
  ·rw[H4_ hg hm hl]
   have hd:=In_ T.L w;have hp:=minOwn_pos hw h.ents.own
   have hc:∀x∈T.L,x.own+T.base≤T.sum:=fun x hx=>by have:=h.cnt x hx;rw[fix2 hm] at this;exact this
   have hlen:=Hc_ T.L (minOwn T.L w)
   have hno:k∉keysE (cutE T.L (minOwn T.L w)):=fun hx=>hkn ((Gb_ _ _).subset hx)
   have hcut:∀e∈cutE T.L (minOwn T.L w),e.own+(T.base+minOwn T.L w)≤T.sum+w:=fun e he=>by
    obtain⟨x,hx,rfl,_⟩:=Hg_ he
    have:=hc x hx
    dsimp only;omega
   have hC:=h.ents.cut (minOwn T.L w)
   have hlt:w-minOwn T.L w>0→(cutE T.L (minOwn T.L w)).length<T.L.length:=fun hlt=>by
    have hex:∃e∈T.L,e.own≤minOwn T.L w:=by
     have:∀(L:List Ent) (w:Int),minOwn L w=w∨∃e∈L,e.own=minOwn L w:=by
      intro L
      induction L with
      | nil=>intro w;exact .inl rfl
      | cons a L ih=>
       intro w;have e1:minOwn (a::L) w=minOwn L (min w a.own):=rfl;rw[e1]
       rcases ih (min w a.own) with h1 |⟨e,he,h1⟩
       ·by_cases hwa:w≤a.own
        ·exact .inl (by omega)
        ·exact .inr ⟨a,by simp,by omega⟩
       ·exact .inr ⟨e,List.mem_cons_of_mem _ he,h1⟩
     rcases this T.L w with h1 |⟨e,he,h1⟩
     ·omega
     ·exact⟨e,he,by omega⟩
    obtain⟨e,he,hle⟩:=hex;generalize minOwn T.L w=d at *
    have key:∀L:List Ent,e∈L→(cutE L d).length<L.length:=by
     intro L
     induction L with
     | nil=>intro h;simp at h
     | cons a L ih=>
      intro h
      have:=Hc_ L d
      unfold cutE at *;rw[List.map_cons,List.filter_cons]
      rcases List.mem_cons.1 h with rfl|h
      ·rw[if_neg (by simp;omega)]
       simp only[lc_];omega
      ·have:=ih h
       split <;> simp only[lc_] at*<;> omega
    exact key T.L he
   generalize minOwn T.L w=d at *;refine⟨h.mode,h.m,?_,?_,by dsimp only;omega,hs,?_,fun h1=>by dsimp only at h1;omega,?_⟩
   ·dsimp only
    split
    ·exact hC.snoc hno hk (by dsimp only;omega) (Int.le_refl _)
    ·exact hC
   ·dsimp only
    split
    ·have:=hlt (by omega);simp;omega
    ·omega
   ·intro e he
    rw[fix2 (T:={ T with sum:=T.sum+w,base:=T.base+d,L:=if 0<w-d then cutE T.L d++[⟨k,w-d,0⟩] else cutE T.L d }) hm];dsimp only at he
    split at he
    ·rcases ma_ he with he|he
     ·exact hcut e he
     ·rw[ms_ he];simp only[Ent.cnt];omega
    ·exact hcut e he
   ·intro _ e he
    have hz:∀e∈cutE T.L d,e.slack=0:=fun e he=>by
     obtain⟨y,hy,rfl,_⟩:=Hg_ he;exact h.zero hm y hy
    dsimp only at he
    split at he
    ·rcases ma_ he with he|he
     ·exact hz e he
     ·rw[ms_ he]
    ·exact hz e he
  ·rw[Et_ hg hl]
   have hlen:=h.len;refine⟨h.mode,h.m,h.ents.snoc hkn hk hw (by dsimp only;split <;> omega),by simp;omega,by dsimp only;omega,hs,?_,?_,fun hm x hx=>(ma_ hx).elim (fun hx=>h.zero hm x hx) fun hx=>by rw[ms_ hx];exact if_pos hm⟩
   ·intro x hx
    rcases ma_ hx with hx|hx
    ·have h4:=h.cnt x hx
     simp only[TabM.fix,Ent.cnt] at *
     split at h4 <;> simp_all <;> omega
    ·rw[ms_ hx]
     simp only[TabM.fix,Ent.cnt]
     split <;> simp_all <;> omega
   ·intro hm x hx
    rcases ma_ hx with hx|hx
    ·exact h.low hm x hx
    ·rw[ms_ hx]
     dsimp only at hm;simp only[Ent.cnt,if_neg (show ¬T.mode=2 by omega)]
     omega
  ·rw[It_ hg hm hl hx]
   have hx1:=Fv_ hx;have hx2:=Pp_ hx;have hm1:T.mode=1:=h.mode.resolve_right hm;have hxg:=Dx_ h.ents.nodup hx1;have hdl:=B1_ hxg;have hxc:=h.cnt x hx1;rw[fix1 hm] at hxc;have hxp:=h.low hm1 x hx1;refine⟨h.mode,h.m,(h.ents.del _).snoc (fun he=>hkn ((A8_ h.ents.nodup).1 he).1) hk hw (by dsimp only;omega),?_,by dsimp only;omega,hs,?_,?_,fun h2=>absurd h2 hm⟩
   ·have:=h.len;simp;omega
   ·intro e he
    rw[fix1 (T:={ T with sum:=T.sum+w,base:=x.cnt,L:=delE T.L x.key++[⟨k,w,x.cnt⟩] }) hm]
    rcases ma_ he with he|he
    ·have:=h.cnt e (A1_ he);rw[fix1 hm] at this;dsimp only;omega
    ·rw[ms_ he];simp only[Ent.cnt] at *;omega
   ·intro _ e he
    rcases ma_ he with he|he
    ·exact hx2 e (A1_ he)
    ·rw[ms_ he];simp only[Ent.cnt];omega
theorem B5_.take {T:TabM} (h:B5_ T) (k:ByteArray):B5_ (T.take k):=by
 refine⟨h.mode,h.m,h.ents.del k,?_,h.base,h.sum,fun e he=>h.cnt e (A1_ he),fun hm e he=>h.low hm e (A1_ he),fun hm e he=>h.zero hm e (A1_ he)⟩
 have:=(Dr_ T.L k).length_le
 have:=h.len
 show((delE T.L k).length:Int)≤T.m
 omega
theorem Ec_ (T:TabM) (k:ByteArray) (e:Ent) :(T.swapE k e).key=e.key:=by
 unfold TabM.swapE;split
 ·rfl
 ·split <;> rfl
theorem Iq_ (T:TabM) (k:ByteArray) (e:Ent) :(T.swapE k e).own=e.own:=by
 unfold TabM.swapE;split
 ·rfl
 ·split <;> rfl
theorem B5_.swap {T:TabM} (h:B5_ T) {x e:Ent} (hx:getE T.L k=some x) (hok:T.swapOk x e) (hk:0<e.key.size∧e.key.size≤255) (ho:1≤e.own) (hsl:0≤e.slack) (hn:e.key∉keysE T.L):B5_ (T.swap k e):=by
 obtain⟨hxm,hxk⟩:=Aw_ hx;have hdl:=B1_ hx;have hlen:=h.len;have hb:=h.base;have hc:=h.cnt x hxm
 have hn':e.key∉keysE (delE T.L k):=fun he=>hn ((A8_ h.ents.nodup).1 he).1
 have hs:0≤(T.swapE k e).slack:=by
  unfold TabM.swapE;split
  ·simp
  ·split
   ·dsimp only;omega
   ·exact hsl
 unfold TabM.swap;refine⟨h.mode,h.m,(h.ents.del k).snoc (by rw[Ec_];exact hn') (by rw[Ec_];exact hk) (by rw[Iq_];exact ho) hs,by simp;omega,hb,h.sum,?_,?_,fun hm y hy=>(ma_ hy).elim (fun hy=>h.zero hm y (A1_ hy)) fun hy=>by rw[ms_ hy];unfold TabM.swapE;rw[if_pos hm]⟩
 ·intro y hy
  rcases ma_ hy with hy|hy
  ·exact h.cnt y (A1_ hy)
  ·rw[ms_ hy]
   unfold TabM.swapOk at hok;unfold TabM.fix TabM.swapE;unfold TabM.fix at hc
   by_cases hm:T.mode=2
   ·simp only[if_pos hm,Ent.cnt] at *;omega
   ·have hl:=h.low (h.mode.resolve_right hm) x hxm
    simp only[if_neg hm,Ent.cnt] at *
    split <;> (try dsimp only) <;> omega
 ·intro hm y hy
  rcases ma_ hy with hy|hy
  ·exact h.low hm y (A1_ hy)
  ·rw[ms_ hy]
   have hm2:¬T.mode=2:=by dsimp only at hm;omega
   unfold TabM.swapE;rw[if_neg hm2];simp only[Ent.cnt] at *
   split <;> (try dsimp only) <;> omega
end
section
abbrev AscE (L:List Ent):Prop:=L.Pairwise fun x y=>x.key.data.toList<y.key.data.toList
theorem Xh_ {a b:ByteArray}:ltK a b=true↔a.data.toList<b.data.toList:=by simp[ltK]
theorem Od_ {a b:ByteArray} (h:a.data.toList=b.data.toList):a=b:=by
 cases a;cases b;simp only[ByteArray.mk.injEq];exact Array.ext' h
theorem Bb_ (L:List Ent) (e:Ent) :(insE L e).Perm (e::L):=by
 unfold insE;refine List.perm_middle.trans (List.Perm.cons e ?_);rw[List.takeWhile_append_dropWhile]
theorem Md_ {L:List Ent} {e:Ent} (h:AscE L) (hn:e.key∉keysE L):AscE (insE L e):=by
 induction L with
 | nil=>simp[insE,AscE]
 | cons a L ih=>
  obtain⟨h1,h2⟩:=List.pairwise_cons.1 h;simp only[keysE,List.map_cons,List.mem_cons,not_or] at hn
  by_cases ha:ltK a.key e.key=true
  ·have e1:insE (a::L) e=a::insE L e:=by simp[insE,ha]
   rw[e1];refine List.pairwise_cons.2 ⟨fun x hx=>?_,ih h2 hn.2⟩
   rcases List.mem_cons.1 ((Bb_ L e).mem_iff.1 hx) with rfl|hx
   ·exact Xh_.1 ha
   ·exact h1 x hx
  ·have e1:insE (a::L) e=e::a::L:=by simp[insE,ha]
   rw[e1]
   have hlt:e.key.data.toList<a.key.data.toList:=by
    refine b_lt (b_le.2 fun h'=>ha (Xh_.2 h')) fun h'=>hn.1 (Od_ h')
   refine List.pairwise_cons.2 ⟨fun x hx=>?_,h⟩
   rcases List.mem_cons.1 hx with rfl|hx
   ·exact hlt
   ·exact Fd_ hlt (h1 x hx)
theorem Jc_ (L:List Ent) (e:Ent):sortEn (L++[e])=insE (sortEn L) e:=by simp[sortEn]
theorem eb_ (L:List Ent):∀A:List Ent,AscE A→(keysE (A++L)).Nodup→AscE (L.foldl insE A)∧(L.foldl insE A).Perm (A++L):=by
 induction L with
 | nil=>intro A h _;exact⟨h,by simp⟩
 | cons e L ih=>
  intro A h hn
  have hn1:e.key∉keysE A:=by
   simp only[keysE,List.map_append,List.map_cons] at hn;intro he;exact(List.nodup_append.1 hn).2.2 _ he _ (by simp) rfl
  have hp :(insE A e++L).Perm (A++e::L):=((Bb_ A e).append_right L).trans (by simpa using List.perm_middle.symm);obtain⟨h1,h2⟩:=ih (insE A e) (Md_ h hn1) ((hp.map _).nodup_iff.2 hn);exact⟨h1,h2.trans hp⟩
theorem Ek_ {L:List Ent} (h :(keysE L).Nodup):AscE (sortEn L)∧(sortEn L).Perm L:=by
 have:=eb_ L [] (by simp[AscE]) (by simpa using h)
 simpa [sortEn] using this
theorem Fb_:∀{L M:List Ent},AscE L→AscE M→L.Perm M→L=M
 | [],M,_,_,h=>(List.nil_perm.1 h).symm
 | a::L,[],_,_,h=>by have:=h.length_eq;simp at this
 | a::L,b::M,h1,h2,h=>by
  obtain⟨h3,h4⟩:=List.pairwise_cons.1 h1;obtain⟨h5,h6⟩:=List.pairwise_cons.1 h2
  have hab:a=b:=by
   rcases List.mem_cons.1 (h.mem_iff.1 (List.mem_cons_self)) with e|e
   ·exact e
   ·rcases List.mem_cons.1 (h.mem_iff.2 (List.mem_cons_self)) with e'|e'
    ·exact e'.symm
    ·exact absurd (Fd_ (h3 b e') (h5 a e)) (C3_ _)
  subst hab;rw[Fb_ h4 h6 (List.Perm.cons_inv h)]
theorem T9_ {L M:List Ent} (h :(keysE L).Nodup) (hM:AscE M) (hp:M.Perm L):sortEn L=M:=
 Fb_ (Ek_ h).1 hM ((Ek_ h).2.trans hp.symm)
theorem Kh_ {L:List Ent} (h:AscE L) :(keysE L).Nodup:=by
 unfold keysE;refine List.pairwise_map.2 (h.imp fun {x y} hxy e=>?_);rw[e] at hxy;exact C3_ _ hxy
theorem So_ {L:List Ent} (h:AscE L):sortEn L=L:=T9_ (Kh_ h) h (List.Perm.refl _)
theorem Ents.perm {L M:List Ent} (h:Ents L) (hp:L.Perm M):Ents M:=
 ⟨(hp.map _).nodup_iff.1 h.nodup,fun e he=>h.key e (hp.mem_iff.2 he),fun e he=>h.own e (hp.mem_iff.2 he),fun e he=>h.slack e (hp.mem_iff.2 he)⟩
def lastMin:List Ent→Option Ent
 | []=>none
 | e::L=>match lastMin L with
  | none=>some e
  | some x=>if x.cnt≤e.cnt then some x else some e
theorem B7_:∀{L:List Ent} {e:Ent},lastMin L=some e→e∈L
 | [],e,h=>by simp[lastMin] at h
 | a::L,e,h=>by
  unfold lastMin at h
  cases hm:lastMin L with
  | none=>rw[hm] at h;cases h;simp
  | some x=>
   rw[hm] at h;dsimp only at h
   split at h
   ·cases h;exact List.mem_cons_of_mem _ (B7_ hm)
   ·cases h;simp
theorem Mt_ {L:List Ent}:lastMin L=none↔L=[]:=by
 cases L with
 | nil=>simp[lastMin]
 | cons a L=>unfold lastMin;cases lastMin L <;> simp;split <;> simp
def G3_ (S:List Ent) (k:ByteArray) (w:Int):List Ent:=S.map fun e=>if e.key=k then ⟨e.key,e.own+w,e.slack⟩ else e
theorem E6_ (S:List Ent) (k:ByteArray) (w:Int):keysE (G3_ S k w)=keysE S:=by
 unfold keysE G3_;rw[List.map_map]
 refine List.map_congr_left fun e _=>?_
 simp only[Function.comp]
 split <;> rfl
theorem M2_ (S:List Ent) (k:ByteArray) (w:Int) :(G3_ S k w).length=S.length:=by simp[G3_]
theorem Cy_ {S:List Ent} {w:Int} {e:Ent} (h:e∈G3_ S k w):∃x∈S,(x.key=k∧e =⟨x.key,x.own+w,x.slack⟩)∨(x.key≠k∧e=x):=by
 obtain⟨x,hx,rfl⟩:=List.mem_map.1 h;refine⟨x,hx,?_⟩
 by_cases hk:x.key=k
 ·exact .inl ⟨hk,by rw[if_pos hk]⟩
 ·exact .inr ⟨hk,by rw[if_neg hk]⟩
theorem Yd_ {L M:List Ent} (h:AscE L) (hk:keysE L=keysE M):AscE M:=by
 have h1 :(keysE L).Pairwise fun x y=>x.data.toList<y.data.toList:=List.pairwise_map.2 h
 rw[hk] at h1;exact(List.pairwise_map (f:=fun e:Ent=>e.key) (R:=fun x y:ByteArray=>x.data.toList<y.data.toList)).1 h1
def slotR (t:List Int) (s:Int) (k:ByteArray) (i:Nat) (row:List Int):Nat:=(slotF (hashF t (seedF s i) k) row.length).toNat
def putRow (row:List Int) (j:Nat) (n:Int):List Int:=row.set j (max (row.getD j 0) n)
def Bk_ (t:List Int) (s:Int) (k:ByteArray) (n:Int) (rows:List (List Int)):List (List Int):=rows.mapIdx fun i row=>putRow row (slotR t s k i row) n
structure Grid (d w:Int) (sum:Int) (rows:List (List Int)):Prop where
 depth :(rows.length:Int)=d
 width:∀row∈rows,(row.length:Int)=w
 num:∀row∈rows,∀x∈row,0≤x∧x≤sum
theorem Grid.mono {d w s s':Int} {rows:List (List Int)} (h:Grid d w s rows) (hs:s≤s'):Grid d w s' rows:=
 ⟨h.depth,h.width,fun row hr x hx=>by have:=h.num row hr x hx;omega⟩
theorem Kf_ (row:List Int) (j:Nat) (n:Int) :(putRow row j n).length=row.length:=by simp[putRow]
theorem mem_putRow {row:List Int} {j:Nat} {n x:Int} (h:x∈putRow row j n):x∈row∨(x=max (row.getD j 0) n):=by
 unfold putRow at h;exact List.mem_or_eq_of_mem_set h
theorem getD_mem {l:List Int} {j:Nat}:l.getD j 0=0∨l.getD j 0∈l:=by
 rw[List.getD_eq_getElem?_getD]
 cases h:l[j]? with
 | none=>exact .inl rfl
 | some x=>exact .inr (mo_ h)
theorem Grid.add {d w s:Int} {rows:List (List Int)} (h:Grid d w s rows) (t:List Int) (sd:Int) (k:ByteArray) {n:Int} (h0:0≤n) (h1:n≤s):Grid d w s (Bk_ t sd k n rows):=by
 unfold Bk_;refine⟨by rw[List.length_mapIdx];exact h.depth,fun row hr=>?_,fun row hr x hx=>?_⟩
 ·obtain⟨i,hi,rfl⟩:=List.mem_mapIdx.1 hr
  rw[Kf_];exact h.width _ (mg_ hi)
 ·obtain⟨i,hi,rfl⟩:=List.mem_mapIdx.1 hr
  rcases mem_putRow hx with hx|rfl
  ·exact h.num _ (mg_ hi) x hx
  ·rcases getD_mem (l:=rows[i]) (j:=slotR t sd k i rows[i]) with e|e
   ·rw[e];omega
   ·have:=h.num _ (mg_ hi) _ e;omega
theorem Grid.rowsOk {d w s:Int} {rows:List (List Int)} (h:Grid d w s rows) (hw:1≤w∧w≤256) (hs:s≤mostW):RowsOk rows:=fun row hr=>by
 have h1:=h.width row hr;refine⟨by omega,fun x hx=>?_⟩;have h2:=h.num row hr x hx;unfold mostW at hs;exact⟨h2.1,by omega⟩
theorem U8_ {d w sum:Int} {s:Int} {rows:List (List Int)} (h:Grid d w sum rows):∀n,0≤estI t s k rows n
 | 0=>by simp[estI]
 | n+1=>by
  have ih:0≤estI t s k rows n:=U8_ h n
  have hc:0≤Jh_ t s k n (rows.getD n []):=by
   unfold Jh_
   rcases getD_mem (l:=rows.getD n []) (j:=(slotF (hashF t (seedF s n) k) (rows.getD n []).length).toNat) with e|e
   ·rw[e];exact Int.le_refl _
   ·rw[List.getD_eq_getElem?_getD (l:=rows)] at e ⊢
    cases hr:rows[n]? with
    | none=>rw[hr] at e;simp at e
    | some row=>rw[hr] at e;exact(h.num row (mo_ hr) _ e).1
  show 0≤min _ _
  omega
theorem en_ {d w sum:Int} {s:Int} {rows:List (List Int)} (h:Grid d w sum rows) (h0:0≤sum):∀n,0<n→n≤rows.length→estI t s k rows n≤sum
 | n+1,_,hl=>by
  have hc:Jh_ t s k n (rows.getD n [])≤sum:=by
   unfold Jh_
   rcases getD_mem (l:=rows.getD n []) (j:=(slotF (hashF t (seedF s n) k) (rows.getD n []).length).toNat) with e|e
   ·rw[e];exact h0
   ·rw[List.getD_eq_getElem?_getD (l:=rows)] at e ⊢
    cases hr:rows[n]? with
    | none=>rw[hr] at e;simp at e
    | some row=>rw[hr] at e;exact(h.num row (mo_ hr) _ e).2
  show min _ _≤_
  omega
theorem K3_ {d w sum:Int} {s:Int} {rows:List (List Int)} (h:Grid d w sum rows) (h0:0≤sum) (hd:1≤d):0≤estF t s k rows∧estF t s k rows≤sum:=by
 have:=h.depth
 exact⟨U8_ h _,en_ h h0 _ (by omega) (le_ _)⟩
structure Ao_ where
 (T:TabM) (S:List Ent) (rows:List (List Int)) (sum:Int)
def Ao_.err (X:Ao_) (k:ByteArray) (w:Int):Int:=if k.size=0 then 3 else if 255<k.size then 4 else if w=0 then 1 else if mostW<X.sum+w then 12 else 0
def promo (ex pr:Int) (T:TabM) (S:List Ent) (k:ByteArray):TabM×List Ent:=
 match T.get k with
 | none=>(T,S)
 | some e=>
  if ex=0∨e.own<pr then (T,S)
  else if (S.length:Int)≠ex then (T.take k,insE S e)
  else match lastMin S with
   | none=>(T,S)
   | some x=>if e.own≤x.cnt then (T,S) else (T.swap k x,insE (delE S x.key) e)
def Ao_.add (c:Cfg) (t:List Int) (X:Ao_) (k:ByteArray) (w:Int):Ao_:=
 let rows:=Bk_ t c.Seed k (estF t c.Seed k X.rows+w) X.rows
 match getE X.S k with
 | some _=>⟨X.T,G3_ X.S k w,rows,X.sum+w⟩
 | none=>let p:=promo c.Exact c.Promote (X.T.add k w) X.S k;⟨p.1,p.2,rows,X.sum+w⟩
structure TierOk (c:Cfg) (X:Ao_):Prop where
 tab:B5_ X.T
 mode:X.T.mode=c.Mode∧X.T.m=c.Slots
 sums:X.T.sum≤X.sum∧X.sum≤mostW
 ents:Ents X.S
 asc:AscE X.S
 len :(X.S.length:Int)≤c.Exact
 apart:∀k∈keysE X.S,k∉keysE X.T.L
 cnt:∀e∈X.S,e.cnt≤X.sum
 low:X.T.mode=2→∀e∈X.S,e.slack≤X.T.base
 rows:Grid c.Depth c.Width X.sum X.rows
structure Kj_ (ex:Int) (T:TabM) (S:List Ent) (sum:Int):Prop where
 tab:B5_ T
 sums:T.sum≤sum
 ents:Ents S
 asc:AscE S
 len :(S.length:Int)≤ex
 apart:∀k∈keysE S,k∉keysE T.L
 cnt:∀e∈S,e.cnt≤sum
 low:T.mode=2→∀e∈S,e.slack≤T.base
theorem C5_ {T:TabM} {e:Ent} (h:T.get k=some e):∃x,getE T.L k=some x∧e=T.fix x∧e.key=k:=by
 unfold TabM.get at h
 cases hx:getE T.L k with
 | none=>rw[hx] at h;simp at h
 | some x=>rw[hx] at h;cases h;exact⟨x,rfl,rfl,by rw[Cn_];exact(Aw_ hx).2⟩
theorem Cx_ {T:TabM} (h:B5_ T) {x:Ent} (hx:x∈T.L):0≤(T.fix x).slack∧(T.mode=2→(T.fix x).slack=T.base):=by
 have:=h.ents.slack x hx
 have:=h.base
 unfold TabM.fix
 split
 ·exact⟨by dsimp only;omega,fun _=>rfl⟩
 ·exact⟨by omega,fun h2=>by omega⟩
inductive Z3_ (ex pr:Int) (T:TabM) (S:List Ent) (k:ByteArray):TabM×List Ent→Prop
 | no:Z3_ ex pr T S k (T,S)
 | take (e:Ent) (he:T.get k=some e) (hx:ex≠0) (hp:pr≤e.own) (hl :(S.length:Int)≠ex):Z3_ ex pr T S k (T.take k,insE S e)
 | swap (e x:Ent) (he:T.get k=some e) (hx:ex≠0) (hp:pr≤e.own) (hl :(S.length:Int)=ex) (hm:lastMin S=some x) (hlt:x.cnt<e.own):Z3_ ex pr T S k (T.swap k x,insE (delE S x.key) e)
theorem Lk_ (ex pr:Int) (T:TabM) (S:List Ent) (k:ByteArray):Z3_ ex pr T S k (promo ex pr T S k):=by
 unfold promo
 cases he:T.get k with
 | none=>exact .no
 | some e=>
  dsimp only
  split
  ·exact .no
  ·rename_i h
   split
   ·exact .take e he (by omega) (by omega) (by assumption)
   ·cases hm:lastMin S with
    | none=>exact .no
    | some x=>
     dsimp only
     split
     ·exact .no
     ·exact .swap e x he (by omega) (by omega) (by omega) hm (by omega)
theorem Pa_ {ex:Int} {T:TabM} {S:List Ent} {sum:Int} (h:Kj_ ex T S sum) {e x:Ent} (he:T.get k=some e) (hm:lastMin S=some x) (hlt:x.cnt<e.own):T.swapOk e x:=by
 obtain⟨y,hy,rfl,hk⟩:=C5_ he;have hxm:=B7_ hm;have h1:=h.ents.own x hxm;have h2:=h.ents.slack x hxm;have h3:=Cx_ h.tab (Aw_ hy).1;unfold TabM.swapOk;unfold Ent.cnt at hlt
 split
 ·rename_i hm2
  exact⟨h1,by omega,h.low hm2 x hxm⟩
 ·unfold Ent.cnt;omega
theorem keys_insE {S:List Ent} {e:Ent}:k∈keysE (insE S e)↔k=e.key∨k∈keysE S:=by
 have:=((Bb_ S e).map (·.key)).mem_iff (a:=k)
 simpa [keysE] using this
theorem Oa_ {S:List Ent} (h:Ents S) {e:Ent} (hk:e.key∉keysE S) (h1:0<e.key.size∧e.key.size≤255) (h2:1≤e.own) (h3:0≤e.slack):Ents (insE S e):=
 (h.snoc hk h1 h2 h3).perm ((List.perm_append_singleton e S).trans (Bb_ S e).symm)
theorem Fn_ (S:List Ent) (e:Ent) :(insE S e).length=S.length+1:=by simpa using (Bb_ S e).length_eq
theorem Kj_.step {ex pr:Int} {T:TabM} {S:List Ent} {sum:Int} (h:Kj_ ex T S sum) (k:ByteArray):Kj_ ex (promo ex pr T S k).1 (promo ex pr T S k).2 sum:=by
 have hlen:=h.len;have hP:=Lk_ ex pr T S k;generalize promo ex pr T S k=p at *
 rcases hP with _ |⟨e,he,hx,hp,hl⟩ |⟨e,x,he,hx,hp,hl,hm,hlt⟩
 ·exact h
 ·obtain⟨y,hy,rfl,hk⟩:=C5_ he
  have hym:=(Aw_ hy).1;have hs:=Cx_ h.tab hym;have hkT:k∈keysE T.L:=(Aw_ hy).2▸B3_ hym
  have hkS:k∉keysE S:=fun hx=>h.apart k hx hkT
  have hc:=h.tab.cnt y hym;have hsum:=h.sums;refine⟨h.tab.take k,h.sums,Oa_ h.ents (by rw[hk];exact hkS) (by rw[Cn_];exact h.tab.ents.key y hym) (by rw[Cp_];exact h.tab.ents.own y hym) hs.1,Md_ h.asc (by rw[hk];exact hkS),by rw[Fn_];omega,?_,?_,?_⟩
  ·intro z hz hz2
   have hz3:=(A8_ h.tab.ents.nodup).1 (show z∈keysE (delE T.L k) from hz2)
   rcases keys_insE.1 hz with rfl|hz
   ·exact hz3.2 hk
   ·exact h.apart z hz hz3.1
  ·intro z hz
   rcases List.mem_cons.1 ((Bb_ S _).mem_iff.1 hz) with rfl|hz
   ·omega
   ·exact h.cnt z hz
  ·intro hm2 z hz
   rcases List.mem_cons.1 ((Bb_ S _).mem_iff.1 hz) with rfl|hz
   ·exact Int.le_of_eq (hs.2 hm2)
   ·exact h.low hm2 z hz
 ·have hsw:=Pa_ h he hm hlt
  obtain⟨y,hy,rfl,hk⟩:=C5_ he;have hym:=(Aw_ hy).1;have hs:=Cx_ h.tab hym;have hkT:k∈keysE T.L:=(Aw_ hy).2▸B3_ hym
  have hkS:k∉keysE S:=fun hx=>h.apart k hx hkT
  have hc:=h.tab.cnt y hym;have hsum:=h.sums;have hxm:=B7_ hm;have hxk:x.key∈keysE S:=B3_ hxm;have hxT:x.key∉keysE T.L:=h.apart _ hxk;have hdl:=B1_ (Dx_ h.ents.nodup hxm)
  have hsw':T.swapOk y x:=by
   unfold TabM.swapOk at hsw ⊢;unfold TabM.fix at hsw
   by_cases h2:T.mode=2
   ·simp only[if_pos h2] at hsw ⊢;exact hsw
   ·simp only[if_neg h2] at hsw ⊢;exact hsw
  have hkd:k∉keysE (delE S x.key):=fun hz=>hkS ((A8_ h.ents.nodup).1 hz).1
  refine⟨h.tab.swap hy hsw' (h.ents.key x hxm) (h.ents.own x hxm) (h.ents.slack x hxm) hxT,h.sums,Oa_ (h.ents.del _) (by rw[hk];exact hkd) (by rw[Cn_];exact h.tab.ents.key y hym) (by rw[Cp_];exact h.tab.ents.own y hym) hs.1,Md_ (h.asc.sublist (Dr_ _ _)) (by rw[hk];exact hkd),by rw[Fn_];omega,?_,?_,?_⟩
  ·intro z hz hz2
   have hz3:z∈keysE (delE T.L k++[T.swapE k x]):=hz2;simp only[keysE,List.map_append,List.map_cons,List.map_nil,List.mem_append,List.mem_singleton,Ec_] at hz3
   rcases keys_insE.1 hz with rfl|hz
   ·rcases hz3 with hz3|hz3
    ·exact((A8_ h.tab.ents.nodup).1 hz3).2 hk
    ·rw[hk] at hz3
     exact hkS (hz3▸hxk)
   ·have hz4:=(A8_ h.ents.nodup).1 hz
    rcases hz3 with hz3|hz3
    ·exact h.apart z hz4.1 ((A8_ h.tab.ents.nodup).1 hz3).1
    ·exact hz4.2 hz3
  ·intro z hz
   rcases List.mem_cons.1 ((Bb_ _ _).mem_iff.1 hz) with rfl|hz
   ·omega
   ·exact h.cnt z (A1_ hz)
  ·intro hm2 z hz
   rcases List.mem_cons.1 ((Bb_ _ _).mem_iff.1 hz) with rfl|hz
   ·exact Int.le_of_eq (hs.2 hm2)
   ·exact h.low hm2 z (A1_ hz)
theorem add_keys {T:TabM} {w:Int} {z:ByteArray} (h:B5_ T) (hz:z∈keysE (T.add k w).L):z=k∨z∈keysE T.L:=by
 have hsn:∀(L:List Ent) (e:Ent),z∈keysE (L++[e])→z∈keysE L∨z=e.key:=fun L e hz=>by simpa [keysE,eq_comm] using hz
 cases hg:getE T.L k with
 | some e=>
  rw[Ht_ hg] at hz
  rcases hsn _ _ hz with hz|hz
  ·exact .inr ((Kt_ (Dr_ _ _)).subset hz)
  ·exact .inl hz
 | none=>
  rcases addNo h k w with⟨hm,hl⟩ |⟨hl⟩ |⟨hm,hl,x,hx⟩
  ·rw[H4_ hg hm hl] at hz
   dsimp only at hz
   split at hz
   ·rcases hsn _ _ hz with hz|hz
    ·exact .inr ((Gb_ _ _).subset hz)
    ·exact .inl hz
   ·exact .inr ((Gb_ _ _).subset hz)
  ·rw[Et_ hg hl] at hz
   rcases hsn _ _ hz with hz|hz
   ·exact .inr hz
   ·exact .inl hz
  ·rw[It_ hg hm hl hx] at hz
   rcases hsn _ _ hz with hz|hz
   ·exact .inr ((Kt_ (Dr_ _ _)).subset hz)
   ·exact .inl hz
theorem aw_ {T:TabM} (h:B5_ T) {w:Int} (hw:1≤w):T.base≤(T.add k w).base:=by
 cases hg:getE T.L k with
 | some e=>rw[Ht_ hg];exact Int.le_refl _
 | none=>
  rcases addNo h k w with⟨hm,hl⟩ |⟨hl⟩ |⟨hm,hl,x,hx⟩
  ·rw[H4_ hg hm hl]
   have:=minOwn_pos hw h.ents.own
   dsimp only;omega
  ·rw[Et_ hg hl];exact Int.le_refl _
  ·rw[It_ hg hm hl hx]
   exact h.low (h.mode.resolve_right hm) x (Fv_ hx)
theorem TierOk.pair {c:Cfg} {X:Ao_} (h:TierOk c X) {w:Int} (hk:0<k.size∧k.size≤255) (hw:1≤w) (hs:X.sum+w≤mostW) (hg:getE X.S k=none):Kj_ c.Exact (X.T.add k w) X.S (X.sum+w):=by
 have hss:=h.sums;have hT:=h.tab.add hk hw (show X.T.sum+w≤mostW by omega);obtain⟨a1,a2,a3⟩:=Q7_ X.T k w;refine⟨hT,by rw[a3];omega,h.ents,h.asc,h.len,fun z hz hz2=>?_,fun z hz=>by have:=h.cnt z hz;omega,fun hm z hz=>?_⟩
 ·rcases add_keys h.tab hz2 with rfl|hz2
  ·exact Bj_.1 hg hz
  ·exact h.apart z hz hz2
 ·rw[a1] at hm
  have:=h.low hm z hz
  have:=aw_ (k:=k) h.tab hw
  omega
theorem TierOk.add {c:Cfg} {X:Ao_} (h:TierOk c X) {w:Int} (hd:1≤c.Depth) (hk:0<k.size∧k.size≤255) (hw:1≤w) (hs:X.sum+w≤mostW):TierOk c (X.add c t k w):=by
 have hb:=h.tab.base;have hss:=h.sums;have he:=K3_ (t:=t) (s:=c.Seed) (k:=k) h.rows (by omega) hd;have hR:Grid c.Depth c.Width (X.sum+w) (Bk_ t c.Seed k (estF t c.Seed k X.rows+w) X.rows):=(h.rows.mono (by omega)).add t c.Seed k (by omega) (by omega);unfold Ao_.add
 cases hg:getE X.S k with
 | some e=>
  obtain⟨hem,hek⟩:=Aw_ hg;refine⟨h.tab,h.mode,⟨by dsimp only;omega,hs⟩,⟨by rw[E6_];exact h.ents.nodup,?_,?_,?_⟩,Yd_ h.asc (E6_ _ _ _).symm,by dsimp only;rw[M2_];exact h.len,by dsimp only;rw[E6_];exact h.apart,?_,?_,hR⟩
  ·intro z hz
   obtain⟨x,hx,⟨_,rfl⟩ |⟨_,rfl⟩⟩:=Cy_ hz
   ·exact h.ents.key x hx
   ·exact h.ents.key _ hx
  ·intro z hz
   obtain⟨x,hx,⟨_,rfl⟩ |⟨_,rfl⟩⟩:=Cy_ hz
   ·have:=h.ents.own x hx;dsimp only;omega
   ·exact h.ents.own _ hx
  ·intro z hz
   obtain⟨x,hx,⟨_,rfl⟩ |⟨_,rfl⟩⟩:=Cy_ hz
   ·exact h.ents.slack x hx
   ·exact h.ents.slack _ hx
  ·intro z hz
   obtain⟨x,hx,⟨_,rfl⟩ |⟨_,rfl⟩⟩:=Cy_ hz
   ·have:=h.cnt x hx;simp only[Ent.cnt] at *;omega
   ·have:=h.cnt _ hx;dsimp only;omega
  ·intro hm z hz
   obtain⟨x,hx,⟨_,rfl⟩ |⟨_,rfl⟩⟩:=Cy_ hz
   ·exact h.low hm x hx
   ·exact h.low hm _ hx
 | none=>
  obtain⟨a1,a2,a3⟩:=Q7_ X.T k w;have P:=h.pair hk hw hs hg;have Q:=P.step (pr:=c.Promote) k
  have hmm :(promo c.Exact c.Promote (X.T.add k w) X.S k).1.mode=c.Mode∧(promo c.Exact c.Promote (X.T.add k w) X.S k).1.m=c.Slots:=by
   have hP:=Lk_ c.Exact c.Promote (X.T.add k w) X.S k;generalize promo c.Exact c.Promote (X.T.add k w) X.S k=p at *
   rcases hP with _ | _ | _
   ·exact⟨a1.trans h.mode.1,a2.trans h.mode.2⟩
   ·exact⟨a1.trans h.mode.1,a2.trans h.mode.2⟩
   ·exact⟨a1.trans h.mode.1,a2.trans h.mode.2⟩
  dsimp only;exact⟨Q.tab,hmm,⟨Q.sums,hs⟩,Q.ents,Q.asc,Q.len,Q.apart,Q.cnt,Q.low,hR⟩
def rows0 (d n:Nat):List (List Int):=List.replicate d (List.replicate n 0)
def tier0 (c:Cfg):Ao_:=⟨⟨c.Mode,c.Slots,[],0,0⟩,[],rows0 c.Depth.toNat c.Width.toNat,0⟩
theorem TierOk.new {c:Cfg} (hm:c.Mode=1∨c.Mode=2) (hs:1≤c.Slots∧c.Slots≤64) (he:0≤c.Exact) (hd:0≤c.Depth) (hw:0≤c.Width):TierOk c (tier0 c):=by
 refine⟨B5_.new hm hs,⟨rfl,rfl⟩,⟨Int.le_refl _,by simp[tier0,mostW]⟩,Ents.nil,by simp[tier0,AscE],by simpa [tier0] using he,by simp[tier0,keysE],by simp[tier0],by simp[tier0],?_⟩;unfold tier0 rows0;refine⟨by simp;omega,fun row hr=>?_,fun row hr x hx=>?_⟩
 ·rw[List.eq_of_mem_replicate hr];simp;omega
 ·rw[List.eq_of_mem_replicate hr] at hx;rw[List.eq_of_mem_replicate hx];simp
end
section
abbrev Hist:=List (ByteArray×Int)
def wOf:Hist→ByteArray→Int
 | [],_=>0
 | p::h,k=>(if p.1=k then p.2 else 0)+wOf h k
def wAll:Hist→Int
 | []=>0
 | p::h=>p.2+wAll h
theorem Ok_ (h g:Hist) (k:ByteArray):wOf (h++g) k=wOf h k+wOf g k:=by
 induction h with
 | nil=>simp[wOf]
 | cons p h ih=>simp only[List.cons_append,wOf,ih];omega
theorem E5_ (h g:Hist):wAll (h++g)=wAll h+wAll g:=by
 induction h with
 | nil=>simp[wAll]
 | cons p h ih=>simp only[List.cons_append,wAll,ih];omega
theorem M1_ {h:Hist} (hp:∀p∈h,0≤p.2) (k:ByteArray):0≤wOf h k∧wOf h k≤wAll h:=by
 induction h with
 | nil=>simp[wOf,wAll]
 | cons p h ih=>
  have h1:=hp p (by simp)
  have h2:=ih fun q hq=>hp q (List.mem_cons_of_mem _ hq)
  simp only[wOf,wAll]
  split <;> omega
def Bq_ (L:List Ent):Int:=(L.map Ent.cnt).sum
def Bg_ (L:List Ent):Int:=(L.map (·.own)).sum
theorem Er_ (L M:List Ent):Bq_ (L++M)=Bq_ L+Bq_ M:=by simp[Bq_,List.sum_append]
theorem Ex_ (L M:List Ent):Bg_ (L++M)=Bg_ L+Bg_ M:=by simp[Bg_,List.sum_append]
theorem Q3_ {l m:List Int} (h:l.Perm m):l.sum=m.sum:=by
 induction h with
 | nil=>rfl
 | cons x _ ih=>simp[ih]
 | swap x y l=>simp only[List.sum_cons];omega
 | trans _ _ h1 h2=>exact h1.trans h2
theorem Pk_ {L M:List Ent} (h:L.Perm M):Bq_ L=Bq_ M:=Q3_ (h.map _)
theorem Om_ {L M:List Ent} (h:L.Perm M):Bg_ L=Bg_ M:=Q3_ (h.map _)
theorem Em_ {L:List Ent} {e:Ent} (h:getE L k=some e):Bq_ L=e.cnt+Bq_ (delE L k):=by
 have:=Pk_ (Jb_ h);simpa [Bq_] using this
theorem Gm_ {L:List Ent} {e:Ent} (h:getE L k=some e):Bg_ L=e.own+Bg_ (delE L k):=by
 have:=Om_ (Jb_ h);simpa [Bg_] using this
theorem Uj_ {L:List Ent} {b:Int} (h:∀e∈L,b≤e.cnt) :(L.length:Int)*b≤Bq_ L:=by
 induction L with
 | nil=>simp[Bq_]
 | cons a L ih=>
  have h1:=h a (by simp)
  have h2:=ih fun e he=>h e (List.mem_cons_of_mem _ he)
  simp only[Bq_,List.map_cons,List.sum_cons,lc_] at *;rw[show((L.length+1:Nat):Int)*b=L.length*b+b by rw[Int.natCast_add,Int.add_mul];simp]
  omega
theorem Wq_ {L:List Ent} (h:∀e∈L,1≤e.own):0≤Bg_ L:=by
 induction L with
 | nil=>simp[Bg_]
 | cons a L ih=>
  have h1:=h a (by simp)
  have h2:=ih fun e he=>h e (List.mem_cons_of_mem _ he)
  simp only[Bg_,List.map_cons,List.sum_cons] at *
  omega
theorem S6_ {L:List Ent} {d:Int} (h:∀e∈L,d≤e.own):Bg_ (cutE L d)=Bg_ L-L.length*d:=by
 induction L with
 | nil=>simp[Bg_,cutE]
 | cons a L ih=>
  have h1:=h a (by simp)
  have h2:=ih fun e he=>h e (List.mem_cons_of_mem _ he)
  have h3 :((L.length+1:Nat):Int)*d=L.length*d+d:=by rw[Int.natCast_add,Int.add_mul];simp
  unfold cutE Bg_ at *;rw[List.map_cons,List.filter_cons];simp only[List.map_cons,List.sum_cons,lc_];rw[h3]
  split
  ·rename_i hp
   simp only[List.map_cons,List.sum_cons]
   omega
  ·rename_i hp
   have:a.own-d=0:=by simp at hp;omega
   omega
structure Jg_ (f:ByteArray→Int) (T:TabM) (S:List Ent):Prop where
 tab:∀e∈T.L,e.own≤f e.key∧f e.key≤(T.fix e).cnt
 tsl:∀e∈T.L,(T.fix e).slack≤T.base
 sto:∀e∈S,e.own≤f e.key∧f e.key≤e.cnt
 ssl:∀e∈S,e.slack≤T.base
 no:∀k,k∉keysE T.L→k∉keysE S→f k≤T.base
 one:T.mode=1→Bq_ T.L+(T.m-T.L.length)*T.base≤T.sum
 two:T.mode=2→(T.m+1)*T.base+Bg_ T.L≤T.sum
def bump (f:ByteArray→Int) (k:ByteArray) (w:Int):ByteArray→Int:=fun x=>f x+if k=x then w else 0
theorem Cw_ (f:ByteArray→Int) (k:ByteArray) (w:Int):bump f k w k=f k+w:=by simp[bump]
theorem B6_ {f:ByteArray→Int} {k x:ByteArray} {w:Int} (h:k≠x):bump f k w x=f x:=by simp[bump,h]
theorem gu_ {L:List Ent} (hn :(keysE L).Nodup) {e:Ent} (h:e∈delE L k):k≠e.key:=fun e'=>((A8_ hn).1 (B3_ h)).2 e'.symm
theorem Q2_ (a b n:Int) :(a-(n+1))*b =(a-n)*b-b:=by rw[show a-(n+1) =(a-n)-1 by omega,Int.sub_mul];simp
theorem Jg_.add {f:ByteArray→Int} {T:TabM} {S:List Ent} (h:Jg_ f T S) (hT:B5_ T) {w:Int} (hw:1≤w) (hf:∀x,0≤f x) (hS:k∉keysE S):Jg_ (bump f k w) (T.add k w) S:=by
 have hb:=hT.base
 have hsk:∀e∈S,k≠e.key:=fun e he e'=>hS (e'▸B3_ he)
 have sto:∀e∈S,e.own≤bump f k w e.key∧bump f k w e.key≤e.cnt:=fun e he=>by rw[B6_ (hsk e he)];exact h.sto e he
 cases hg:getE T.L k with
 | some e=>
  rw[Ht_ hg];obtain⟨hem,hek⟩:=Aw_ hg;have he:=h.tab e hem;have hes:=h.tsl e hem;have hdl:=B1_ hg;refine⟨?_,?_,sto,h.ssl,?_,?_,?_⟩
  ·intro x hx
   rcases ma_ hx with hx|hx
   ·rw[B6_ (gu_ hT.ents.nodup hx)];exact h.tab x (A1_ hx)
   ·rw[ms_ hx]
    rw[hek] at he;dsimp only;rw[Cw_];unfold TabM.fix at he ⊢
    by_cases h2:T.mode=2
    ·simp only[if_pos h2,Ent.cnt] at he ⊢;omega
    ·simp only[if_neg h2,Ent.cnt] at he ⊢;omega
  ·intro x hx
   rcases ma_ hx with hx|hx
   ·exact h.tsl x (A1_ hx)
   ·rw[ms_ hx]
    unfold TabM.fix at hes ⊢
    by_cases h2:T.mode=2
    ·simp only[if_pos h2] at hes ⊢;omega
    ·simp only[if_neg h2] at hes ⊢;omega
  ·intro x hx hx2
   have hkx:k≠x:=fun e'=>hx (by subst e';simp[keysE])
   rw[B6_ hkx];refine h.no x (fun hm=>hx ?_) hx2
   have:=(A8_ hT.ents.nodup).2 ⟨hm,hkx.symm⟩
   simp only[keysE,List.map_append,List.mem_append];exact .inl this
  ·intro hm
   have h1:=h.one hm;have h2:=Em_ hg;dsimp only;rw[Er_]
   have h3 :((delE T.L k++[(⟨k,e.own+w,e.slack⟩:Ent)]).length:Int)=T.L.length:=by simp;omega
   rw[h3];simp only[Bq_,List.map_cons,List.map_nil,List.sum_cons,List.sum_nil,Ent.cnt] at *
   omega
  ·intro hm
   have h1:=h.two hm;have h2:=Gm_ hg;dsimp only;rw[Ex_];simp only[Bg_,List.map_cons,List.map_nil,List.sum_cons,List.sum_nil] at *
   omega
 | none=>
  have hkn:k∉keysE T.L:=Bj_.1 hg;have hfk:=h.no k hkn hS;have hfk0:=hf k
  have hne:∀e∈T.L,k≠e.key:=fun e he e'=>hkn (e'▸B3_ he)
  rcases addNo hT k w with⟨hm,hl⟩ |⟨hl⟩ |⟨hm,hl,x,hx⟩
  ·rw[H4_ hg hm hl]
   have hd:=In_ T.L w;have hp:=minOwn_pos hw hT.ents.own;have h2:=h.two hm;have hcs:=S6_ hd.2;generalize minOwn T.L w=d at *
   have hfx:∀e:Ent,T.fix e =⟨e.key,e.own,T.base⟩:=fun e=>fix2 hm e
   have hcut:∀e∈cutE T.L d,e.own≤bump f k w e.key∧bump f k w e.key≤e.own+(T.base+d):=fun e he=>by
    obtain⟨y,hy,rfl,_⟩:=Hg_ he
    have:=h.tab y hy
    rw[hfx] at this;simp only[Ent.cnt] at this;dsimp only;rw[B6_ (hne y hy)];omega
   have hin:∀{L:List Ent},(∀e,e∈L↔e∈(if 0<w-d then cutE T.L d++[(⟨k,w-d,0⟩:Ent)] else cutE T.L d))→∀e∈L,e.own≤bump f k w e.key∧bump f k w e.key≤e.own+(T.base+d):=fun hL e he=>by
    have he:=(hL e).1 he
    split at he
    ·rcases ma_ he with he|he
     ·exact hcut e he
     ·rw[ms_ he];dsimp only;rw[Cw_];omega
    ·exact hcut e he
   refine⟨?_,?_,sto,fun e he=>by have:=h.ssl e he;dsimp only;omega,?_,fun h1=>by dsimp only at h1;omega,?_⟩
   ·intro e he
    have:=hin (fun _=>Iff.rfl) e he
    unfold TabM.fix;dsimp only;rw[if_pos hm];simp only[Ent.cnt];exact this
   ·intro e he
    unfold TabM.fix;dsimp only;rw[if_pos hm];exact Int.le_refl _
   ·intro z hz hz2
    by_cases hkz:k=z
    ·subst hkz
     rw[Cw_];dsimp only at hz ⊢
     split at hz
     ·exact absurd (show k∈keysE (cutE T.L d++[(⟨k,w-d,0⟩:Ent)]) by simp[keysE]) hz
     ·omega
    ·rw[B6_ hkz]
     dsimp only at hz ⊢
     have hz3:z∉keysE (cutE T.L d):=fun hm2=>hz (by split <;> simp only[keysE,List.map_append,List.mem_append] <;> first|exact .inl hm2|exact hm2)
     by_cases hzT:z∈keysE T.L
     ·obtain⟨y,hy,rfl⟩:=Qt_.1 hzT
      have h3:=h.tab y hy;rw[hfx] at h3;simp only[Ent.cnt] at h3
      have hy0:¬0<y.own-d:=fun hlt=>hz3 (Qt_.2 ⟨⟨y.key,y.own-d,y.slack⟩,List.mem_filter.2 ⟨List.mem_map.2 ⟨y,hy,rfl⟩,dt_ hlt⟩,rfl⟩)
      omega
     ·have:=h.no z hzT hz2;omega
   ·intro _
    dsimp only
    have e1 :(T.m+1)*(T.base+d) =(T.m+1)*T.base+T.m*d+d:=by rw[Int.mul_add,Int.add_mul T.m 1 d];omega
    have e2:Bg_ (if 0<w-d then cutE T.L d++[(⟨k,w-d,0⟩:Ent)] else cutE T.L d)=Bg_ (cutE T.L d)+(w-d):=by
     split
     ·rw[Ex_];simp[Bg_]
     ·omega
    rw[e1,e2,hcs,hl]
    omega
  ·rw[Et_ hg hl]
   have hlen:=hT.len;refine⟨?_,?_,sto,h.ssl,?_,?_,?_⟩
   ·intro e he
    rcases ma_ he with he|he
    ·rw[B6_ (hne e he)];exact h.tab e he
    ·rw[ms_ he]
     dsimp only;rw[Cw_];unfold TabM.fix
     by_cases h2:T.mode=2
     ·simp only[if_pos h2,Ent.cnt];omega
     ·simp only[if_neg h2,Ent.cnt];omega
   ·intro e he
    rcases ma_ he with he|he
    ·exact h.tsl e he
    ·rw[ms_ he]
     unfold TabM.fix
     by_cases h2:T.mode=2
     ·simp only[if_pos h2];omega
     ·simp only[if_neg h2];omega
   ·intro z hz hz2
    have hkz:k≠z:=fun e'=>hz (by subst e';simp[keysE])
    rw[B6_ hkz];exact h.no z (fun hm=>hz (by simp only[keysE,List.map_append,List.mem_append];exact .inl hm)) hz2
   ·intro hm
    have h1:=h.one hm
    have h2:¬T.mode=2:=by dsimp only at hm;omega
    dsimp only;rw[Er_,if_neg h2]
    have h3 :((T.L++[(⟨k,w,T.base⟩:Ent)]).length:Int)=T.L.length+1:=by simp
    rw[h3,Q2_];simp only[Bq_,List.map_cons,List.map_nil,List.sum_cons,List.sum_nil,Ent.cnt] at *
    omega
   ·intro hm
    have h1:=h.two hm;dsimp only;rw[Ex_];simp only[Bg_,List.map_cons,List.map_nil,List.sum_cons,List.sum_nil] at *
    omega
  ·rw[It_ hg hm hl hx]
   have hm1:T.mode=1:=hT.mode.resolve_right hm;have hxm:=Fv_ hx;have hxl:=Pp_ hx;have hxg:=Dx_ hT.ents.nodup hxm;have hdl:=B1_ hxg;have hxb:=hT.low hm1 x hxm
   have hfx:∀(U:TabM),U.mode=T.mode→∀e:Ent,U.fix e=e:=fun U hU e=>fix1 (by omega) e
   have hxt:=h.tab x hxm;rw[hfx T rfl] at hxt;refine⟨?_,?_,sto,fun e he=>by have:=h.ssl e he;dsimp only;omega,?_,?_,fun h2=>by dsimp only at h2;omega⟩
   ·intro e he
    rw[hfx { T with sum:=T.sum+w,base:=x.cnt,L:=delE T.L x.key++[⟨k,w,x.cnt⟩] } rfl]
    rcases ma_ he with he|he
    ·have:=h.tab e (A1_ he)
     rw[hfx T rfl] at this;rw[B6_ (hne e (A1_ he))];exact this
    ·rw[ms_ he];dsimp only;rw[Cw_];simp only[Ent.cnt] at *;omega
   ·intro e he
    rw[hfx { T with sum:=T.sum+w,base:=x.cnt,L:=delE T.L x.key++[⟨k,w,x.cnt⟩] } rfl]
    rcases ma_ he with he|he
    ·have:=h.tsl e (A1_ he)
     rw[hfx T rfl] at this;dsimp only;omega
    ·rw[ms_ he];exact Int.le_refl _
   ·intro z hz hz2
    have hkz:k≠z:=fun e'=>hz (by subst e';simp[keysE])
    rw[B6_ hkz];dsimp only
    have hz3:z∉keysE (delE T.L x.key):=fun hm2=>hz (by simp only[keysE,List.map_append,List.mem_append];exact .inl hm2)
    by_cases hzT:z∈keysE T.L
    ·have:z=x.key:=Decidable.byContradiction fun hne=>hz3 ((A8_ hT.ents.nodup).2 ⟨hzT,hne⟩)
     subst this;exact hxt.2
    ·have:=h.no z hzT hz2;omega
   ·intro _
    have h1:=h.one hm1;have h2:=Em_ hxg;dsimp only;rw[Er_]
    have h3 :((delE T.L x.key++[(⟨k,w,x.cnt⟩:Ent)]).length:Int)=T.L.length:=by simp;omega
    rw[h3];rw[show T.m-(T.L.length:Int)=0 by omega] at h1 ⊢;simp only[Bq_,List.map_cons,List.map_nil,List.sum_cons,List.sum_nil,Ent.cnt,Int.zero_mul] at *
    omega
theorem Jg_.step {f:ByteArray→Int} {ex pr:Int} {T:TabM} {S:List Ent} {sum:Int} (h:Jg_ f T S) (hP:Kj_ ex T S sum) (k:ByteArray):Jg_ f (promo ex pr T S k).1 (promo ex pr T S k).2:=by
 have hT:=hP.tab;have hb:=hT.base;have hpr:=Lk_ ex pr T S k;generalize promo ex pr T S k=p at *
 rcases hpr with _ |⟨e,he,hx,hp,hl⟩ |⟨e,x,he,hx,hp,hl,hm,hlt⟩
 ·exact h
 ·obtain⟨y,hy,rfl,hk⟩:=C5_ he
  obtain⟨hym,hyk⟩:=Aw_ hy;have hyt:=h.tab y hym;have hys:=h.tsl y hym;have hdl:=B1_ hy;refine⟨fun e he=>h.tab e (A1_ he),fun e he=>h.tsl e (A1_ he),?_,?_,?_,?_,?_⟩
  ·intro z hz
   rcases List.mem_cons.1 ((Bb_ S _).mem_iff.1 hz) with rfl|hz
   ·rw[Cn_,Cp_];exact hyt
   ·exact h.sto z hz
  ·intro z hz
   rcases List.mem_cons.1 ((Bb_ S _).mem_iff.1 hz) with rfl|hz
   ·exact hys
   ·exact h.ssl z hz
  ·intro z hz hz2
   have hz3:z≠k∧z∉keysE S:=⟨fun e'=>hz2 (keys_insE.2 (.inl (by rw[hk];exact e'))),fun hm=>hz2 (keys_insE.2 (.inr hm))⟩;exact h.no z (fun hm=>hz ((A8_ hT.ents.nodup).2 ⟨hm,hz3.1⟩)) hz3.2
  ·intro hm
   have h1:=h.one hm;have h2:=Em_ hy;have h3:=hT.low hm y hym
   show Bq_ (delE T.L k)+(T.m-((delE T.L k).length:Int))*T.base≤T.sum
   rw[show(T.L.length:Int) =((delE T.L k).length:Int)+1 by omega,Q2_] at h1
   omega
  ·intro hm
   have h1:=h.two hm;have h2:=Gm_ hy;have h3:=hT.ents.own y hym
   show(T.m+1)*T.base+Bg_ (delE T.L k)≤T.sum
   omega
 ·have hsw:=Pa_ hP he hm hlt
  obtain⟨y,hy,rfl,hk⟩:=C5_ he;obtain⟨hym,hyk⟩:=Aw_ hy;have hyt:=h.tab y hym;have hys:=h.tsl y hym;have hdl:=B1_ hy;have hxm:=B7_ hm;have hxt:=h.sto x hxm;have hxs:=h.ssl x hxm;have hxo:=hP.ents.own x hxm;have hxg:=Dx_ hP.ents.nodup hxm;have e1 :(T.swap k x).L=delE T.L k++[T.swapE k x]:=rfl
  have hin:∀z∈(T.swap k x).L,z∈delE T.L k∨z=T.swapE k x:=fun z hz=>by
   rw[e1] at hz;exact(ma_ hz).imp id ms_
  have hfe :(T.fix (T.swapE k x)).key=x.key∧(T.fix (T.swapE k x)).own=x.own∧x.cnt≤(T.fix (T.swapE k x)).cnt∧(T.fix (T.swapE k x)).slack≤T.base:=by
   unfold TabM.fix TabM.swapE
   by_cases h2:T.mode=2
   ·simp only[if_pos h2,Ent.cnt];exact⟨trivial,trivial,by omega,Int.le_refl _⟩
   ·simp only[if_neg h2,Ent.cnt]
    split <;> simp only[Ent.cnt] <;> exact⟨trivial,trivial,by omega,by omega⟩
  refine⟨?_,?_,?_,?_,?_,?_,?_⟩
  ·intro z hz
   show z.own≤f z.key∧f z.key≤(T.fix z).cnt
   rcases hin z hz with hz|rfl
   ·exact h.tab z (A1_ hz)
   ·rw[Ec_,Iq_]
    omega
  ·intro z hz
   show(T.fix z).slack≤T.base
   rcases hin z hz with hz|rfl
   ·exact h.tsl z (A1_ hz)
   ·exact hfe.2.2.2
  ·intro z hz
   rcases List.mem_cons.1 ((Bb_ _ _).mem_iff.1 hz) with rfl|hz
   ·rw[Cn_,Cp_];exact hyt
   ·exact h.sto z (A1_ hz)
  ·intro z hz
   rcases List.mem_cons.1 ((Bb_ _ _).mem_iff.1 hz) with rfl|hz
   ·exact hys
   ·exact h.ssl z (A1_ hz)
  ·intro z hz hz2
   show f z≤T.base
   have hz3:z≠k:=fun e'=>hz2 (keys_insE.2 (.inl (by rw[hk];exact e')))
   have hz4:z≠x.key:=fun e'=>hz (by rw[e1];simp only[keysE,List.map_append,List.mem_append,List.map_cons,List.map_nil,List.mem_singleton,Ec_];exact .inr e')
   refine h.no z (fun hm2=>hz ?_) fun hm2=>hz2 (keys_insE.2 (.inr ((A8_ hP.ents.nodup).2 ⟨hm2,hz4⟩)))
   rw[e1];simp only[keysE,List.map_append,List.mem_append];exact .inl ((A8_ hT.ents.nodup).2 ⟨hm2,hz3⟩)
  ·intro hm1
   have hm1':T.mode=1:=hm1;have h1:=h.one hm1';have h2:=Em_ hy;have h3:=hT.low hm1' y hym
   have hm2:¬T.mode=2:=by omega
   show Bq_ (delE T.L k++[T.swapE k x])+(T.m-((delE T.L k++[T.swapE k x]).length:Int))*T.base≤T.sum
   have h4 :((delE T.L k++[T.swapE k x]).length:Int)=T.L.length:=by simp;omega
   have h5 :(T.swapE k x).cnt≤y.cnt:=by
    unfold TabM.swapE
    have h6:x.cnt≤y.cnt:=by
     unfold TabM.swapOk at hsw;rw[if_neg hm2,fix1 hm2] at hsw;exact hsw
    rw[if_neg hm2];simp only[Ent.cnt] at *
    split <;> (try simp only[Ent.cnt]) <;> omega
   rw[h4,Er_]
   have h6:Bq_ [T.swapE k x] =(T.swapE k x).cnt:=by simp[Bq_]
   omega
  ·intro hm2
   have hm2':T.mode=2:=hm2;have h1:=h.two hm2';have h2:=Gm_ hy
   show(T.m+1)*T.base+Bg_ (delE T.L k++[T.swapE k x])≤T.sum
   have h5:x.own≤y.own:=by
    unfold TabM.swapOk at hsw;rw[if_pos hm2',fix2 hm2'] at hsw;exact hsw.2.1
   have h6:Bg_ [T.swapE k x]=x.own:=by simp[Bg_,Iq_]
   rw[Ex_]
   omega
theorem Jg_.bumped {f:ByteArray→Int} {T:TabM} {S:List Ent} (h:Jg_ f T S) {w:Int} (hk:k∈keysE S) (hd:∀k∈keysE S,k∉keysE T.L):Jg_ (bump f k w) T (G3_ S k w):=by
 have hkT:=hd k hk;refine⟨fun e he=>?_,h.tsl,fun e he=>?_,fun e he=>?_,fun z hz hz2=>?_,h.one,h.two⟩
 ·rw[B6_ (fun e':k=e.key=>hkT (e'▸B3_ he))];exact h.tab e he
 ·obtain⟨x,hx,⟨h1,rfl⟩ |⟨h1,rfl⟩⟩:=Cy_ he
  ·have:=h.sto x hx
   dsimp only;rw[h1,Cw_];rw[h1] at this;simp only[Ent.cnt] at *
   omega
  ·rw[B6_ (Ne.symm h1)];exact h.sto _ hx
 ·obtain⟨x,hx,⟨h1,rfl⟩ |⟨h1,rfl⟩⟩:=Cy_ he
  ·exact h.ssl x hx
  ·exact h.ssl _ hx
 ·rw[E6_] at hz2
  rw[B6_ (fun e':k=z=>hz2 (e'▸hk))];exact h.no z hz hz2
def Over (f:ByteArray→Int) (t:List Int) (s:Int) (rows:List (List Int)):Prop:=∀(i:Nat) row,rows[i]?=some row→∀k,f k≤row.getD (slotR t s k i row) 0
theorem Rv_ {f:ByteArray→Int} {s:Int} {rows:List (List Int)} (h:Over f t s rows) (hf:f k≤18446744073709551615):f k≤estF t s k rows:=by
 have:∀n,n≤rows.length→f k≤estI t s k rows n:=by
  intro n
  induction n with
  | zero=>intro _;exact hf
  | succ n ih=>
   intro hn;have h1:=ih (by omega);have h2:=h n rows[n] (gq_ (by omega)) k
   show f k≤min _ _
   unfold Jh_;unfold slotR at h2;rw[List.getD_eq_getElem?_getD (l:=rows),gq_ (by omega),Option.getD_some]
   omega
 exact this _ (le_ _)
theorem W9_ {s:Int} {i:Nat} {r r':List Int} (h:r.length=r'.length):slotR t s k i r=slotR t s k i r':=by unfold slotR;rw[h]
theorem Over.add {f:ByteArray→Int} {s:Int} {rows:List (List Int)} (h:Over f t s rows) {w n:Int} (hn:f k+w≤n) (hlt:∀(i:Nat) row,rows[i]?=some row→slotR t s k i row<row.length):Over (bump f k w) t s (Bk_ t s k n rows):=by
 intro i row hr x;unfold Bk_ at hr;rw[List.getElem?_mapIdx] at hr
 cases hi:rows[i]? with
 | none=>rw[hi] at hr;simp at hr
 | some r=>
  rw[hi] at hr;simp only[Option.map_some,Option.some.injEq] at hr;subst hr;have h1:=h i r hi;have h2:=hlt i r hi;rw[W9_ (Kf_ r _ n)];unfold putRow
  have hg:∀j v,(r.set (slotR t s k i r) v).getD j 0=if j=slotR t s k i r then v else r.getD j 0:=fun j v=>by
   rw[List.getD_eq_getElem?_getD,List.getD_eq_getElem?_getD]
   split
   ·rename_i e;subst e;rw[List.getElem?_set_self h2];rfl
   ·rename_i e;rw[List.getElem?_set_ne (Ne.symm e)]
  rw[hg];have h3:=h1 x;have h4:=h1 k
  by_cases hx:k=x
  ·subst hx
   rw[Cw_,if_pos rfl];omega
  ·rw[B6_ hx]
   split
   ·rename_i e;rw[←e];omega
   ·exact h3
end
section
structure TierKn (c:Cfg) (t:List Int) (h:Hist) (X:Ao_):Prop where
 ok:TierOk c X
 kn:Jg_ (wOf h) X.T X.S
 over:Over (wOf h) t c.Seed X.rows
 sum:X.sum=wAll h
 pos:∀p∈h,1≤p.2
structure A7_ (c:Cfg):Prop where
 mode:c.Mode=1∨c.Mode=2
 slots:1≤c.Slots∧c.Slots≤64
 exact:0≤c.Exact
 depth:1≤c.Depth
 width:1≤c.Width∧c.Width≤256
theorem Kz_ (h:Hist) (k:ByteArray) (w:Int):wOf (h++[(k,w)])=bump (wOf h) k w:=by
 funext x
 rw[Ok_]
 simp[wOf,bump]
theorem No_ {d w s:Int} {rows:List (List Int)} (h:Grid d w s rows) (hw:1≤w) (t:List Int) (sd:Int) (k:ByteArray):∀(i:Nat) row,rows[i]?=some row→slotR t sd k i row<row.length:=fun i row hr=>by
 have h1:=h.width row (mo_ hr);unfold slotR slotF;have h2:=Int.emod_nonneg (hashF t (seedF sd i) k) (show(row.length:Int)≠0 by omega);have h3:=Int.emod_lt_of_pos (hashF t (seedF sd i) k) (show 0<(row.length:Int) by omega)
 omega
theorem TierKn.new {c:Cfg} (t:List Int) (h:A7_ c):TierKn c t [] (tier0 c):=by
 have hok:=TierOk.new h.mode h.slots h.exact (by have:=h.depth;omega) (by have:=h.width;omega);refine⟨hok,⟨by simp[tier0],by simp[tier0],by simp[tier0],by simp[tier0],by simp[tier0,wOf],by simp[tier0,Bq_],by simp[tier0,Bg_]⟩,fun i row hr k=>?_,rfl,by simp⟩
 rcases getD_mem (l:=row) (j:=slotR t c.Seed k i row) with e|e
 ·rw[e];simp[wOf]
 ·exact(hok.rows.num row (mo_ hr) _ e).1
theorem Ih_ {h:Hist} (hp:∀p∈h,1≤p.2):∀p∈h,0≤p.2:=fun p hh=>by have:=hp p hh;omega
theorem TierKn.add {c:Cfg} {h:Hist} {X:Ao_} (H:TierKn c t h X) (hc:A7_ c) {w:Int} (hk:0<k.size∧k.size≤255) (hw:1≤w) (hs:X.sum+w≤mostW):TierKn c t (h++[(k,w)]) (X.add c t k w):=by
 have hok:=H.ok.add (t:=t) hc.depth hk hw hs
 have hf:=fun x=>(M1_ (Ih_ H.pos) x).1
 have hle:=fun x=>(M1_ (Ih_ H.pos) x).2
 have hss:=H.ok.sums;have hm:mostW=9223372036854775808:=rfl
 have hov:Over (wOf (h++[(k,w)])) t c.Seed (Bk_ t c.Seed k (estF t c.Seed k X.rows+w) X.rows):=by
  rw[Kz_];refine H.over.add ?_ (No_ H.ok.rows hc.width.1 t c.Seed k)
  have:=Rv_ H.over (k:=k) (by have:=hle k;rw[←H.sum] at this;omega)
  omega
 have hpos:∀p∈h++[(k,w)],1≤p.2:=fun p hp=>by
  rcases ma_ hp with hp|hp
  ·exact H.pos p hp
  ·rw[ms_ hp];exact hw
 have hsum:X.sum+w=wAll (h++[(k,w)]):=by rw[E5_,H.sum];simp[wAll]
 unfold Ao_.add at hok ⊢
 cases hg:getE X.S k with
 | some e=>
  rw[hg] at hok;refine⟨hok,?_,hov,hsum,hpos⟩;rw[Kz_];exact H.kn.bumped ((Aw_ hg).2▸B3_ (Aw_ hg).1) H.ok.apart
 | none=>
  rw[hg] at hok;refine⟨hok,?_,hov,hsum,hpos⟩;rw[Kz_];exact(H.kn.add H.ok.tab hw hf (Bj_.1 hg)).step (H.ok.pair hk hw hs hg) k
def Ao_.entry (X:Ao_) (k:ByteArray):Option Ent:=match getE X.S k with
 | some e=>some e
 | none=>X.T.get k
def Ao_.bounds (c:Cfg) (t:List Int) (X:Ao_) (k:ByteArray):Int×Int:=
 let e:=estF t c.Seed k X.rows
 match X.entry k with
 | some x=>(min x.own e,min (satA x.own x.slack) e)
 | none=>(0,min X.T.base e)
def Ao_.has (X:Ao_) (k:ByteArray):Bool:=(X.entry k).isSome
def Ao_.entries (X:Ao_):List Ent:=sortEn (X.T.entries++X.S)
theorem TierKn.base {c:Cfg} {h:Hist} {X:Ao_} (H:TierKn c t h X) (hc:A7_ c):X.T.base≤(if c.Mode=1 then wAll h/c.Slots else wAll h/(c.Slots+1)):=by
 have hm:=H.ok.mode;have hs:=H.ok.sums;have hb:=H.ok.tab.base;have hsl:=hc.slots
 rcases hc.mode with h1|h2
 ·rw[if_pos h1]
  have h3:=H.kn.one (by omega);have h4:=Uj_ (H.ok.tab.low (by omega));refine(Int.le_ediv_iff_mul_le (by omega)).2 ?_
  have e1:X.T.base*c.Slots =(X.T.L.length:Int)*X.T.base+(X.T.m-X.T.L.length)*X.T.base:=by rw[←Int.add_mul,←hm.2,show(X.T.L.length:Int)+(X.T.m-X.T.L.length)=X.T.m by omega,Int.mul_comm]
  rw[e1,←H.sum];omega
 ·rw[if_neg (by omega)]
  have h3:=H.kn.two (by omega);have h4:=Wq_ H.ok.tab.ents.own;refine(Int.le_ediv_iff_mul_le (by omega)).2 ?_;rw[Int.mul_comm,←hm.2,←H.sum];omega
theorem C6_ (T:TabM) (L:List Ent):keysE (L.map T.fix)=keysE L:=by
 unfold keysE;rw[List.map_map]
 exact List.map_congr_left fun e _=>Cn_ T e
theorem Nu_ {X:Ao_} (h1 :(keysE X.T.L).Nodup) (h2 :(keysE X.S).Nodup) (hd:∀k∈keysE X.S,k∉keysE X.T.L):X.entries.Perm (X.T.L.map X.T.fix++X.S)∧AscE X.entries:=by
 have hn :(keysE (X.T.L.map X.T.fix)).Nodup:=by rw[C6_];exact h1
 have hp:X.T.entries.Perm (X.T.L.map X.T.fix):=(Ek_ hn).2
 have hn2 :(keysE (X.T.entries++X.S)).Nodup:=by
  have hk :(keysE (X.T.L.map X.T.fix++X.S)).Nodup:=by
   have:keysE (X.T.L.map X.T.fix++X.S)=keysE X.T.L++keysE X.S:=by
    rw[←C6_ X.T X.T.L];simp[keysE]
   rw[this];exact List.nodup_append.2 ⟨h1,h2,fun a ha b hb e=>hd b hb (e▸ha)⟩
  exact((hp.append_right X.S).map _).nodup_iff.2 hk
 obtain⟨h3,h4⟩:=Ek_ hn2;exact⟨h4.trans (hp.append_right X.S),h3⟩
theorem TierOk.entries {c:Cfg} {X:Ao_} (h:TierOk c X):X.entries.Perm (X.T.L.map X.T.fix++X.S)∧AscE X.entries:=Nu_ h.tab.ents.nodup h.ents.nodup h.apart
theorem TierKn.all {c:Cfg} {h:Hist} {X:Ao_} (H:TierKn c t h X):∀e∈X.entries,(0<e.key.size∧e.key.size≤255)∧1≤e.own∧0≤e.slack∧e.own≤wOf h e.key∧wOf h e.key≤e.cnt∧e.slack≤X.T.base∧e.cnt≤X.sum:=by
 intro e he;have hs:=H.ok.sums
 rcases ma_ (H.ok.entries.1.mem_iff.1 he) with he|he
 ·obtain⟨x,hx,rfl⟩:=List.mem_map.1 he
  have h1:=H.kn.tab x hx;have h2:=H.ok.tab.cnt x hx;refine⟨by rw[Cn_];exact H.ok.tab.ents.key x hx,by rw[Cp_];exact H.ok.tab.ents.own x hx,(Cx_ H.ok.tab hx).1,?_,?_,H.kn.tsl x hx,by omega⟩
  ·rw[Cn_,Cp_];exact h1.1
  ·rw[Cn_];exact h1.2
 ·exact⟨H.ok.ents.key e he,H.ok.ents.own e he,H.ok.ents.slack e he,(H.kn.sto e he).1,(H.kn.sto e he).2,H.kn.ssl e he,H.ok.cnt e he⟩
theorem Mw_ {c:Cfg} {X:Ao_} (h:TierOk c X) {e:Ent} (he:X.entry k=some e):e∈X.entries∧e.key=k:=by
 unfold Ao_.entry at he
 cases hg:getE X.S k with
 | some x=>
  rw[hg] at he;cases he;obtain⟨h1,h2⟩:=Aw_ hg;exact⟨h.entries.1.mem_iff.2 (List.mem_append_right _ h1),h2⟩
 | none=>
  rw[hg] at he;obtain⟨x,hx,rfl,hk⟩:=C5_ he;exact⟨h.entries.1.mem_iff.2 (List.mem_append_left _ (List.mem_map_of_mem (Aw_ hx).1)),hk⟩
theorem Jz_ {X:Ao_} (he:X.entry k=none):k∉keysE X.S∧k∉keysE X.T.L:=by
 unfold Ao_.entry at he
 cases hg:getE X.S k with
 | some x=>rw[hg] at he;simp at he
 | none=>
  rw[hg] at he;unfold TabM.get at he;exact⟨Bj_.1 hg,Bj_.1 (by simpa using he)⟩
theorem TierKn.bounds {c:Cfg} {h:Hist} {X:Ao_} (H:TierKn c t h X) (hc:A7_ c) (k:ByteArray) :
  (X.bounds c t k).1≤wOf h k∧wOf h k≤(X.bounds c t k).2∧(X.bounds c t k).2-(X.bounds c t k).1≤X.T.base∧(X.has k=false→wOf h k≤X.T.base)∧0≤(X.bounds c t k).1∧(X.bounds c t k).1≤(X.bounds c t k).2∧(X.bounds c t k).2≤X.sum:=by
 have hw:=M1_ (Ih_ H.pos) k;have hs:=H.ok.sums;have hm:mostW=9223372036854775808:=rfl;have hsum:=H.sum;have he:=Rv_ H.over (k:=k) (by omega);have hb:=K3_ (t:=t) (s:=c.Seed) (k:=k) H.ok.rows (by have:=H.ok.tab.base;omega) hc.depth;have hT:=H.ok.tab.base;unfold Ao_.bounds Ao_.has
 cases hx:X.entry k with
 | some e=>
  obtain⟨h1,h2⟩:=Mw_ H.ok hx;have h3:=H.all e h1;rw[h2] at h3;unfold Ent.cnt at h3
  have hsat:satA e.own e.slack=e.own+e.slack:=by unfold satA;rw[if_pos (by omega)]
  simp only[hsat];exact⟨by omega,by omega,by omega,by simp,by omega,by omega,by omega⟩
 | none=>
  obtain⟨h1,h2⟩:=Jz_ hx;have h3:=H.kn.no k h2 h1;dsimp only;exact⟨by omega,by omega,by omega,fun _=>h3,by omega,by omega,by omega⟩
end
section
open Go.RowKit
structure OpR where
 (kind:Int) (vd:Value) (time shard:Int) (key:ByteArray) (vp:Value) (data:List UInt8) (picks:List Int)
def opF (o:OpR):List Value:=[.int .i64 o.kind,o.vd,.int .i64 o.time,.int .i64 o.shard,.string o.key,o.vp]
theorem Gh_ (o:OpR) :(opF o).length=6:=rfl
abbrev opA (kind:Int) (vd:Value) (time shard:Int) (key:ByteArray) (vp:Value):Array Value:=#[.int .i64 kind,vd,.int .i64 time,.int .i64 shard,.string key,vp]
abbrev opV (kind:Int) (vd:Value) (time shard:Int) (key:ByteArray) (vp:Value):Value:=.agg (opA kind vd time shard key vp)
structure OpRd (w:World) (o:OpR):Prop where
 data:RdL byF 1 w o.vd o.data
 picks:RdL intF 1 w o.vp o.picks
 dcap:∀a n c,o.vd=.slice a n c→n≤c
 pcap:∀a n c,o.vp=.slice a n c→n≤c
def inR (n:Int):Bool:=decide (0≤n)&&decide (n≤1099511627776)
theorem de_ {n:Int}:inR n=true↔0≤n∧n≤1099511627776:=by simp[inR]
def restB (o:OpR):Bool:=
 if o.kind=1 then decide (o.time=0)&&decide (o.shard=0)&&decide (o.key.size=0)&&decide (o.picks.length=0)
 else if o.kind=2 then decide (o.data.length=0)&&decide (o.shard=0)&&decide (o.key.size=0)
 else if o.kind=3 then decide (o.data.length=0)&&decide (o.time=0)&&decide (o.key.size=0)&&decide (o.picks.length=0)
 else if o.kind=4 then decide (o.data.length=0)&&decide (o.time=0)&&decide (o.shard=0)&&decide (o.key.size=0)&&decide (o.picks.length=0)
 else if o.kind=5 then decide (o.data.length=0)&&decide (o.shard=0)&&decide (o.picks.length=0)
 else false
def longB (o:OpR):Bool:=decide (4096<o.data.length)||decide (255<o.key.size)||decide (8<o.picks.length)
def rangeB (o:OpR):Bool:=inR o.time&&inR o.shard&&o.picks.all inR
def opE (o:OpR):Int:=if restB o=false then 3 else if longB o=true then 4 else if rangeB o=false then 1 else 0
theorem Ia_ {o:OpR}:opE o=0↔restB o=true∧longB o=false∧rangeB o=true:=by
 unfold opE;cases restB o <;> cases longB o <;> cases rangeB o <;> simp
def textD (most:Nat) (l:List UInt8) (e:Int):List UInt8×List UInt8×Int:=
 if (numF most 4 l e).2.2≠0 then ([],(numF most 4 l e).2.1,(numF most 4 l e).2.2)
 else if (numF most 4 l e).2.1.length<(numF most 4 l e).1 then ([],(numF most 4 l e).2.1,2)
 else ((numF most 4 l e).2.1.take (numF most 4 l e).1,(numF most 4 l e).2.1.drop (numF most 4 l e).1,0)
def tagD (l:List UInt8) (e:Int):TagR×List UInt8×Int:=
 (⟨⟨(textD 4096 l e).1.toArray⟩,⟨(textD 4096 (textD 4096 l e).2.1 (textD 4096 l e).2.2).1.toArray⟩⟩,(textD 4096 (textD 4096 l e).2.1 (textD 4096 l e).2.2).2)
def tagsD:Nat→List UInt8→Int→List TagR×List UInt8×Int
 | 0,l,e=>([],l,e)
 | n+1,l,e=>((tagsD n l e).1++[(tagD (tagsD n l e).2.1 (tagsD n l e).2.2).1],(tagD (tagsD n l e).2.1 (tagsD n l e).2.2).2)
theorem Yo_ (n:Nat) (l:List UInt8) (e:Int) :(tagsD n l e).1.length=n:=by
 induction n with
 | zero=>rfl
 | succ n ih=>simp[tagsD,ih]
structure RawE where
 (time weight:Int) (tags:List TagR)
def rawE (l:List UInt8):RawE×List UInt8×Int:=
 let a1:=numF 1099511627776 1 l 0
 let a2:=weiF a1.2.1 a1.2.2
 let a3:=numF 8 5 a2.2.1 a2.2.2
 let a4:=tagsD a3.1 a3.2.1 a3.2.2
 (⟨a1.1,a2.1,a4.1⟩,a4.2)
def rawX (l:List UInt8):Int:=(rawE l).2.2
theorem Gr_ (most:Nat) (l:List UInt8) (e:Int) :(textD most l e).2.1.length≤l.length:=by
 have:=C9_ (most:=most) (over:=4) (l:=l) (e:=e)
 unfold textD
 split
 ·exact this
 ·split
  ·exact this
  ·simp only[List.length_drop];omega
theorem To_ (l:List UInt8) (e:Int) :(tagD l e).2.1.length≤l.length:=lt_ (Gr_ _ _ _) (Gr_ _ _ _)
theorem Ke_ (n:Nat) (l:List UInt8) (e:Int) :(tagsD n l e).2.1.length≤l.length:=by
 induction n with
 | zero=>exact le_ _
 | succ n ih=>exact lt_ (To_ _ _) ih
theorem Ni_ (l:List UInt8) :(rawE l).2.1.length≤l.length:=
 lt_ (Ke_ _ _ _) (lt_ C9_ (lt_ C9_ C9_))
theorem Jm_ (most:Nat) (l:List UInt8) (e:Int) :(textD most l e).1.length≤l.length:=by
 have:=C9_ (most:=most) (over:=4) (l:=l) (e:=e)
 unfold textD
 split
 ·simp
 ·split
  ·simp
  ·simp only[lk_];omega
theorem W5_ (l:List UInt8) (e:Int) :(tagD l e).1.name.size≤l.length∧(tagD l e).1.value.size≤l.length:=by
 refine⟨?_,?_⟩
 ·have:=Jm_ 4096 l e;simpa [tagD,ByteArray.size] using this
 ·have h1:=Jm_ 4096 (textD 4096 l e).2.1 (textD 4096 l e).2.2
  have h2:=Gr_ 4096 l e
  have :(tagD l e).1.value.size =(textD 4096 (textD 4096 l e).2.1 (textD 4096 l e).2.2).1.length:=by simp[tagD,ByteArray.size]
  omega
theorem Sd_ (n:Nat) (l:List UInt8) (e:Int):∀t∈(tagsD n l e).1,t.name.size≤l.length∧t.value.size≤l.length:=by
 induction n with
 | zero=>simp[tagsD]
 | succ n ih=>
  intro t ht
  rcases ma_ ht with ht|ht
  ·exact ih t ht
  ·rw[ms_ ht]
   have h1:=W5_ (tagsD n l e).2.1 (tagsD n l e).2.2;have h2:=Ke_ n l e
   omega
theorem V3_ (l:List UInt8):∀t∈(rawE l).1.tags,t.name.size≤l.length∧t.value.size≤l.length:=fun t ht=>by
 have h1:=Sd_ _ _ _ t ht;have h2 :(numF 8 5 (weiF (numF 1099511627776 1 l 0).2.1 (numF 1099511627776 1 l 0).2.2).2.1 (weiF (numF 1099511627776 1 l 0).2.1 (numF 1099511627776 1 l 0).2.2).2.2).2.1.length≤l.length:=lt_ C9_ (lt_ C9_ C9_)
 omega
theorem Ha_ (most:Nat) (over:Int) (l:List UInt8) (e:Int) :(numF most over l e).2.1 <:+ l:=by
 unfold numF
 repeat' split
 all_goals first|exact List.suffix_refl _|exact List.drop_suffix _ _
theorem Ob_ (most:Nat) (l:List UInt8) (e:Int) :(textD most l e).2.1 <:+ l:=by
 have:=Ha_ most 4 l e
 unfold textD
 split
 ·exact this
 ·split
  ·exact this
  ·exact(List.drop_suffix _ _).trans this
theorem T7_ (n:Nat) (l:List UInt8) (e:Int) :(tagsD n l e).2.1 <:+ l:=by
 induction n with
 | zero=>exact List.suffix_refl _
 | succ n ih=>exact((Ob_ _ _ _).trans (Ob_ _ _ _)).trans ih
theorem Y1_ (l:List UInt8) :(rawE l).2.1 <:+ l:=
 (T7_ _ _ _).trans ((Ha_ _ _ _ _).trans ((Ha_ _ _ _ _).trans (Ha_ _ _ _ _)))
theorem U3_ (l:List UInt8):l.drop (l.length-(rawE l).2.1.length) =(rawE l).2.1:=(List.suffix_iff_eq_drop.1 (Y1_ l)).symm
def itemE (x:RawE):Int:=if x.time<0∨1099511627776<x.time∨x.weight<1∨9223372036854775808<x.weight then 1 else keyE x.tags
def itZ:ItR:=⟨⟨#[]⟩,0,0⟩
def itemR (x:RawE):ItR:=if itemE x=0 then ⟨keyY x.tags,x.time,x.weight⟩ else itZ
def verE (e:Int):Int:=if e=0 then 0 else if e=4 then 2 else 1
structure InpR where
 (it:ItR) (ver:Int)
def inpF (x:InpR):List Value:=[.string x.it.key,.int .i64 x.it.time,.int .u64 x.it.weight,.int .i64 x.ver]
theorem Ev_ (x:InpR) :(inpF x).length=4:=rfl
theorem I7_:OneF inpF:=by intro x u hu;simp[inpF] at hu;rcases hu with rfl|rfl|rfl|rfl <;> rfl
def inpBad:InpR:=⟨itZ,1⟩
def inpV (most:Int) (x:RawE):Int:=if verE (itemE x)=0∧most<(itemR x).key.size then 2 else verE (itemE x)
def inpOf (most:Int) (x:RawE):InpR:=⟨if inpV most x=0 then itemR x else itZ,inpV most x⟩
def inpsD (most:Int):Nat→List UInt8→List InpR
 | 0,r=>if r≠[] then [inpBad] else []
 | n+1,r=>if rawX r≠0 then List.replicate (n+1) inpBad else inpOf most (rawE r).1::inpsD most n (rawE r).2.1
def inputsF (most:Int) (b:List UInt8):List InpR:=
 if (readF b).2.2≠0∨(readF b).1<1∨64<(readF b).1 then [inpBad] else inpsD most (readF b).1 (b.drop (readF b).2.1)
theorem N7_ (most:Int):∀(n:Nat) (r:List UInt8),(inpsD most n r).length≤n+1
 | 0,r=>by unfold inpsD;split <;> simp
 | n+1,r=>by
  unfold inpsD
  split
  ·simp
  ·have:=N7_ most n (rawE r).2.1
   simp only[lc_];omega
theorem P8_ (most:Int) (b:List UInt8) :(inputsF most b).length≤65:=by
 unfold inputsF
 split
 ·simp
 ·have:=N7_ most (readF b).1 (b.drop (readF b).2.1);omega
structure InpOk (most:Int) (x:InpR):Prop where
 ver:0≤x.ver∧x.ver≤2
 bad:x.ver≠0→x.it=itZ
 time:0≤x.it.time∧x.it.time≤1099511627776
 weight:0≤x.it.weight∧x.it.weight≤9223372036854775808
 size:x.it.key.size≤255
 good:x.ver=0→1≤x.it.weight∧∃L,keyE L=0∧x.it.key=keyY L∧(x.it.key.size:Int)≤most
theorem Ic_ (most:Int):InpOk most inpBad:=⟨by decide,fun _=>rfl,by decide,by decide,by decide,fun h=>by simp[inpBad] at h⟩
theorem Zx_ (most:Int) (x:RawE):InpOk most (inpOf most x):=by
 have hv:0≤inpV most x∧inpV most x≤2:=by unfold inpV verE;split <;> (try split) <;> (try split) <;> omega
 by_cases h:inpV most x=0
 ·have e1 :(inpOf most x).it=itemR x:=if_pos h
  have h2:itemE x=0∧¬most<(itemR x).key.size:=by
   unfold inpV at h
   split at h
   ·omega
   ·rename_i hn
    have h3:itemE x=0:=by unfold verE at h;split at h <;> (try split at h) <;> omega
    exact⟨h3,fun hm=>hn ⟨h,hm⟩⟩
  have e2:itemR x =⟨keyY x.tags,x.time,x.weight⟩:=if_pos h2.1;have h3:=h2.1;unfold itemE at h3
  split at h3
  ·omega
  ·refine⟨hv,fun hn=>absurd h hn,?_,?_,?_,fun _=>?_⟩
   ·rw[e1,e2];dsimp only;omega
   ·rw[e1,e2];dsimp only;omega
   ·rw[e1,e2];exact G7_ _
   ·rw[e1]
    refine⟨by rw[e2];dsimp only;omega,x.tags,h3,by rw[e2],by omega⟩
 ·have e1 :(inpOf most x).it=itZ:=if_neg h
  refine⟨hv,fun _=>e1,?_,?_,?_,fun h0=>absurd h0 h⟩ <;> (rw[e1];decide)
theorem Qa_ (most:Int):∀(n:Nat) (r:List UInt8),∀x∈inpsD most n r,InpOk most x
 | 0,r=>by
  unfold inpsD
  split
  ·intro x hx;rw[ms_ hx];exact Ic_ most
  ·simp
 | n+1,r=>by
  unfold inpsD
  split
  ·intro x hx;rw[List.eq_of_mem_replicate hx];exact Ic_ most
  ·intro x hx
   rcases List.mem_cons.1 hx with rfl|hx
   ·exact Zx_ most _
   ·exact Qa_ most n _ x hx
theorem R5_ (most:Int) (b:List UInt8):∀x∈inputsF most b,InpOk most x:=by
 unfold inputsF
 split
 ·intro x hx;rw[ms_ hx];exact Ic_ most
 ·exact Qa_ most _ _
structure StrM where
 (buf:List UInt8) (skip:Int) (broken:Bool)
structure ChM where
 (body:List UInt8) (ver:Int)
def strS (s:StrM) (b:UInt8):StrM×List ChM:=
 if s.broken=true then (s,[])
 else if 0<s.skip then ({ s with skip:=s.skip-1 },[])
 else if (readF (s.buf++[b])).2.2=3 then (⟨[],0,true⟩,[⟨[],1⟩])
 else if (readF (s.buf++[b])).2.2=0∧4096<(readF (s.buf++[b])).1 then (⟨[],(readF (s.buf++[b])).1,false⟩,[⟨[],2⟩])
 else if (readF (s.buf++[b])).2.2=0∧(readF (s.buf++[b])).1≤(s.buf++[b]).length-(readF (s.buf++[b])).2.1 then ({ s with buf:=[] },[⟨((s.buf++[b]).drop (readF (s.buf++[b])).2.1).take (readF (s.buf++[b])).1,0⟩])
 else ({ s with buf:=s.buf++[b] },[])
def strF (s:StrM) (l:List UInt8):StrM×List ChM:=l.foldl (fun a b=>((strS a.1 b).1,a.2++(strS a.1 b).2)) (s,[])
theorem Ny_ (s:StrM) (l:List UInt8) (b:UInt8):strF s (l++[b]) =((strS (strF s l).1 b).1,(strF s l).2++(strS (strF s l).1 b).2):=by simp[strF]
structure StrOk (s:StrM):Prop where
 skip:0≤s.skip∧s.skip<18446744073709551616
 len:s.buf.length≤4106
structure ChOk (x:ChM):Prop where
 ver:0≤x.ver∧x.ver≤2
 len:x.body.length≤4096
theorem a9_ (s:StrM) (b:UInt8) :(strS s b).2.length≤1:=by
 unfold strS
 repeat' split
 all_goals simp
theorem L8_ {l:List UInt8} (h :(readF l).2.2=2):l.length≤10:=by
 by_cases h1:bigs 10 l=10
 ·rw[Eb_ h1] at h;simp at h
 ·by_cases h2:l.length=bigs 10 l
  ·have:=Ds_ 10 l;omega
  ·have h3:bigs 10 l<l.length:=by have:=Ds_ 10 l;omega
   by_cases h4 :(bigs 10 l=9∧1<l[bigs 10 l].toNat)∨(0<bigs 10 l∧l[bigs 10 l].toNat=0)
   ·rw[Ej_ h1 h3 h4] at h;simp at h
   ·rw[F0_ h1 h3 h4] at h;simp at h
theorem N4_ (l:List UInt8) :(readF l).2.1≤10:=by
 by_cases h1:bigs 10 l=10
 ·rw[Eb_ h1];simp
 ·by_cases h2:l.length=bigs 10 l
  ·rw[Dy_ h1 h2];simp
  ·have h3:bigs 10 l<l.length:=by have:=Ds_ 10 l;omega
   by_cases h4 :(bigs 10 l=9∧1<l[bigs 10 l].toNat)∨(0<bigs 10 l∧l[bigs 10 l].toNat=0)
   ·rw[Ej_ h1 h3 h4];simp
   ·rw[F0_ h1 h3 h4];have:=(Ds_ 10 l).1;show bigs 10 l+1≤10;omega
theorem d3_ {s:StrM} (h:StrOk s) (b:UInt8):StrOk (strS s b).1∧∀x∈(strS s b).2,ChOk x:=by
 have hw:=Fc_ (s.buf++[b]);unfold strS
 split
 ·exact⟨h,by simp⟩
 ·split
  ·exact⟨⟨by have:=h.skip;dsimp only;omega,h.len⟩,by simp⟩
  ·split
   ·exact⟨⟨by decide,by simp⟩,fun x hx=>by rw[ms_ hx];exact⟨by decide,by simp⟩⟩
   ·split
    ·exact⟨⟨by dsimp only;omega,by simp⟩,fun x hx=>by rw[ms_ hx];exact⟨by decide,by simp⟩⟩
    ·rename_i h4
     split
     ·rename_i h5
      refine⟨⟨h.skip,by simp⟩,fun x hx=>?_⟩;rw[ms_ hx];refine⟨⟨Int.le_refl _,by simp⟩,?_⟩;simp only[lk_]
      omega
     ·rename_i h3 h5
      refine⟨⟨h.skip,?_⟩,by simp⟩
      show(s.buf++[b]).length≤4106
      by_cases h0 :(readF (s.buf++[b])).2.2=0
      ·have:=N4_ (s.buf++[b])
       omega
      ·have :(readF (s.buf++[b])).2.2=2:=by
        rcases(N1_ _ h0).2.2 with e|e
        ·exact e
        ·exact absurd e h3
       have:=L8_ this
       omega
theorem K2_ {s:StrM} (h:StrOk s) (l:List UInt8):∀k,k≤l.length→StrOk (strF s (l.take k)).1∧(∀x∈(strF s (l.take k)).2,ChOk x)∧(strF s (l.take k)).2.length≤k:=by
 intro k
 induction k with
 | zero=>exact fun _=>⟨by simpa [strF] using h,by simp[strF],by simp[strF]⟩
 | succ k ih=>
  intro hk;obtain⟨h1,h2,h3⟩:=ih (by omega);rw[tg_ (show k<l.length by omega),Ny_];obtain⟨h4,h5⟩:=d3_ h1 l[k];refine⟨h4,fun x hx=>?_,?_⟩
  ·rcases ma_ hx with hx|hx
   ·exact h2 x hx
   ·exact h5 x hx
  ·have:=a9_ (strF s (l.take k)).1 l[k]
   simp only[la_]
   omega
theorem Jd_ (s:StrM) {l:List UInt8} {k:Nat} (h:k<l.length):strF s (l.take (k+1)) =((strS (strF s (l.take k)).1 l[k]).1,(strF s (l.take k)).2++(strS (strF s (l.take k)).1 l[k]).2):=by
 rw[tg_ h,Ny_]
end
section
open Go.RowKit Go.Maps Go.Sort
def rejE (r:Int):Int:=if r<1∨6<r then 1 else 0
def rejR (R:List Int) (r:Int):List Int:=if r<1∨6<r then R else R.set r.toNat (satA (R.getD r.toNat 0) 1)
theorem bd_ (R:List Int) (r:Int) :(rejR R r).length=R.length:=by unfold rejR;split <;> simp
theorem ev_ {R:List Int} (h:∀x∈R,W64 x) (k:Nat):W64 (R.getD k 0):=by
 rw[List.getD_eq_getElem?_getD]
 cases hk:R[k]? with
 | none=>exact⟨by simp,by simp⟩
 | some x=>exact h x (mo_ hk)
theorem hy_ {R:List Int} (h:∀x∈R,W64 x) (r:Int):∀x∈rejR R r,W64 x:=by
 unfold rejR;split
 ·exact h
 ·intro x hx
  rcases List.mem_or_eq_of_mem_set hx with h1|h1
  ·exact h x h1
  ·rw[h1];exact Cr_ (ev_ h _) ⟨by omega,by omega⟩
theorem Dm_:OneF wordF:=by intro x u hu;simp[wordF] at hu;subst hu;rfl
theorem Dk_:Elt 24 22 (.int .u64 0) 1 8:=⟨underlying24,by kernel_rfl,rfl,by decide⟩
end
section
open Go.RowKit
def posW:List Int→Int→Option Nat
 | [],_=>none
 | x::r,w=>if x=w then some 0 else (posW r w).map (·+1)
def cntW:List Int→Int→Nat
 | [],_=>0
 | x::r,w=>if x<w then cntW r w+1 else 0
theorem Cz_ {w:Int}:∀{ws:List Int} {i:Nat},posW ws w=some i→ws[i]?=some w∧∀j,j<i→ws[j]?≠some w
 | [],i,h=>by simp[posW] at h
 | x::r,i,h=>by
  unfold posW at h
  split at h
  ·rename_i e;cases h;exact⟨by simp[e],fun j hj=>by omega⟩
  ·rename_i e
   cases hr:posW r w with
   | none=>rw[hr] at h;simp at h
   | some k=>
    rw[hr] at h
    simp at h
    subst h;obtain⟨h1,h2⟩:=Cz_ hr;refine⟨by simpa using h1,fun j hj=>?_⟩
    cases j with
    | zero=>simpa using e
    | succ j=>simpa using h2 j (by omega)
theorem ew_ {w:Int} {ws:List Int} {i:Nat} (h:posW ws w=some i):i<ws.length:=by
 have:=(Cz_ h).1
 exact(gs_ this).1
theorem C0_ {w:Int}:∀{ws:List Int},posW ws w=none↔w∉ws
 | []=>by simp[posW]
 | x::r=>by
  unfold posW
  split
  ·rename_i e;simp[e]
  ·rename_i e
   rw[Option.map_eq_none_iff,C0_ (ws:=r)]
   simp[Ne.symm e]
theorem P0_ {w:Int}:∀{ws:List Int} {i:Nat},(∀j,j<i→ws[j]?≠some w)→ws[i]?=some w→posW ws w=some i
 | [],i,_,h=>by simp at h
 | x::r,0,_,h=>by unfold posW;rw[if_pos (by simpa using h)]
 | x::r,i+1,h1,h=>by
  unfold posW;rw[if_neg (by simpa using h1 0 (by omega)),P0_ (ws:=r) (i:=i) (fun j hj=>by simpa using h1 (j+1) (by omega)) (by simpa using h)]
  rfl
theorem Ku_ {w:Int}:∀{ws:List Int},cntW ws w≤ws.length
 | []=>le_ _
 | x::r=>by unfold cntW;split <;> (have:=Ku_ (w:=w) (ws:=r);simp only[lc_];omega)
theorem Ox_ {w:Int}:∀{ws:List Int} {j:Nat} {x:Int},j<cntW ws w→ws[j]?=some x→x<w
 | [],j,x,h,_=>by simp[cntW] at h
 | y::r,j,x,h,hx=>by
  unfold cntW at h
  split at h
  ·rename_i hy
   cases j with
   | zero=>simp at hx;omega
   | succ j=>exact Ox_ (ws:=r) (j:=j) (by omega) (by simpa using hx)
  ·omega
theorem Pr_ {w:Int}:∀{ws:List Int} {x:Int},ws[cntW ws w]?=some x→¬x<w
 | [],x,h=>by simp[cntW] at h
 | y::r,x,h=>by
  unfold cntW at h
  split at h
  ·exact Pr_ (ws:=r) (by simpa using h)
  ·simp at h;omega
theorem If_ {α:Type} {l:List α} {k:Nat} (hk:k≤l.length) (x:α) (i:Nat) :(l.take k++[x]++l.drop k)[i]?=if i<k then l[i]? else if i=k then some x else l[i-1]?:=by
 have hl :(l.take k).length=k:=by simp;omega
 have hl2 :(l.take k++[x]).length=k+1:=by simp;omega
 by_cases h1:i<k
 ·rw[if_pos h1,List.append_assoc,List.getElem?_append_left (by omega),List.getElem?_take_of_lt h1]
 ·rw[if_neg h1]
  by_cases h2:i=k
  ·subst h2
   rw[if_pos rfl,List.getElem?_append_left (by omega),List.getElem?_append_right (by omega),hl]
   simp
  ·rw[if_neg h2,List.getElem?_append_right (by omega),hl2,List.getElem?_drop]
   congr 1;omega
theorem ee_ {α:Type} {l:List α} {k:Nat} (hk:k≤l.length) (x y:α) :(l.take k++[x]++l.drop k).set k y=l.take k++[y]++l.drop k:=by
 have hl :(l.take k).length=k:=by simp;omega
 rw[List.append_assoc,List.set_append_right _ _ (by omega),hl,Nat.sub_self]
 simp
theorem mem_ins {α:Type} {l:List α} {k:Nat} {x y:α}:y∈l.take k++[x]++l.drop k↔y=x∨y∈l:=by
 conv=>rhs;rw[←List.take_append_drop k l]
 simp only[List.mem_append,List.mem_singleton]
 constructor
 ·rintro((h|h)|h)
  ·exact .inr (.inl h)
  ·exact .inl h
  ·exact .inr (.inr h)
 ·rintro(h|h|h)
  ·exact .inl (.inr h)
  ·exact .inl (.inl h)
  ·exact .inr h
theorem Y2_ {α:Type} {R:α→α→Prop} {l:List α} {k:Nat} {x:α} (h:l.Pairwise R) (h1:∀y∈l,R y x) (h2:∀y∈l,R x y) :(l.take k++[x]++l.drop k).Pairwise R:=by
 have h3:=h;rw[←List.take_append_drop k l] at h3;obtain⟨a,b,c⟩:=List.pairwise_append.1 h3;refine List.pairwise_append.2 ⟨List.pairwise_append.2 ⟨a,by simp,fun y hy z hz=>?_⟩,b,fun y hy z hz=>?_⟩
 ·rw[ms_ hz];exact h1 y (List.mem_of_mem_take hy)
 ·rcases ma_ hy with hy|hy
  ·exact c y hy z hz
  ·rw[ms_ hy];exact h2 z (List.mem_of_mem_drop hz)
theorem Uz_ {α:Type} (A D:List α) (x:α):∀T:List α,(T <+: A++[x]++D∨T=[x])→T.length≤A.length∨T <+: A++[x]∨A++[x] <+: T:=by
 rintro T (h|rfl)
 ·rcases List.prefix_or_prefix_of_prefix h (List.prefix_append (A++[x]) D) with h|h
  ·exact .inr (.inl h)
  ·exact .inr (.inr h)
 ·cases A with
  | nil=>exact .inr (.inl (List.prefix_refl _))
  | cons a A=>exact .inl (by simp)
theorem Vy_ {α:Type} (A D:List α) (x:α):∀T:List α,(T <+: A++[x]++D∨T=[x])→T.length≤(A++[x]).length∨T <+: A++[x]++D∨A++[x]++D <+: T:=by
 rintro T (h|rfl)
 ·exact .inr (.inl h)
 ·exact .inl (by simp)
structure B4_ where
 (win:Int) (it:ItR)
def waitF (x:B4_):List Value:=[.int .i64 x.win,.string x.it.key,.int .i64 x.it.time,.int .u64 x.it.weight]
theorem Bz_ (x:B4_) :(waitF x).length=4:=rfl
theorem Rx_:OneF waitF:=by intro x u hu;simp[waitF] at hu;rcases hu with rfl|rfl|rfl|rfl <;> rfl
structure ShM where
 (queue:List B4_) (ts:List (Int×Ao_))
def ShM.ws (S:ShM):List Int:=S.ts.map (·.1)
def Ao_.addE (c:Cfg) (t:List Int) (X:Ao_) (k:ByteArray) (w:Int):Ao_:=if X.err k w=0 then X.add c t k w else X
def tierAt (L:List (Int×Ao_)) (win:Int):Option Ao_:=match posW (L.map (·.1)) win with
 | some i=>L[i]?.map (·.2)
 | none=>none
def tsAdd (c:Cfg) (t:List Int) (L:List (Int×Ao_)) (x:B4_):List (Int×Ao_):=
 match posW (L.map (·.1)) x.win with
 | some i=>L.set i (x.win,(((L[i]?).map (·.2)).getD (tier0 c)).addE c t x.it.key x.it.weight)
 | none=>L.take (cntW (L.map (·.1)) x.win)++[(x.win,(tier0 c).addE c t x.it.key x.it.weight)]++L.drop (cntW (L.map (·.1)) x.win)
def stepS (c:Cfg) (t:List Int) (S:ShM):ShM:=match S.queue with
 | []=>S
 | x::q=>⟨q,tsAdd c t S.ts x⟩
def stepsS (c:Cfg) (t:List Int):Nat→ShM→ShM
 | 0,S=>S
 | n+1,S=>stepS c t (stepsS c t n S)
def untilQ (q:List B4_) (win:Int):Nat:=(q.foldl (fun(a:Nat×Nat) x=>(a.1+1,if x.win≤win then a.1+1 else a.2)) (0,0)).2
theorem Up_ (q:List B4_) (win:Int) :(q.foldl (fun(a:Nat×Nat) x=>(a.1+1,if x.win≤win then a.1+1 else a.2)) (0,0)).1=q.length:=by
 have:∀(q:List B4_) (a:Nat×Nat),(q.foldl (fun(a:Nat×Nat) x=>(a.1+1,if x.win≤win then a.1+1 else a.2)) a).1=a.1+q.length:=by
  intro q
  induction q with
  | nil=>intro a;simp
  | cons x q ih=>intro a;rw[List.foldl_cons,ih];simp only[lc_];omega
 rw[this];simp
theorem Os_ (q:List B4_) (x:B4_) (win:Int):untilQ (q++[x]) win=if x.win≤win then q.length+1 else untilQ q win:=by
 unfold untilQ;rw[List.foldl_append,List.foldl_cons,List.foldl_nil];dsimp only;rw[Up_]
theorem Fk_ {q:List B4_} {k:Nat} (win:Int) (h:k<q.length):untilQ (q.take (k+1)) win=if q[k].win≤win then k+1 else untilQ (q.take k) win:=by
 rw[tg_ h,Os_,lk_,Nat.min_eq_left (by omega)]
theorem Tr_ (q:List B4_) (win:Int):∀k,k≤q.length→untilQ (q.take k) win≤k:=by
 intro k
 induction k with
 | zero=>intro _;simp[untilQ]
 | succ k ih=>
  intro hk;rw[Fk_ win (by omega)]
  have:=ih (by omega)
  split <;> omega
def drainS (c:Cfg) (t:List Int) (S:ShM) (win:Int):ShM:=stepsS c t (untilQ S.queue win) S
def closeS (S:ShM) (win:Int):ShM:=match posW S.ws win with
 | some i=>{ S with ts:=S.ts.take i++S.ts.drop (i+1) }
 | none=>S
structure ShOk (c:Cfg) (S:ShM):Prop where
 queue :(S.queue.length:Int)≤c.Queue
 waits:∀x∈S.queue,(0≤x.win∧x.win≤1099511627776)∧(0≤x.it.time∧x.it.time≤1099511627776)∧W64 x.it.weight∧(0<x.it.key.size∧x.it.key.size≤255)
 tiers:∀p∈S.ts,(0≤p.1∧p.1≤1099511627776)∧TierOk c p.2
theorem Wt_ {c:Cfg} {X:Ao_} (h:TierOk c X) (hc:A7_ c) {w:Int} (hw:0≤w):TierOk c (X.addE c t k w):=by
 unfold Ao_.addE
 split
 ·rename_i he
  unfold Ao_.err at he
  split at he
  ·omega
  ·split at he
   ·omega
   ·split at he
    ·omega
    ·split at he
     ·omega
     ·exact h.add hc.depth (by omega) (by omega) (by omega)
 ·exact h
theorem Lb_ {c:Cfg} (hc:A7_ c):TierOk c (tier0 c):=(TierKn.new [] hc).ok
theorem am_ {c:Cfg} {L:List (Int×Ao_)} (hc:A7_ c) (h:∀p∈L,(0≤p.1∧p.1≤1099511627776)∧TierOk c p.2) {x:B4_} (hx :(0≤x.win∧x.win≤1099511627776)∧W64 x.it.weight):∀p∈tsAdd c t L x,(0≤p.1∧p.1≤1099511627776)∧TierOk c p.2:=by
 have hw:=hx.2.1;intro p hp;unfold tsAdd at hp
 split at hp
 ·rename_i i hi
  rcases List.mem_or_eq_of_mem_set hp with hp|rfl
  ·exact h p hp
  ·refine⟨hx.1,Wt_ ?_ hc hw⟩
   cases hL:L[i]? with
   | none=>exact Lb_ hc
   | some q=>exact(h q (mo_ hL)).2
 ·rw[List.append_assoc] at hp
  rcases ma_ hp with hp|hp
  ·exact h p (List.mem_of_mem_take hp)
  ·rcases ma_ hp with hp|hp
   ·rw[ms_ hp]
    exact⟨hx.1,Wt_ (Lb_ hc) hc hw⟩
   ·exact h p (List.mem_of_mem_drop hp)
theorem Y0_ {c:Cfg} {S:ShM} (hc:A7_ c) (h:ShOk c S):ShOk c (stepS c t S):=by
 unfold stepS
 split
 ·exact h
 ·rename_i x q hq
  have hq1:=h.queue;have hw:=h.waits;rw[hq] at hq1 hw;exact⟨by simp at hq1 ⊢;omega,fun y hy=>hw y (by simp[hy]),am_ hc h.tiers ⟨(hw x (by simp)).1,(hw x (by simp)).2.2.1⟩⟩
theorem H5_ {c:Cfg} {t:List Int} {S:ShM} (hc:A7_ c) (h:ShOk c S):∀n,ShOk c (stepsS c t n S)
 | 0=>h
 | n+1=>Y0_ hc (H5_ hc h n)
theorem Uv_ {c:Cfg} {S:ShM} (h:ShOk c S) (win:Int):ShOk c (closeS S win):=by
 unfold closeS
 split
 ·refine⟨h.queue,h.waits,fun p hp=>?_⟩
  rcases ma_ hp with hp|hp
  ·exact h.tiers p (List.mem_of_mem_take hp)
  ·exact h.tiers p (List.mem_of_mem_drop hp)
 ·exact h
structure CluM where
 (mark:Int) (str:StrM) (led:List (Int×Int)) (acc:Int) (rej:List Int) (sh:List ShM) (items:List ItR)
def routeF (c:Cfg) (t:List Int) (k:ByteArray) (n:Int):Int:=(setF c t k).getD (n%c.Spread).toNat 0
def qLen (K:CluM) (s:Int):Int:=((K.sh[s.toNat]?.map (fun S=>(S.queue.length:Int))).getD 0)
def judgeV (c:Cfg) (t:List Int) (K:CluM) (x:InpR):Int×Int:=
 if x.ver≠0 then (x.ver,0)
 else if verV c K.mark x.it.time≠0 then (verV c K.mark x.it.time,0)
 else if fitsB (ldAt K.led (winV c x.it.time)) x.it.weight=false then (5,0)
 else if qLen K (routeF c t x.it.key K.acc)=c.Queue then (6,0)
 else (0,routeF c t x.it.key K.acc)
def pushS (S:ShM) (win:Int) (it:ItR):ShM:={ S with queue:=S.queue++[⟨win,it⟩] }
def inpK (c:Cfg) (t:List Int) (K:CluM) (x:InpR):CluM×Int:=
 if (judgeV c t K x).1≠0 then ({ K with rej:=rejR K.rej (judgeV c t K x).1 },(judgeV c t K x).1)
 else ({ K with led:=ldPut K.led (winV c x.it.time) x.it.weight,acc:=K.acc+1,sh:=K.sh.set (judgeV c t K x).2.toNat (pushS ((K.sh[(judgeV c t K x).2.toNat]?).getD ⟨[],[]⟩) (winV c x.it.time) x.it),items:=K.items++[x.it] },0)
def inpsK (c:Cfg) (t:List Int) (K:CluM) (l:List InpR):CluM×List Int:=l.foldl (fun a x=>((inpK c t a.1 x).1,a.2++[(inpK c t a.1 x).2])) (K,[])
theorem Gs_ (c:Cfg) (t:List Int) (K:CluM) (l:List InpR) (x:InpR):inpsK c t K (l++[x]) =((inpK c t (inpsK c t K l).1 x).1,(inpsK c t K l).2++[(inpK c t (inpsK c t K l).1 x).2]):=by simp[inpsK]
def chInps (c:Cfg) (x:ChM):List InpR:=if x.ver=0 then inputsF c.Key x.body else [⟨itZ,x.ver⟩]
def feedK (c:Cfg) (t:List Int) (K:CluM) (l:List UInt8):CluM×List Int:=
 inpsK c t { K with str:=(strF K.str l).1 } ((strF K.str l).2.flatMap (chInps c))
def closeK (c:Cfg) (t:List Int) (K:CluM) (win:Int):CluM:={ K with sh:=K.sh.map fun S=>closeS (drainS c t S win) win,led:=ldDel K.led win }
def low1 (c:Cfg) (mark:Int):List Int→List Int:=List.takeWhile fun w=>decide (w<lowV c mark)
def tickK (c:Cfg) (t:List Int) (K:CluM) (time:Int):CluM:=
 (low1 c (max K.mark time) (K.led.map (·.1))).foldl (closeK c t) { K with mark:=max K.mark time }
abbrev Fp:=Nat→Prop
def Off (F G:Fp):Prop:=∀i,F i→¬G i
theorem Off.symm {F G:Fp} (h:Off F G):Off G F:=fun i hg hf=>h i hf hg
theorem Off.left {F F' G:Fp} (h:Off F G) (k:∀i,F' i→F i):Off F' G:=fun i hf=>h i (k i hf)
theorem Off.right {F G G':Fp} (h:Off F G) (k:∀i,G' i→G i):Off F G':=fun i hf hg=>h i hf (k i hg)
def Low (w:World) (F:Fp):Prop:=∀i,F i→i<w.heap.size
theorem Low.up {F:Fp} (h:Low w F) (k:w.heap.size≤w'.heap.size):Low w' F:=fun i hi=>ll_ (h i hi) k
structure Mov (F F':Fp) (w w':World):Prop where
 grown:GrownS F w w'
 new:∀i,F' i→F i∨w.heap.size≤i
theorem Mov.refl (F:Fp) (w:World):Mov F F w w:=⟨GrownS.refl F w,fun _ h=>.inl h⟩
theorem Mov.trans {F F' F'':Fp} {a b c:World} (h:Mov F F' a b) (k:Mov F' F'' b c):Mov F F'' a c:=
 ⟨h.grown.trans k.grown fun i hi hlt=>(h.new i hi).elim id fun e=>absurd hlt (by omega),fun i hi=>(k.new i hi).elim (h.new i) fun e=>.inr (lt_ h.grown.size e)⟩
theorem Mov.of {F F':Fp} (h:w.grownBy w' none) (k:∀i,F' i→F i∨w.heap.size≤i):Mov F F' w w':=⟨GrownS.none_ h,k⟩
theorem Mov.same {F:Fp} (h:w.grownBy w' none):Mov F F w w':=Mov.of h fun _ hi=>.inl hi
theorem Mov.wide {F F' G G':Fp} (h:Mov F F' w w') (h1:∀i,F i→G i) (h2:∀i,G' i→G i∨F' i):Mov G G' w w':=
 ⟨h.grown.mono fun i hi _=>h1 i hi,fun i hi=>(h2 i hi).elim .inl fun hf=>(h.new i hf).imp (h1 i) id⟩
theorem Mov.off {F F' G:Fp} (h:Mov F F' w w') (hl:Low w G) (ho:Off G F):Off G F':=fun i hg hf=>(h.new i hf).elim (ho i hg) fun e=>by have:=hl i hg;omega
theorem Mov.size {F F':Fp} (h:Mov F F' w w'):w.heap.size≤w'.heap.size:=h.grown.size
theorem Mov.back {F F':Fp} {w0 w w':World} (g:w0.grownBy w none) (h:Mov F F' w w') (hF:∀i,F i→w0.heap.size≤i):w0.grownBy w' none:=h.grown.base g hF
theorem Mov.above {F F':Fp} {w0:Nat} (h:Mov F F' w w') (h0:w0≤w.heap.size) (hF:∀i,F i→w0≤i):∀i,F' i→w0≤i:=fun i hi=>(h.new i hi).elim (hF i) fun e=>lt_ h0 e
def ownF (v:Value):Fp:=fun i=>v.ownBlock=some i
theorem Ax_ (i:Nat):¬ownF (.slice none 0 0) i:=by simp[ownF,Value.ownBlock]
def oneF (g:Nat):Fp:=fun i=>i=g
theorem Own.low {α:Type} {f:α→List Value} {s:Nat} {e:TypeId} {B:Nat} {v:Value} {l:List α} (h:Own f s e B w v l):Low w (ownF v):=fun i hi=>(h.lt i hi).2
theorem Own.offS {α:Type} {f:α→List Value} {s:Nat} {e:TypeId} {B:Nat} {v:Value} {l:List α} {S:Fp} (h:Own f s e B w v l) (k:GrownS S w w') (ho:Off (ownF v) S):Own f s e B w' v l:=h.keptS k fun g hg=>ho g hg
theorem Own.zero {α:Type} {f:α→List Value} {s:Nat} {e:TypeId} {B:Nat} {v:Value} {l:List α} (h:Own f s e B w v l):Own f s e 0 w v l:=h.base fun _ _=>zl_ _
end
section
open Go.RowKit Go.Sort
theorem Bp_:Elt 126 224 (.agg #[.string ⟨#[]⟩,.int .u64 0,.int .u64 0]) 3 32:=⟨underlying126,by kernel_rfl,rfl,by decide⟩
theorem Bo_:OneF entF:=by intro x u hu;simp[entF] at hu;rcases hu with rfl|rfl|rfl <;> rfl
theorem RdL.entr {v:Value} {l:List Ent} (h:RdL entF 3 w v l) {k:Nat} (hk:k<l.length):∃g off cap,v=.slice (some ⟨g,off,none⟩) l.length cap∧g<w.heap.size ∧
  w.cell? ⟨g,off+k*3,none⟩=some (.string l[k].key)∧w.cell? ⟨g,off+k*3+1,none⟩=some (.int .u64 l[k].own)∧w.cell? ⟨g,off+k*3+2,none⟩=some (.int .u64 l[k].slack):=by
 obtain⟨g,off,cap,hv,hg,hc⟩:=h.at_ Az_ hk;exact⟨g,off,cap,hv,hg,hc 0 _ rfl,hc 1 _ rfl,hc 2 _ rfl⟩
theorem gz_ (a b:ByteArray) :(a.toList==b.toList)=decide (a=b):=by
 rw[ByteArray.toList_eq,ByteArray.toList_eq,Bool.eq_iff_iff];simp only[beq_iff_eq,decide_eq_true_eq]
 constructor
 ·intro h;exact Od_ h
 ·rintro rfl;rfl
def plN (L:List Ent) (k:ByteArray):Nat:=L.findIdx (hasK k)
def plI (L:List Ent) (k:ByteArray):Int:=if plN L k<L.length then plN L k else -1
theorem gn_ {L:List Ent} {i:Nat} (h:i<plN L k) (hi:i<L.length):hasK k L[i]=false:=by
 have:=List.not_of_lt_findIdx h
 simpa using this
theorem b9_ {L:List Ent} (h:plN L k<L.length):hasK k L[plN L k]=true:=List.findIdx_getElem (w:=h)
theorem h1_ (L:List Ent) (k:ByteArray):plN L k≤L.length:=List.findIdx_le_length
theorem X2_ (L:List Ent) (k:ByteArray):getE L k=L[plN L k]?:=by
 unfold getE plN;rw[←List.find?_eq_getElem?_findIdx]
theorem Hp_ {L:List Ent} (h:getE L k=none):plI L k=-1:=by
 rw[X2_,List.getElem?_eq_none_iff] at h;exact if_neg (by omega)
theorem Db_ {L:List Ent} {e:Ent} (h:getE L k=some e):plI L k=plN L k∧plN L k<L.length∧L[plN L k]?=some e∧delE L k=L.eraseIdx (plN L k):=by
 rw[X2_] at h;have hl:=(gs_ h).1;refine⟨if_pos hl,hl,h,?_⟩;unfold delE plN;rw[List.eraseP_eq_eraseIdx]
 have:L.findIdx? (hasK k)=some (L.findIdx (hasK k)):=List.findIdx?_eq_some_of_exists (by
  exact⟨_,mg_ hl,b9_ hl⟩)
 rw[this]
theorem Ck_ (v:Value) (L:List Ent) (k:ByteArray) (w:World) (h:RdL entF 3 w v L):Calls prog 182 #[v,.string k] w (RetInt (plI L k) w):=by
 obtain⟨a,c,rfl⟩:=h.shape;have hm:=h.2.1;have H:=hh_ h;have HN1:=hh_ (h1_ L k)
 have HN2:=hh_ fun i (h:i<plN L k) h2=>gn_ (k:=k) h h2
 have HN3:=hh_ fun h=>b9_ (L:=L) (k:=k) h
 have HI:=hh_ (show plI L k=if plN L k<L.length then (plN L k:Int) else -1 from rfl);clear h;generalize plN L k=N at *;generalize plI L k=I at *;have hN:=HN1.out
 go_enter func182,ntmps182
 go_upto_region 2 with fail
 go_loopw [9] (fun s9 wr=>∃i:Nat,i≤N∧s9=.int .i64 i∧w.grownBy wr none) (fun s9 _=>N-(RowKit.intOf s9).toNat)
 case atStart=>exact⟨0,zl_ _,rfl,Ab_ _ _⟩
 case round=>
  obtain⟨i,hi,rfl,hg⟩:=hrel
  by_cases hl:i<L.length
  ·obtain⟨g,off,cap,hv,hgl,d0,d1,d2⟩:=RdL.entr (RdL.same H.out hg) hl
   cases hv;have hse:=gz_ L[i].key k
   by_cases hiN:i<N
   ·have hx:=HN2.out i hiN hl
    unfold hasK at hx;rw[hx] at hse;clear hx;generalize L[i]=en at *
    go_upto_region 4 with fail
    have G1:=Ad_ hg (.cells #[.string en.key,.int .u64 en.own,.int .u64 en.slack] 224);have A1:=(Blk.new wr #[.string en.key,.int .u64 en.own,.int .u64 en.slack] 224).cell 0;generalize wr.alloc _=w1 at *;generalize wr.heap.size=gk at *;clear d0 d1 d2 hgl hg
    go_wp2_with fail
    exact⟨⟨i+1,by omega,by go_num,G1⟩,by simp[RowKit.intOf];omega⟩
   ·obtain rfl:i=N:=by omega
    have hx:=HN3.out hl;unfold hasK at hx;rw[hx] at hse;clear hx;have hI:=HI.out;rw[if_pos hl] at hI;have HI2:=hh_ hI;clear hI;generalize L[i]=en at *
    go_upto_region 4 with fail
    have G1:=Ad_ hg (.cells #[.string en.key,.int .u64 en.own,.int .u64 en.slack] 224);have A1:=(Blk.new wr #[.string en.key,.int .u64 en.own,.int .u64 en.slack] 224).cell 0;generalize wr.alloc _=w1 at *;generalize wr.heap.size=gk at *;clear d0 d1 d2 hgl hg
    go_wp2_with fail
    go_ret
    exact Aj_ (by rw[HI2.out]) G1
  ·have hI:=HI.out
   rw[if_neg (by omega)] at hI;have HI2:=hh_ hI;clear hI
   go_wp2_with fail
   go_ret
   exact Aj_ (by rw[HI2.out]) hg
theorem Ee_ (B:Nat) (v:Value) (L:List Ent) (p:Nat) (w:World) (h:Own entF 3 224 B w v L) (hp:p<L.length) (hL:L.length≤1000000):Calls prog 183 #[v,.int .i64 p] w (RetOwn entF 3 224 (L.eraseIdx p) w):=by
 obtain⟨a,c,rfl⟩:=h.shape;have hcap:L.length≤c:=h.cap
 have hc1 :(p:Int)≤(c:Int):=by omega
 have hc2 :(p:Int)+1≤(L.length:Int):=by omega
 have hc3 :(L.length:Int)≤(c:Int):=by omega
 have hp0 :(0:Int)≤(p:Int):=by omega
 have hp1 :(p:Int)≤(L.length:Int):=by omega
 have hlt1 :(L.take p).length=p:=by simp;omega
 have hlt2 :(L.drop (p+1)).length=L.length-(p+1):=by simp
 have hb3 :(([]:List Ent).length+(L.take p).length)*32≤140737488355328:=by rw[hlt1];simp;omega
 have hb4 :([]:List Ent).length+(L.take p).length≤9223372036854775807:=by rw[hlt1];simp;omega
 have hb5 :(([]++L.take p:List Ent).length+(L.drop (p+1)).length)*32≤140737488355328:=by rw[List.nil_append,hlt1,hlt2];omega
 have hb6 :([]++L.take p:List Ent).length+(L.drop (p+1)).length≤9223372036854775807:=by rw[List.nil_append,hlt1,hlt2];omega
 have hR1:RdL entF 3 (w.alloc (.cells #[] 224)).drew (.slice a p c) (L.take p):=(h.rd.take Az_ (by omega) c).same (Al_ (ga_ w _ none));have hO0:Own entF 3 224 w.heap.size (w.alloc (.cells #[] 224)).drew (.slice (some ⟨w.heap.size,0,none⟩) 0 0) []:=A0_ entF 3 (le_ _)
 have hs2:w.heap.size≤(w.alloc (.cells #[] 224)).drew.heap.size:=by simp[World.drew]
 have HR2:=hh_ fun w' (q:w.grownBy w' none)=>RdL.same (h.rd.drop Az_ (show p+1≤L.length by omega) hcap (c-(p+1))) q
 have Hlt1:=hh_ hlt1.symm;have Hlt2:=hh_ hlt2.symm;have he3:=hh_ (show([]++L.take p++L.drop (p+1):List Ent)=L.eraseIdx p by rw[List.nil_append];exact(List.eraseIdx_eq_take_drop_succ L p).symm);have hw1:IntKind.i64.wrap ((p:Int)+1) =(p:Int)+1:=IntWalk.i64_in _ (by omega)
 have hw2 :((p:Int)+1).toNat=p+1:=by omega
 have hw3 :(0:Int)≤(p:Int)+1:=by omega
 have hpl:p+1≤L.length:=by omega
 have tok:=hh_ hp;clear h hlt1 hlt2 hp
 go_enter func183,ntmps183
 go_upto_region 1 with fail
 go_region_law ((first
  |(have _t:=tok;refine Hm_ Bp_ Bo_ hO0 hR1 Hlt1.out hb3 hb4 hs2 (by rfl) _ _ (by rfl) (by rfl) (by rfl) ?_;intro v2 w2 o2 g2 l2;clear tok;have hg2:=Aq_ (Al_ (Ad_ (Ab_ w none) _)) hO0 (le_ _) g2;have hR2:=HR2.out _ hg2;have hs3:=hg2.size)
  |(refine Hm_ Bp_ Bo_ o2 hR2 Hlt2.out hb5 hb6 hs3 (by rfl) _ _ (by rfl) (by rfl) (by rfl) ?_;intro v3 w3 o3 g3 l3)))
 have hg3:=Aq_ hg2 o2 (le_ _) g3;rw[he3.out] at o3;obtain⟨a3,c3,hv3⟩:=o3.shape;subst hv3;clear hR2 HR2;generalize (if c=p+1 then a else Option.map (fun x=>x.add ((p+1)*3)) a)=od at *
 go_wp2_with fail
 go_ret
 exact⟨_,rfl,o3,hg3⟩
abbrev eV (e:Ent):Value:=.agg #[.string e.key,.int .u64 e.own,.int .u64 e.slack]
abbrev ent0:Ent:=⟨⟨#[]⟩,0,0⟩
def optV (o:Option Ent):Value:=.tuple #[eV (o.getD ent0),.bool o.isSome]
abbrev rtA (T:TabM) (v:Value):Array Value:=#[.int .i64 T.mode,.int .i64 T.m,v,.int .u64 T.base,.int .u64 T.sum]
structure RTab (w:World) (g:Nat) (v:Value) (T:TabM):Prop where
 blk:Blk w g (rtA T v)
 own:Own entF 3 224 0 w v T.L
 ne:¬ownF v g
def rtF (g:Nat) (v:Value):Fp:=fun i=>i=g∨ownF v i
theorem RTab.low {g:Nat} {v:Value} {T:TabM} (h:RTab w g v T):Low w (rtF g v):=fun i hi=>hi.elim (fun e=>e▸h.blk.lt) (h.own.low i)
theorem RTab.keptS {g:Nat} {v:Value} {T:TabM} {S:Fp} (h:RTab w g v T) (k:GrownS S w w') (ho:Off (rtF g v) S):RTab w' g v T:=
 ⟨h.blk.keptS k (ho g (.inl rfl)),h.own.offS k (ho.left fun i hi=>.inr hi),h.ne⟩
theorem RTab.same {g:Nat} {v:Value} {T:TabM} (h:RTab w g v T) (k:w.grownBy w' none):RTab w' g v T:=h.keptS (GrownS.none_ (S:=fun _=>False) k) fun _ _=>id
theorem Hw_ {x:Int} (h0:0≤x) (h1:x≤mostW):W64 x:=by unfold mostW at h1;exact⟨h0,by omega⟩
theorem B5_.w64 {T:TabM} (h:B5_ T):W64 T.base∧W64 T.sum∧∀e∈T.L,W64 e.own∧W64 e.slack∧e.own+e.slack≤mostW∧e.own≤T.sum:=by
 have hb:=h.base;have hs:=h.sum;refine⟨Hw_ hb.1 (by omega),Hw_ (by omega) hs,fun e he=>?_⟩;have h1:=h.ents.own e he;have h2:=h.ents.slack e he;have h3:=h.cnt e he
 have h4:e.own+e.slack≤mostW:=by
  by_cases hm:T.mode=2
  ·rw[fix2 hm] at h3
   have:=h.zero hm e he
   simp only[Ent.cnt] at h3;omega
  ·rw[fix1 hm] at h3
   simp only[Ent.cnt] at h3;omega
 have h5:e.own≤T.sum:=by
  by_cases hm:T.mode=2
  ·rw[fix2 hm] at h3;simp only[Ent.cnt] at h3;omega
  ·rw[fix1 hm] at h3;simp only[Ent.cnt] at h3;omega
 exact⟨Hw_ (by omega) (by omega),Hw_ h2 (by omega),h4,h5⟩
theorem Pv_ {L:List Ent} {e:Ent} (h:getE L k=some e) {v:Value} (hr:RdL entF 3 w v L):∃g off cap,v=.slice (some ⟨g,off,none⟩) L.length cap∧g<w.heap.size ∧
  w.cell? ⟨g,off+plN L k*3,none⟩=some (.string e.key)∧w.cell? ⟨g,off+plN L k*3+1,none⟩=some (.int .u64 e.own)∧w.cell? ⟨g,off+plN L k*3+2,none⟩=some (.int .u64 e.slack):=by
 obtain⟨_,hl,he,_⟩:=Db_ h
 have:=hr.entr hl
 rw[gq_ hl] at he;rw[Option.some.inj he] at this;exact this
theorem cg_ (g:Nat) (v:Value) (T:TabM) (k:ByteArray) (w:World) (h:RTab w g v T):Calls prog 160 #[.pointer (some ⟨g,0,none⟩),.string k] w (Cq_ (optV (T.get k)) w):=by
 have H:=hh_ h
 have HP:=hh_ fun y (q:w.grownBy y none)=>Ck_ v T.L k y (h.same q).own.rd
 have hglt:=h.blk.lt;have hne:=h.ne
 cases hg:getE T.L k with
 | none=>
  rw[Hp_ hg] at HP;have hR:=hh_ (show T.get k=none by unfold TabM.get;rw[hg];rfl);rw[hR.out];clear h hg
  go_enter func160,ntmps160
  go_upto_region 1 with fail
  obtain⟨A1,G1⟩:=nb_ w #[.string ⟨#[]⟩,.int .u64 0,.int .u64 0] 224;generalize w.alloc _=w1 at *;generalize hgb:w.heap.size=gb at *;have b1:=(H.out.same G1).blk.cell
  go_upto_region 2 with(go_at_call 182;refine(HP.out _ G1).mono ?_;rintro e w2 ⟨rfl,g2⟩)
  have A2:=A1.same g2;have K2:=Aa_ G1 g2;have f2:=A2.free;have a2:=A2.cell
  go_wp2_with fail
  (have g3:World.grownBy w2 (((w2.setCell ⟨gb,0,none⟩ (.string ⟨#[]⟩)).setCell ⟨gb,1,none⟩ (.int .u64 0)).setCell ⟨gb,2,none⟩ (.int .u64 0)) (some gb):=Ac_ (Ac_ (Ac_ (Ab_ _ _) _ _) _ _) _ _);(have A3:Blk (((w2.setCell ⟨gb,0,none⟩ (.string ⟨#[]⟩)).setCell ⟨gb,1,none⟩ (.int .u64 0)).setCell ⟨gb,2,none⟩ (.int .u64 0)) gb #[.string ⟨#[]⟩,.int .u64 0,.int .u64 0]:=((Blk.set_ (by assumption) 0 _ rfl).set_ 1 _ rfl).set_ 2 _ rfl);generalize ((w2.setCell _ _).setCell _ _).setCell _ _=w3 at *
  have rc:=A3.cell;refine bodyPost_ret (v:=.tuple #[eV ent0,.bool false]) (by simp[results,results160,go_sem,rc]) rfl ?_;exact Bx_ rfl (Af_ K2 g3 (by omega))
 | some e=>
  obtain⟨i1,_,_,_⟩:=Db_ hg;rw[i1] at HP
  have HC:=hh_ fun y (q:w.grownBy y none)=>Pv_ hg (h.same q).own.rd
  have hR:=hh_ (show T.get k=some (T.fix e) by unfold TabM.get;rw[hg];rfl);rw[hR.out];have hl:=(Db_ hg).2.1;generalize plN T.L k=N at *;obtain⟨a,c,hv⟩:=h.own.shape;subst hv;clear h hg
  go_enter func160,ntmps160
  go_upto_region 1 with fail
  obtain⟨A1,G1⟩:=nb_ w #[.string ⟨#[]⟩,.int .u64 0,.int .u64 0] 224;generalize w.alloc _=w1 at *;generalize hgb:w.heap.size=gb at *;have b1:=(H.out.same G1).blk.cell
  go_upto_region 2 with(go_at_call 182;refine(HP.out _ G1).mono ?_;rintro e w2 ⟨rfl,g2⟩)
  have A2:=A1.same g2;have K2:=Aa_ G1 g2;have b2:=(H.out.same K2).blk.cell;obtain⟨g',off,cap,hv,hgl,d0,d1,d2⟩:=HC.out _ K2;cases hv
  go_upto_region 5 with fail
  obtain⟨A3,G3⟩:=nb_ w2 #[.string e.key,.int .u64 e.own,.int .u64 e.slack] 224;generalize w2.alloc _=w3 at *;generalize hgc:w2.heap.size=gc at *;have K3:=Aa_ K2 G3;have b3:=(H.out.same K3).blk.cell;have hge:=A2.lt;have A4:=A2.same G3;clear A1 A2 d0 d1 d2 b1 b2 HC HP;have hz2:=K2.size
  by_cases hm:T.mode=2
  ·have hF:=hh_ (fix2 hm e)
   have hm2 :(T.mode==2)=true:=beq_iff_eq.2 hm;have a3:=A3.cell;have f3:=A3.free
   go_upto_region 7 with fail
   have A5:=A3.set_ 2 (.int .u64 T.base) (cs':=#[.string e.key,.int .u64 e.own,.int .u64 T.base]) rfl;have A6:=A4.off (show gc≠gb by omega) 2 (.int .u64 T.base);have K5:w.grownBy (w3.setCell ⟨gc,2,none⟩ (.int .u64 T.base)) none:=Ai_ (p:=⟨gc,2,none⟩) K3 (show w.heap.size≤gc by omega) _;clear a3 f3 b3 A3 A4 hm hm2;generalize w3.setCell ⟨gc,2,none⟩ (.int .u64 T.base)=w5 at *;have a5:=A5.cell;have a6:=A6.cell;have f6:=A6.free
   go_wp2_with fail
   (have g7:World.grownBy w5 (((w5.setCell ⟨gb,0,none⟩ (.string e.key)).setCell ⟨gb,1,none⟩ (.int .u64 e.own)).setCell ⟨gb,2,none⟩ (.int .u64 T.base)) (some gb):=Ac_ (Ac_ (Ac_ (Ab_ _ _) _ _) _ _) _ _);(have A7:Blk (((w5.setCell ⟨gb,0,none⟩ (.string e.key)).setCell ⟨gb,1,none⟩ (.int .u64 e.own)).setCell ⟨gb,2,none⟩ (.int .u64 T.base)) gb #[.string e.key,.int .u64 e.own,.int .u64 T.base]:=((Blk.set_ (by assumption) 0 _ rfl).set_ 1 _ rfl).set_ 2 _ rfl);generalize ((w5.setCell _ _).setCell _ _).setCell _ _=w7 at *
   have rc:=A7.cell;refine bodyPost_ret (v:=.tuple #[.agg #[.string e.key,.int .u64 e.own,.int .u64 T.base],.bool true]) (by simp[results,results160,go_sem,rc]) rfl ?_;exact Bx_ (by rw[hF.out];rfl) (Af_ K5 g7 (by omega))
  ·have hF:=hh_ (fix1 hm e)
   have hm2 :(T.mode==2)=false:=bf_ hm;have a3:=A3.cell;have a4:=A4.cell;have f4:=A4.free
   go_wp2_with fail
   (have g7:World.grownBy w3 (((w3.setCell ⟨gb,0,none⟩ (.string e.key)).setCell ⟨gb,1,none⟩ (.int .u64 e.own)).setCell ⟨gb,2,none⟩ (.int .u64 e.slack)) (some gb):=Ac_ (Ac_ (Ac_ (Ab_ _ _) _ _) _ _) _ _);(have A7:Blk (((w3.setCell ⟨gb,0,none⟩ (.string e.key)).setCell ⟨gb,1,none⟩ (.int .u64 e.own)).setCell ⟨gb,2,none⟩ (.int .u64 e.slack)) gb #[.string e.key,.int .u64 e.own,.int .u64 e.slack]:=((Blk.set_ (by assumption) 0 _ rfl).set_ 1 _ rfl).set_ 2 _ rfl);generalize ((w3.setCell _ _).setCell _ _).setCell _ _=w7 at *
   have rc:=A7.cell;refine bodyPost_ret (v:=.tuple #[.agg #[.string e.key,.int .u64 e.own,.int .u64 e.slack],.bool true]) (by simp[results,results160,go_sem,rc]) rfl ?_;exact Bx_ (by rw[hF.out];rfl) (Af_ K3 g7 (by omega))
theorem Fp_ (g:Nat) (v:Value) (T:TabM) (k:ByteArray) (en:Ent) (w:World) (h:RTab w g v T) (hg:T.get k=some en):Calls prog 160 #[.pointer (some ⟨g,0,none⟩),.string k] w (Cq_ (.tuple #[.agg #[.string en.key,.int .u64 en.own,.int .u64 en.slack],.bool true]) w):=by
 have:=cg_ g v T k w h
 rw[hg] at this;exact this
theorem U7_ (g:Nat) (v:Value) (T:TabM) (k:ByteArray) (w:World) (h:RTab w g v T) (hg:T.get k=none):Calls prog 160 #[.pointer (some ⟨g,0,none⟩),.string k] w (Cq_ (.tuple #[.agg #[.string ⟨#[]⟩,.int .u64 0,.int .u64 0],.bool false]) w):=by
 have:=cg_ g v T k w h
 rw[hg] at this;exact this
theorem Wa_ {T:TabM} {en:Ent} (h:getE T.L k=some en):T.get k=some (T.fix en):=by unfold TabM.get;rw[h];rfl
theorem RTab.setSum {g:Nat} {v:Value} {T:TabM} (h:RTab w g v T) (s:Int):RTab (w.setCell ⟨g,4,none⟩ (.int .u64 s)) g v { T with sum:=s }∧w.grownBy (w.setCell ⟨g,4,none⟩ (.int .u64 s)) (some g):=
 ⟨⟨h.blk.set_ 4 _ rfl,h.own.kept (Ac_ (Ab_ w (some g)) _ _) fun q hq e=>h.ne (by cases e;exact hq),h.ne⟩,Ac_ (Ab_ w (some g)) _ _⟩
theorem RTab.setBase {g:Nat} {v:Value} {T:TabM} (h:RTab w g v T) (s:Int):RTab (w.setCell ⟨g,3,none⟩ (.int .u64 s)) g v { T with base:=s }∧w.grownBy (w.setCell ⟨g,3,none⟩ (.int .u64 s)) (some g):=
 ⟨⟨h.blk.set_ 3 _ rfl,h.own.kept (Ac_ (Ab_ w (some g)) _ _) fun q hq e=>h.ne (by cases e;exact hq),h.ne⟩,Ac_ (Ab_ w (some g)) _ _⟩
theorem RTab.setL {g:Nat} {v v':Value} {T:TabM} (h:Blk w g (rtA T v)) {B:Nat} {L:List Ent} (ho:Own entF 3 224 B w v' L) (hn:¬ownF v' g):RTab (w.setCell ⟨g,2,none⟩ v') g v' { T with L:=L }∧w.grownBy (w.setCell ⟨g,2,none⟩ v') (some g):=
 ⟨⟨h.set_ 2 _ rfl,(ho.kept (Ac_ (Ab_ w (some g)) _ _) fun q hq e=>hn (by cases e;exact hq)).zero,hn⟩,Ac_ (Ab_ w (some g)) _ _⟩
theorem lies_new {v v':Value} {n:Nat} (l:Lies v v' n):∀i,ownF v' i→ownF v i∨n≤i:=fun i hi=>by
 rcases l with l |⟨q,l,l6⟩
 ·exact .inl (l.symm.trans hi)
 ·rw[hi] at l;cases l;exact .inr l6
theorem Hf_ {v v':Value} {n g:Nat} (l:Lies v v' n) (hn:¬ownF v g) (hg:g<n):¬ownF v' g:=fun e=>(lies_new l g e).elim hn fun h=>by omega
theorem Of_ (L:List Ent) (x:Int) (e:Ent):minOwn (L++[e]) x=min (minOwn L x) e.own:=by simp[minOwn]
theorem T6_ (L:List Ent) (d:Int) (e:Ent):cutE (L++[e]) d=cutE L d++(if 0<e.own-d then [⟨e.key,e.own-d,e.slack⟩] else []):=by
 unfold cutE;rw[List.map_append,List.filter_append]
 congr 1
 simp only[List.map_cons,List.map_nil,List.filter_cons,List.filter_nil]
 by_cases h:0<e.own-d
 ·rw[if_pos (by simpa using h),if_pos h]
 ·rw[if_neg (by simpa using h),if_neg h]
def TabM.deduct (T:TabM) (k:ByteArray) (x:Int):TabM:=
 if (T.L.length:Int)=T.m then { T with base:=T.base+minOwn T.L x,L:=if 0<x-minOwn T.L x then cutE T.L (minOwn T.L x)++[⟨k,x-minOwn T.L x,0⟩] else cutE T.L (minOwn T.L x) }
 else { T with L:=T.L++[⟨k,x,0⟩] }
structure Ded (T:TabM) (x:Int):Prop where
 own:∀e∈T.L,1≤e.own∧W64 e.own∧W64 e.slack
 len:T.L.length≤64
 base:W64 T.base
 sum:0≤T.base∧0≤x∧T.base+x≤18446744073709551615
 m:1≤T.m∧T.m≤64
theorem Ul_ (g:Nat) (v:Value) (T:TabM) (k:ByteArray) (x:Int) (w:World) (h:RTab w g v T) (hD:Ded T x) (hx1:1≤x) :
  Calls prog 184 #[.pointer (some ⟨g,0,none⟩),.string k,.int .u64 x] w (fun e w'=>e=.returned (.tuple #[])∧∃v',RTab w' g v' (T.deduct k x)∧Mov (rtF g v) (rtF g v') w w'):=by
 obtain⟨a,c,hv⟩:=h.own.shape;have H:=hh_ h;have hglt:=h.blk.lt;have hlen:=hD.len;obtain⟨m1,m2⟩:=hD.m;obtain⟨s0,s1,s2⟩:=hD.sum;subst hv;have b0:=h.blk.cell;have f0:=h.blk.free
 by_cases hl :(T.L.length:Int)=T.m
 ·have hl2 :((T.L.length:Int)==T.m)=true:=beq_iff_eq.2 hl
  have HD:=hh_ hD;have HR:=hh_ (show T.deduct k x={ T with base:=T.base+minOwn T.L x,L:=if 0<x-minOwn T.L x then cutE T.L (minOwn T.L x)++[⟨k,x-minOwn T.L x,0⟩] else cutE T.L (minOwn T.L x) } from if_pos hl);have HM:=hh_ (In_ T.L x);have HMp:=hh_ (minOwn_pos hx1 fun e he=>(hD.own e he).1);clear h hl hD
  go_enter func184,ntmps184
  go_upto_region 1 with fail
  go_quiet (fail)
  have Hd1:World.grownBy w (w.drewN nq) none:=Ae_ (Ab_ w none) _;generalize w.drewN nq=w1 at *;have b1:=(H.out.same Hd1).blk.cell;clear b0 f0
  go_upto_region 3 with fail
  go_loopw [6,28] (fun s6 s28 wk=>∃j:Nat,j≤T.L.length∧s28=.int .i64 j∧s6=.int .u64 (minOwn (T.L.take j) x)∧w.grownBy wk none) (fun _ s28 _=>T.L.length-(RowKit.intOf s28).toNat)
  case atStart=>exact⟨0,zl_ _,rfl,by simp[minOwn],Hd1⟩
  case round=>
   obtain⟨j,hj,rfl,rfl,hg⟩:=hrel;clear b1 Hd1
   by_cases hjl:j<T.L.length
   ·obtain⟨g',off,cap,hv,hgl,d0,d1,d2⟩:=(H.out.same hg).own.rd.entr hjl
    cases hv;have HT:=hh_ (show minOwn (T.L.take (j+1)) x=min (minOwn (T.L.take j) x) T.L[j].own by rw[tg_ hjl,Of_]);generalize minOwn (T.L.take j) x=mo at *;generalize T.L[j]=e at *
    go_upto_region 5 with fail
    obtain⟨A1,G1⟩:=nb_ wr #[.string e.key,.int .u64 e.own,.int .u64 e.slack] 224;generalize wr.alloc _=w2 at *;generalize hgb:wr.heap.size=gb at *;have K2:=Aa_ hg G1;have a1:=A1.cell;clear d0 d1 d2 hgl hg
    go_wp2_with fail
    exact⟨⟨j+1,by omega,by go_num,by rw[HT.out],K2⟩,by simp[RowKit.intOf];omega⟩
   ·have hje:T.L.take j=T.L:=tk_ (by omega)
    rw[hje];have hm1:=HM.out;have hmp:=HMp.out
    have hcut:∀(j:Nat) (e:Ent),T.L[j]?=some e→minOwn T.L x≤e.own:=fun j e he=>hm1.2 e (mo_ he)
    have Hcut:=hh_ hcut;generalize minOwn T.L x=d at *;clear HM HMp hcut hje;have R1:=H.out.same hg;have b1:=R1.blk.cell;have f1:=R1.blk.free;have hwr:IntKind.u64.wrap (T.base+d)=T.base+d:=IntWalk.u64_in _ (by omega)
    go_upto_region 8 with fail
    obtain⟨R2,g2⟩:=R1.setBase (T.base+d);clear R1 b1 f1 hwr;have hz:w.heap.size≤(wr.setCell ⟨g,3,none⟩ (.int .u64 (T.base+d))).heap.size:=lt_ hg.size g2.size
    have M2:GrownS (oneF g) w (wr.setCell ⟨g,3,none⟩ (.int .u64 (T.base+d))):=(GrownS.none_ (S:=oneF g) hg).trans (GrownS.of g2 fun q e=>by cases e;exact rfl) fun i hi _=>hi
    clear hg g2;generalize wr.setCell ⟨g,3,none⟩ (.int .u64 (T.base+d))=w2 at *;have HR2:=hh_ R2;have b2:=R2.blk.cell;have hwr:IntKind.u64.wrap (x-d)=x-d:=IntWalk.u64_in _ (by omega);clear R2
    go_upto_region 11 with fail
    clear b2
    have hwo:=fun(j:Nat) (e:Ent) (he:T.L[j]?=some e)=>HD.out.own e (mo_ he)
    have Hwo:=hh_ hwo;clear hwo
    go_loopw [9,53] (fun s9 s53 wk=>∃j:Nat,j≤T.L.length∧s53=.int .i64 j∧Own entF 3 224 w2.heap.size wk s9 (cutE (T.L.take j) d)∧w2.grownBy wk none) (fun _ s53 _=>T.L.length-(RowKit.intOf s53).toNat)
    case atStart=>exact⟨0,zl_ _,rfl,by simpa [cutE] using Own.nil entF 3 _ _ _,Ab_ _ _⟩
    case round=>
     obtain⟨j,hj,rfl,hO,hg⟩:=hrel
     by_cases hjl:j<T.L.length
     ·obtain⟨g',off,cap,hv,hgl,d0,d1,d2⟩:=(HR2.out.same hg).own.rd.entr hjl
      cases hv;obtain⟨o1,⟨o2,o3⟩,o4,o5⟩:=Hwo.out j _ (gq_ hjl);have o6:=Hcut.out j _ (gq_ hjl);have HT:=hh_ (show cutE (T.L.take (j+1)) d=cutE (T.L.take j) d++(if 0<T.L[j].own-d then [⟨T.L[j].key,T.L[j].own-d,T.L[j].slack⟩] else []) by rw[tg_ hjl,T6_]);have hcl:=lt_ (Hc_ (T.L.take j) d) (List.length_take_le _ _);generalize cutE (T.L.take j) d=C at *;generalize T.L[j]=e at *
      go_upto_region 13 with fail
      obtain⟨A1,G1⟩:=nb_ wr #[.string e.key,.int .u64 e.own,.int .u64 e.slack] 224;generalize wr.alloc _=w3 at *;generalize hgb:wr.heap.size=gb at *;have K3:=Aa_ hg G1;have O3:=hO.same G1;have a3:=A1.cell;have f3:=A1.free;have hwr2:IntKind.u64.wrap (e.own-d)=e.own-d:=IntWalk.u64_in _ (by omega);clear d0 d1 d2 hgl
      go_upto_region 14 with fail
      have A4:=A1.set_ 1 (.int .u64 (e.own-d)) (cs':=#[.string e.key,.int .u64 (e.own-d),.int .u64 e.slack]) rfl;have hg4:w3.grownBy (w3.setCell ⟨gb,1,none⟩ (.int .u64 (e.own-d))) (some gb):=Ac_ (Ab_ _ _) _ _;have hgsz:=hg.size;have K4:w2.grownBy (w3.setCell ⟨gb,1,none⟩ (.int .u64 (e.own-d))) none:=Af_ K3 hg4 (by omega);have O4:=O3.kept hg4 (fun q hq e'=>by cases e';have:=(hO.lt _ hq).2;omega);clear a3 f3 hwr2 A1 O3 K3 hO;generalize w3.setCell ⟨gb,1,none⟩ (.int .u64 (e.own-d))=w4 at *;have a4:=A4.cell
      by_cases hp:0<e.own-d
      ·have hT:=HT.out
       rw[if_pos hp] at hT;have HT2:=hh_ hT;clear hT HT;obtain⟨oa,oc,rfl⟩:=O4.shape
       have hb1 :(C.length+1)*32≤140737488355328:=by omega
       have hb2:C.length+1≤9223372036854775807:=by omega
       have hz4:=K4.size
       go_wp2_with (at_builtin;refine A9_ (l:=C) Bp_ Bo_ Az_ O4 ⟨e.key,e.own-d,e.slack⟩ hb1 hb2 hz4 (by rfl) ?_;intro v5 w5 o5 g5 l5)
       refine⟨⟨j+1,by omega,by go_num,by rw[HT2.out];exact o5,Aq_ K4 O4 (le_ _) g5⟩,by simp[RowKit.intOf];omega⟩
      ·have hT:=HT.out
       rw[if_neg hp,List.append_nil] at hT;have HT2:=hh_ hT;clear hT HT
       go_wp2_with fail
       refine⟨⟨j+1,by omega,by go_num,by rw[HT2.out];exact O4,K4⟩,by simp[RowKit.intOf];omega⟩
     ·have hje:T.L.take j=T.L:=tk_ (by omega)
      rw[hje] at hO;obtain⟨oa,oc,rfl⟩:=hO.shape;have Hcl:=hh_ (Hc_ T.L d);generalize cutE T.L d=C at *;have R3:=HR2.out.same hg;have b3:=R3.blk.cell;have f3:=R3.blk.free
      go_upto_region 18 with fail
      have hgl2:g<w2.heap.size:=by omega
      have hnv:¬ownF (.slice oa C.length oc) g:=fun e=>by have:=(hO.lt _ e).1;omega
      obtain⟨R4,g4⟩:=RTab.setL R3.blk hO hnv
      have M4:GrownS (oneF g) w (wr.setCell ⟨g,2,none⟩ (.slice oa C.length oc)):=(M2.trans (GrownS.none_ (S:=oneF g) hg) fun i hi _=>hi).trans (GrownS.of g4 fun q e=>by cases e;exact rfl) fun i hi _=>hi
      have hv0:=fun q (hq :(Value.slice oa C.length oc).ownBlock=some q)=>(hO.lt q hq).1
      have hsz4:w2.heap.size≤(wr.setCell ⟨g,2,none⟩ (.slice oa C.length oc)).heap.size:=lt_ hg.size g4.size;clear b3 f3 R3 hO hg g4 hje HR2 Hwo Hcut;generalize wr.setCell ⟨g,2,none⟩ (.slice oa C.length oc)=w4 at *;have HR4:=hh_ R4;have b4:=R4.blk.cell;have f4:=R4.blk.free
      by_cases hp:0<x-d
      ·have hR:=HR.out
       rw[if_pos hp] at hR;have HRR:=hh_ hR;have hcl:=Hcl.out
       have hb1 :(C.length+1)*32≤140737488355328:=by omega
       have hb2:C.length+1≤9223372036854775807:=by omega
       have hO4:=R4.own;clear hR HR R4
       go_wp2_with (at_builtin;refine A9_ (l:=C) Bp_ Bo_ Az_ hO4 ⟨k,x-d,0⟩ hb1 hb2 (zl_ _) (by rfl) ?_;intro v5 w5 o5 g5 l5;have B5:=HR4.out.blk.kept g5 (fun e=>HR4.out.ne e);have b5:=B5.cell;have f5:=B5.free;obtain⟨a5,c5,hv5⟩:=o5.shape;rw[la_,ls_] at hv5;subst hv5)
       go_end0
       have hn5:=Hf_ l5 HR4.out.ne (by omega);obtain⟨R6,g6⟩:=RTab.setL B5 o5 hn5;refine⟨rfl,_,by rw[HRR.out];exact R6,?_,?_⟩
       ·refine((M4.mono (T:=rtF g (.slice a T.L.length c)) fun i hi _=>.inl hi).trans (GrownS.of (S:=fun i=>ownF (.slice oa C.length oc) i) g5 fun q e=>e) fun i hi hlt=>?_).trans (GrownS.of (S:=oneF g) g6 fun q e=>by cases e;exact rfl) fun i hi _=>.inl hi
        have:=hv0 i hi;omega
       ·intro i hi
        rcases hi with hi|hi
        ·exact .inl (.inl hi)
        ·right
         rcases lies_new l5 i hi with hi|hi
         ·have:=hv0 i hi;omega
         ·omega
      ·have hR:=HR.out
       rw[if_neg hp] at hR;have HRR:=hh_ hR;clear hR HR R4
       go_wp2_with fail
       go_end0
       refine⟨rfl,_,by rw[HRR.out];exact HR4.out,M4.mono fun i hi _=>.inl hi,fun i hi=>?_⟩
       rcases hi with hi|hi
       ·exact .inl (.inl hi)
       ·exact .inr (by have:=hv0 i hi;omega)
 ·have hl2 :((T.L.length:Int)==T.m)=false:=bf_ hl
  have HR:=hh_ (show T.deduct k x={ T with L:=T.L++[⟨k,x,0⟩] } from if_neg hl)
  have hxp:0<x:=by omega
  clear h hl hD
  go_enter func184,ntmps184
  go_upto_region 1 with fail
  go_quiet (fail)
  have Hd1:World.grownBy w (w.drewN nq) none:=Ae_ (Ab_ w none) _;generalize w.drewN nq=w1 at *;have R1:=H.out.same Hd1;have HR1:=hh_ R1;have b1:=R1.blk.cell;have f1:=R1.blk.free;have hO1:=R1.own
  have hb1 :(T.L.length+1)*32≤140737488355328:=by omega
  have hb2:T.L.length+1≤9223372036854775807:=by omega
  have hgl1:g<w1.heap.size:=R1.blk.lt;clear b0 f0 R1
  go_wp2_with (at_builtin;refine A9_ (l:=T.L) Bp_ Bo_ Az_ hO1 ⟨k,x,0⟩ hb1 hb2 (zl_ _) (by rfl) ?_;intro v5 w5 o5 g5 l5;have B5:=HR1.out.blk.kept g5 (fun e=>HR1.out.ne e);have b5:=B5.cell;have f5:=B5.free;obtain⟨a5,c5,hv5⟩:=o5.shape;rw[la_,ls_] at hv5;subst hv5)
  go_end0
  have hn5:=Hf_ l5 HR1.out.ne hgl1;obtain⟨R6,g6⟩:=RTab.setL B5 o5 hn5;have hsz:=Hd1.size;refine⟨rfl,_,by rw[HR.out];exact R6,?_,fun i hi=>?_⟩
  ·exact((GrownS.none_ (S:=rtF g (.slice a T.L.length c)) Hd1).trans (GrownS.of (S:=fun i=>ownF (.slice a T.L.length c) i) g5 fun q e=>e) fun i hi _=>.inr hi).trans (GrownS.of (S:=oneF g) g6 fun q e=>by cases e;exact rfl) fun i hi _=>.inl hi
  ·rcases hi with hi|hi
   ·exact .inl (.inl hi)
   ·rcases lies_new l5 i hi with hi|hi
    ·exact .inl (.inr hi)
    ·exact .inr (by omega)
end
section
open Go.RowKit
theorem Hl_ {w:World} {st e ty:TypeId} {z:Value} {size bytes:Nat} (E:Elt st e z size bytes) {base:Nat} {v:Value} {n:Nat} {xs:List Value} (hown:w.ownsRow base e size v n xs)
  {A:Option Addr} {m c:Nat} {news:List Value} (hr:Rd w size (.slice A m c) m news) (h1:∀u∈news,u.oneCell'=true) (h63:n+m≤maxLen) (hb :(n+m)*bytes≤140737488355328) (hbase:base≤w.heap.size) :
  ∃v' w',(Builtin.append_ #[st,st] ty #[v,.slice A m c]).run prog w=.ok v' w'∧w'.ownsRow base e size v' (n+m) (xs++news)∧w.grownBy w' v.ownBlock ∧
   ((∃g cap cur,v=.slice (some ⟨g,0,none⟩) n cap∧v'=.slice (some ⟨g,0,none⟩) (n+m) cap∧w.heap[g]?=some (.cells cur e (0,0))∧w'.heap[g]?=some (.cells (cur.toList.take (n*size)++news++cur.toList.drop (n*size+news.length)).toArray e (0,0)))∨w.grownBy w' none):=by
 obtain⟨i,hi,hz0,hz1,hz2⟩:=info_parts E.info;obtain⟨v',w',hrun,h2,h3,h4⟩:=Gu_ (ty:=ty) E hown hr h1 h63 hb hbase;refine⟨v',w',hrun,h2,h3,?_⟩
 have key:∀ad:Addr,(∀j u,news[j]?=some u→w.cell? (ad.add j)=some u)→A=some ad→(∃g cap cur,v=.slice (some ⟨g,0,none⟩) n cap∧v'=.slice (some ⟨g,0,none⟩) (n+m) cap∧w.heap[g]?=some (.cells cur e (0,0))∧w'.heap[g]?=some (.cells (cur.toList.take (n*size)++news++cur.toList.drop (n*size+news.length)).toArray e (0,0)))∨w.grownBy w' none:=by
  intro ad hc e;subst e;have hl:=hr.1
  rcases hown.2 with⟨rfl,rfl⟩ |⟨g,cap,cur,rfl,hbg,hg,hnc,hcm,hcs,htake⟩
  ·exact .inr h3
  ·by_cases hroom:n+m≤cap
   ·have hfit:n*i.size+news.length≤cur.size:=by rw[hz1,hl,hcs,←Nat.add_mul];exact Nat.mul_le_mul_right _ hroom
    have hr2:=run_append_room (P:=prog) w st ty e i E.ht hi g n cap cur hg ad m c news (by rw[hz1];exact hl) hc h1 hroom hfit;rw[hr2] at hrun;cases hrun;rw[hz1];exact .inl ⟨g,cap,cur,rfl,rfl,hg,setRow_heap w g cur _ e _ hg⟩
   ·have holds:∀j u,xs[j]?=some u→w.cell? ((⟨g,0,none⟩:Addr).add j)=some u:=hown.cells (g:=g) rfl
    have hr2:=run_append_grow (P:=prog) w st ty e i z E.ht hi hz0 ⟨g,0,none⟩ n cap xs (by rw[hz1];exact hown.1) holds ad m c news (by rw[hz1];exact hl) hc (by omega) (by unfold maxLen at h63;omega) (growslice_fits (by omega) (by rw[hz2];exact hb));rw[hr2] at hrun;cases hrun;exact .inr (Ad_ (Al_ (Ab_ _ _)) _)
 rcases hr.2.2 with⟨rfl,a,cap,hv⟩ |⟨g,off,cap,hv,_,hc⟩
 ·have hn:news=[]:=List.eq_nil_of_length_eq_zero (by simpa using hr.1)
  subst hn
  cases A with
  | none=>
   have hr2:=Ff_ (ty:=ty) E hown c;rw[hr2] at hrun;cases hrun;exact .inr (Ab_ _ _)
  | some ad=>exact key ad (by simp) rfl
 ·cases hv
  refine key _ (fun j u hu=>?_) rfl
  have e :(⟨g,off,none⟩:Addr).add j =⟨g,off+j,none⟩:=by unfold Addr.add;split <;> simp_all
  rw[e];exact hc j u hu
section
variable {α:Type} {f:α→List Value} {st e:TypeId} {z:Value} {size bytes:Nat}
structure Keep (f:α→List Value) (size:Nat) (e:TypeId) (N:Nat) (P:List α→Prop) (w w':World):Prop where
 grown:GrownS (fun i=>N≤i) w w'
 own:∀T v,P T→Own f size e N w v T→Own f size e N w' v T
variable {N:Nat} {P:List α→Prop} {w w' w'':World}
theorem Keep.refl (f:α→List Value) (size:Nat) (e:TypeId) (N:Nat) (P:List α→Prop) (w:World):Keep f size e N P w w:=⟨GrownS.refl _ _,fun _ _ _ h=>h⟩
theorem Keep.trans (h:Keep f size e N P w w') (k:Keep f size e N P w' w''):Keep f size e N P w w'':=⟨h.grown.trans k.grown (fun _ hi _=>hi),fun T v hp ho=>k.own T v hp (h.own T v hp ho)⟩
theorem Keep.of (h:w.grownBy w' none):Keep f size e N P w w':=⟨GrownS.none_ h,fun _ _ _ ho=>ho.same h⟩
theorem Keep.rd {β:Type} {g:β→List Value} {s:Nat} {v:Value} {l:List β} (h:Keep f size e N P w w') (hr:RdL g s w v l) (hv:0<l.length→∀a n c,v=.slice (some a) n c→a.block<N):RdL g s w' v l:=
 hr.keptS h.grown fun h0 a n c e h1=>by have:=hv h0 a n c e;omega
theorem Keep.blk {g:Nat} (h:Keep f size e N P w w') (hb:Blk w g cs) (hg:g<N):Blk w' g cs:=hb.keptS h.grown (by omega)
theorem Fy_ {v v':Value} {l l2 T:List α} (hf:∀x,(f x).length=size) (hpos:0<size) (ho:Own f size e N w v l) (ho':Own f size e N w' v' (l++l2)) (hg:w.grownBy w' v.ownBlock)
  (hc :(∃g cap cur,v=.slice (some ⟨g,0,none⟩) l.length cap∧v'=.slice (some ⟨g,0,none⟩) (l.length+l2.length) cap∧w.heap[g]?=some (.cells cur e (0,0))∧w'.heap[g]?=some (.cells (cur.toList.take (l.length*size)++cellsOf f l2++cur.toList.drop (l.length*size+(cellsOf f l2).length)).toArray e (0,0)))∨w.grownBy w' none)
  (hT:T.length≤l.length∨T <+: l++l2∨l++l2 <+: T)
  {u:Value} (hu:Own f size e N w u T):Own f size e N w' u T:=by
 rcases hc with⟨g,cap,cur,rfl,rfl,hc1,hc2⟩|hc
 ·by_cases hub:u.ownBlock=some g
  ·rcases hu.2 with⟨rfl,h0⟩ |⟨g',cap',cur',rfl,hb',hg',hn',hm',hs',ht'⟩
   ·simp[Value.ownBlock] at hub
   ·have e1:g'=g:=by simpa [Value.ownBlock] using hub
    subst e1;rw[hc1] at hg';cases hg'
    rcases ho.2 with⟨h0,_⟩ |⟨g1,cap1,cur1,e1,_,hg1,hn1,_,hs1,ht1⟩
    ·cases h0
    ·cases e1
     rw[hc1] at hg1;cases hg1
     rcases ho'.2 with⟨h0,_⟩ |⟨g2,cap2,cur2,e2,_,hg2,hn2,hm2,hs2,ht2⟩
     ·cases h0
     ·obtain⟨e3,_,e4⟩:=Value.slice.inj e2
      cases e3;subst e4;rw[hc2] at hg2;cases hg2;have hl2 :(cellsOf f l2).length=l2.length*size:=As_ f size hf l2
      have hroom:l.length*size+l2.length*size≤cap*size:=by
       rw[←Nat.add_mul,←la_];exact Nat.mul_le_mul_right _ hn2
      have hcc:cap'=cap:=Nat.eq_of_mul_eq_mul_right hpos (by rw[←hs',hs1]);subst hcc;refine⟨hu.1,.inr ⟨g',cap',_,rfl,hb',hc2,hn',hm',hs2,?_⟩⟩
      rcases hT with h |⟨r,hr⟩ |⟨r,hr⟩
      ·have hle:T.length*size≤l.length*size:=Nat.mul_le_mul_right _ h
       have e9:cur.toList.length=cur.size:=Array.length_toList (xs:=cur)
       have hA:l.length*size≤cur.toList.length:=by omega
       show List.take _ (cur.toList.take _++_++_)=_
       rw[List.append_assoc,List.take_append_of_le_length (by rw[lk_];omega),List.take_take,Nat.min_eq_left hle];exact ht'
      ·have hlen :(cellsOf f T).length=T.length*size:=As_ f size hf T
       have hle:T.length*size≤(cellsOf f l++cellsOf f l2).length:=by
        rw[←Ar_,←hr,Ar_,la_,hlen];omega
       show List.take _ (cur.toList.take _++_++_)=_
       rw[ht1,List.take_append_of_le_length hle,←Ar_,←hr,Ar_,←hlen,List.take_left]
      ·have h1:cur.toList.take (l.length*size+(cellsOf f l2).length)=cellsOf f l++cellsOf f l2:=by
        have hle:l.length*size+(cellsOf f l2).length≤T.length*size:=by
         rw[hl2,←Nat.add_mul,←hr,la_,la_];exact Nat.mul_le_mul_right _ (by omega)
        have :(cur.toList.take (T.length*size)).take (l.length*size+(cellsOf f l2).length)=cellsOf f l++cellsOf f l2:=by
         rw[ht',←hr,Ar_,Ar_]
         have e5:l.length*size+(cellsOf f l2).length =(cellsOf f l++cellsOf f l2).length:=by rw[la_,As_ f size hf l]
         rw[e5,List.take_left]
        rwa [List.take_take,Nat.min_eq_left hle] at this
       show List.take _ (cur.toList.take _++_++_)=_
       rw[ht1,←h1,List.take_append_drop];exact ht'
  ·exact hu.kept hg (fun k hk e=>hub (by rw[hk];simpa [Value.ownBlock] using e.symm))
 ·exact hu.same hc
section
variable {v:Value} {l l2:List α} {A:Option Addr} {m c:Nat}
variable {o:Oper} {a:Act} {ops:Array Oper} {rest:List Oper} {Q:Exit→Act→World→Prop}
theorem Bh_ (E:Elt st e z size bytes) (h1:OneF f) (hf:∀x,(f x).length=size) (hown:Own f size e N w v l) (hr:RdL f size w (.slice A m c) l2) (hm:m=l2.length) (hb :(l.length+l2.length)*bytes≤140737488355328) (h63:l.length+l2.length≤9223372036854775807) (hbase:N≤w.heap.size)
  (hP:∀T,P T→T.length≤l.length∨T <+: l++l2∨l++l2 <+: T)
  {s x:Operand} (h:∀v' w',Own f size e N w' v' (l++l2)→Keep f size e N P w w'→wpList prog ops Q rest (a.put o.dst v') w') (hgd:o.guard=none:=by rfl) (ho:o.op=.call { callee:=.builtin .append,args:=#[s,x],argTypes:=#[st,st] }:=by rfl) (hs:a.eval s=v:=by rfl) (hx:a.eval x=.slice A m c:=by rfl):wpList prog ops Q (o::rest) a w:=by
 refine wpList_plain hgd fun _ hK=>?_
 subst hm;obtain⟨v',w',hrun,h2,h3,h4⟩:=Hl_ (ty:=o.type) E hown hr (h1.cells l2) (by unfold maxLen;exact h63) hb hbase
 have h2':Own f size e N w' v' (l++l2):=by unfold Own;rw[Ar_,la_];exact h2
 unfold Oper.wp execOp;simp only[ho,resolve,invoke,builtin,Sem.run_bind,Sem.run_pure,Result.andThen_ok,List.map_toArray,List.map_cons,List.map_nil,hs,hx,hrun];exact hK _ _ (h v' w' h2' ⟨GrownS.of h3 (fun k hk=>(hown.lt k hk).1),fun T u hp hu=>Fy_ hf E.pos hown h2' h3 h4 (hP T hp) hu⟩)
end
theorem Cb_ (hf:∀x,(f x).length=size) (w0:World) (hN:N≤w0.heap.size) (y:α) (cs:Array Value) (hcs:cs.toList=f y):Own f size e N (w0.alloc (.cells cs e)) (.slice (some ⟨w0.heap.size,0,none⟩) 1 1) [y]:=by
 have hl:cs.size=size:=by rw[←Array.length_toList,hcs,hf]
 refine⟨by simp[cellsOf,hf],.inr ⟨w0.heap.size,1,cs,rfl,hN,heap_alloc_new w0 _,le_ _,by unfold maxLen;omega,by omega,?_⟩⟩;rw[hcs];simp only[cellsOf,List.flatMap_cons,List.flatMap_nil,List.append_nil,lc_,List.length_nil,Nat.zero_add,Nat.one_mul];rw[←hf y,List.take_length]
end
end
section
open Go.RowKit Go.Sort
theorem W1_ (L:List Ent) (e:Ent):minE (L++[e])=match minE L with|none=>some e|some x=>if e.cnt<x.cnt then some e else some x:=by
 induction L with
 | nil=>rfl
 | cons a L ih=>
  rw[List.cons_append];simp only[minE];rw[ih]
  cases hm:minE L with
  | none=>rfl
  | some x=>
   dsimp only
   by_cases h1:e.cnt<x.cnt
   ·rw[if_pos h1]
    by_cases h2:x.cnt<a.cnt
    ·rw[if_pos h2];dsimp only;rw[if_pos (by omega),if_pos h1]
    ·rw[if_neg h2]
   ·rw[if_neg h1]
    by_cases h2:x.cnt<a.cnt
    ·rw[if_pos h2];dsimp only;rw[if_neg h1,if_pos h2]
    ·simp only[if_neg h2];rw[if_neg (by omega)]
theorem Bm_ (k:ByteArray):k.toList.isEmpty=decide (k.size=0):=by
 rw[ByteArray.toList_eq,Bool.eq_iff_iff,List.isEmpty_iff,decide_eq_true_eq,←List.length_eq_zero_iff]
 rfl
theorem X3_ {L:List Ent} (h :(keysE L).Nodup) {i:Nat} (hi:i<L.length):delE L L[i].key=L.eraseIdx i:=by
 induction L generalizing i with
 | nil=>simp at hi
 | cons a L ih=>
  have hn:=List.nodup_cons.1 (by simpa [keysE] using h :(a.key::keysE L).Nodup);unfold delE
  cases i with
  | zero=>rw[List.eraseP_cons_of_pos (by simp[hasK])];rfl
  | succ i=>
   have hi':i<L.length:=by simpa using hi
   have hne:a.key≠L[i].key:=fun e=>hn.1 (e▸B3_ (mg_ hi'))
   simp only[List.getElem_cons_succ,List.eraseIdx_cons_succ];rw[List.eraseP_cons_of_neg (by simpa [hasK] using hne)]
   have:=ih hn.2 hi'
   unfold delE at this;rw[this]
def RAdd (g:Nat) (v:Value) (T:TabM) (k:ByteArray) (x:Int) (w:World) (e:Ending) (w':World):Prop:=
 e=.returned (.int .i64 (addErr T.sum k x))∧∃v',RTab w' g v' (if addErr T.sum k x=0 then T.add k x else T)∧Mov (rtF g v) (rtF g v') w w'
theorem bz_ (g:Nat) (v:Value) (T:TabM) (k:ByteArray) (x:Int) (w:World) (h:RTab w g v T) (hT:W64 T.sum) (hx:W64 x) (he:addErr T.sum k x≠0):Calls prog 159 #[.pointer (some ⟨g,0,none⟩),.string k,.int .u64 x] w (RAdd g v T k x w):=by
 have H:=hh_ h
 have HF:=hh_ fun y=>Dz_ T.sum x y hT hx
 have b0:=h.blk.cell
 have R:∀w' e,e=addErr T.sum k x→w.grownBy w' none→RAdd g v T k x w (.returned (.int .i64 e)) w':=fun w' e he' hg=>⟨by rw[he'],v,by rw[if_neg he];exact H.out.same hg,Mov.same hg⟩
 clear h;unfold addErr at R he
 by_cases hk:k.size=0
 ·rw[if_pos hk] at R
  have hk2:=Bm_ k;rw[dt_ hk] at hk2
  go_enter func159,ntmps159
  go_wp2_with fail
  go_ret
  exact R _ _ rfl (Ab_ _ _)
 ·rw[if_neg hk] at R he
  have hk2:=Bm_ k;rw[df_ hk] at hk2
  by_cases h0:x=0
  ·rw[if_pos h0] at R
   subst h0
   go_enter func159,ntmps159
   go_wp2_with fail
   go_ret
   exact R _ _ rfl (Ab_ _ _)
  ·rw[if_neg h0] at R he
   have h02 :(x==0)=false:=bf_ h0
   have hm:mostW<T.sum+x:=Decidable.byContradiction fun h=>he (if_neg h)
   rw[if_pos hm] at R;have hF:fitsB T.sum x=false:=df_ (by unfold mostW at hm;omega);rw[hF] at HF
   go_enter func159,ntmps159
   go_wp2_with (go_at_call 118;refine(HF.out _).mono ?_;rintro e w1 ⟨rfl,rfl⟩)
   go_ret
   exact R _ _ rfl (Ab_ _ _)
structure N6_ (T:TabM) (k:ByteArray) (x:Int):Prop where
 key:0<k.size∧k.size≤255
 x1:1≤x
 sum:T.sum+x≤mostW
theorem N6_.err {T:TabM} {x:Int} (h:N6_ T k x):addErr T.sum k x=0:=by
 have:=h.key;have:=h.x1;have:=h.sum
 unfold addErr;rw[if_neg (by omega),if_neg (by omega),if_neg (by omega)]
theorem ih_ {T:TabM} {x:Int} (he:addErr T.sum k x=0) (hk:k.size≤255) (hx:0≤x):N6_ T k x:=by
 unfold addErr at he
 split at he
 ·omega
 ·split at he
  ·omega
  ·split at he
   ·omega
   ·exact⟨by omega,by omega,by omega⟩
theorem Yg_ (g:Nat) (v:Value) (T:TabM) (k:ByteArray) (x:Int) (w:World) (h:RTab w g v T) (hT:B5_ T) (hA:N6_ T k x) (en:Ent) (hg:getE T.L k=some en):Calls prog 159 #[.pointer (some ⟨g,0,none⟩),.string k,.int .u64 x] w (RAdd g v T k x w):=by
 have H:=hh_ h;obtain⟨q1,q2,q3⟩:=hT.w64;obtain⟨hem,rfl⟩:=Aw_ hg;obtain⟨⟨e1,e2⟩,⟨e3,e4⟩,e5,e6⟩:=q3 en hem;have hxs:=hA.sum;have hx1:=hA.x1;have hmw:mostW=9223372036854775808:=rfl;have hb:=hT.base;have hW:W64 x:=⟨by omega,by omega⟩
 have HF:=hh_ fun y=>Dz_ T.sum x y q2 hW
 rw[show fitsB T.sum x=true from dt_ (by omega)] at HF;have hk2:=Bm_ en.key;rw[df_ (show ¬en.key.size=0 by have:=hA.key;omega)] at hk2;have h02 :(x==0)=false:=bf_ (by omega);obtain⟨i1,hil,hie,hdel⟩:=Db_ hg;have hlen:=hT.len;have hmm:=hT.m
 have HP:=hh_ fun y (R:RTab y g v { T with sum:=T.sum+x })=>Ck_ v T.L en.key y R.own.rd
 rw[i1] at HP
 have HC:=hh_ fun y (R:RTab y g v { T with sum:=T.sum+x })=>Pv_ hg (w:=y) (v:=v) R.own.rd
 have HW:=hh_ fun y (R:Own entF 3 224 0 y v T.L)=>Ee_ 0 v T.L (plN T.L en.key) y R hil (by omega)
 rw[←hdel] at HW;have HR:=hh_ (show(if addErr T.sum en.key x=0 then T.add en.key x else T)={ T with sum:=T.sum+x,L:=delE T.L en.key++[⟨en.key,en.own+x,en.slack⟩] } by rw[if_pos hA.err,Ht_ hg]);have HE:=hh_ hA.err;have hdl:=B1_ hg;generalize plN T.L en.key=I at *;generalize delE T.L en.key=L1 at *;have b0:=h.blk.cell;have f0:=h.blk.free;obtain⟨a,c,hv⟩:=h.own.shape;subst hv;have hgl:=h.blk.lt;have hvl:=h.own.low;have hne:=h.ne;have hwr:IntKind.u64.wrap (T.sum+x)=T.sum+x:=IntWalk.u64_in _ (by omega);clear h hT hA hg i1 hie hdel hem q3 q1 q2
 go_enter func159,ntmps159
 go_upto_region 8 with(go_at_call 118;refine(HF.out _).mono ?_;rintro e w1 ⟨rfl,rfl⟩)
 obtain⟨R1,g1⟩:=H.out.setSum (T.sum+x);clear b0 f0 hwr HF;generalize w.setCell ⟨g,4,none⟩ (.int .u64 (T.sum+x))=w1 at *;have HR1:=hh_ R1;have b1:=R1.blk.cell;clear R1
 go_upto_region 9 with(go_at_call 182;refine(HP.out _ HR1.out).mono ?_;rintro e w2 ⟨rfl,g2⟩)
 have R2:=HR1.out.same g2;have HR2:=hh_ R2;have b2:=R2.blk.cell;obtain⟨g',off,cap,hv,hgl',d0,d1,d2⟩:=HC.out _ R2;cases hv;clear b1 R2 HR1
 go_upto_region 11 with fail
 obtain⟨A3,G3⟩:=nb_ w2 #[.string en.key,.int .u64 en.own,.int .u64 en.slack] 224;generalize w2.alloc _=w3 at *;generalize hgc:w2.heap.size=gc at *;have a3:=A3.cell;have f3:=A3.free;have hwr:IntKind.u64.wrap (en.own+x)=en.own+x:=IntWalk.u64_in _ (by omega);clear d0 d1 d2 b2
 go_upto_region 12 with fail
 have A4:=A3.set_ 1 (.int .u64 (en.own+x)) (cs':=#[.string en.key,.int .u64 (en.own+x),.int .u64 en.slack]) rfl;have g4:w3.grownBy (w3.setCell ⟨gc,1,none⟩ (.int .u64 (en.own+x))) (some gc):=Ac_ (Ab_ _ _) _ _;have k4:w2.grownBy (w3.setCell ⟨gc,1,none⟩ (.int .u64 (en.own+x))) none:=Af_ G3 g4 (Nat.le_of_eq hgc);clear a3 f3 hwr A3 G3 g4;generalize w3.setCell ⟨gc,1,none⟩ (.int .u64 (en.own+x))=w4 at *;have k5:w2.grownBy w4.drew none:=Al_ k4;have HB:=hh_ (HR2.out.same k5).blk;have HO:=hh_ (HR2.out.same k5).own;have HX:=hh_ A4.drew1;have hcN:gc<w4.drew.heap.size:=A4.drew1.lt;have hgN:g<w4.drew.heap.size:=HB.out.lt;obtain⟨N,hN⟩:∃N,N=w4.drew.heap.size:=⟨_,rfl⟩;have HN2:=hh_ (Nat.le_of_eq hN);rw[←hN] at hcN hgN
 have hvN:∀i,ownF (.slice (some ⟨g',off,none⟩) T.L.length c) i→i<N:=by rw[hN];exact HO.out.low
 obtain⟨P,hP⟩:∃P:List Ent→Prop,P=fun T=>T=L1∨T=[⟨en.key,en.own+x,en.slack⟩]∨T=L1++[⟨en.key,en.own+x,en.slack⟩]:=⟨_,rfl⟩;have HP1:=hh_ (show P L1 by rw[hP];exact .inl rfl);have HPx:=hh_ (show P [⟨en.key,en.own+x,en.slack⟩] by rw[hP];exact .inr (.inl rfl));have HPF:=hh_ (show P (L1++[⟨en.key,en.own+x,en.slack⟩]) by rw[hP];exact .inr (.inr rfl))
 have HP2:=hh_ (show ∀T,P T→T.length≤L1.length∨T <+: L1++[⟨en.key,en.own+x,en.slack⟩]∨L1++[⟨en.key,en.own+x,en.slack⟩] <+: T by
  intro T hT;rw[hP] at hT
  rcases hT with rfl|rfl|rfl
  ·exact .inl (le_ _)
  ·cases L1 with
   | nil=>exact .inr (.inl (List.prefix_refl _))
   | cons _ _=>exact .inl (by simp)
  ·exact .inr (.inl (List.prefix_refl _)))
 have hb4 :(L1.length+[(⟨en.key,en.own+x,en.slack⟩:Ent)].length)*32≤140737488355328:=by simp;omega
 have hb5:L1.length+[(⟨en.key,en.own+x,en.slack⟩:Ent)].length≤9223372036854775807:=by simp;omega
 have HW2:=hh_ fun y (m:Keep entF 3 224 N P w4.drew y)=>HW.out y (HO.out.keptS m.grown fun q hq hge=>by have:=hvN q hq;omega)
 clear HW hP;have HW:=HW2;clear HW2;have Hk:=hh_ k5;have Hne:=hh_ hne;have Hvl:=hh_ hvl;have Hg1:=hh_ g1
 have hN0:w.heap.size≤N:=by have:=g1.size;have:=g2.size;have:=k5.size;omega
 clear HP HC k4 k5 A4 hne hvl g1 HR2 H hN hdl
 (refine Rg.wp_region_rgZ 12 #[] (Keep entF 3 224 N P) (fun k _ w v w'=>match k with | 6=>Own entF 3 224 N w' v L1∧World.grownBy w w' none | _=>False) (by kernel_rfl) (by kernel_rfl) (Keep.refl _ _ _ _ _) (fun _ _ _ h k=>h.trans k) (fun _ _ _ _ _ h=>h) ?_;simp only[List.take,List.drop])
 generalize w4.drew=wd at *
 (refine tq_ 4 ?_;(repeat(go_big_quiet_step (fail)));refine wn_ ?_)
 (refine to_ ?_;intro y4 my4 dy4)
 clear dy4;have ax:=(my4.blk HB.out hgN).cell
 go_wp2_with fail
 refine⟨Keep.refl _ _ _ _ _ _,?_⟩;clear ax
 (refine tq_ 1 ?_;(repeat(go_big_quiet_step (fail)));refine wn_ ?_)
 (refine tc_ ?_;intro y6 my6 dy6;refine⟨?_,?_⟩;· (unfold Rg.callSpec;go_simp;(refine(HW.out y6 my6).mono ?_;rintro e w' ⟨v',rfl,o',g'⟩;exact⟨_,rfl,o'.base (fun q hq=>lt_ (lt_ HN2.out my6.grown.size) (o'.lt q hq).1),g'⟩)))
 clear dy6;rintro v7 e7 ⟨o7,g7⟩;refine⟨Keep.of g7,?_⟩;simp only[pt_];clear g7 my6
 (refine to_ ?_;intro y7 my7 dy7)
 clear dy7;have ax:=(my7.blk HX.out hcN).cell
 go_wp2_with fail
 refine⟨Keep.refl _ _ _ _ _ _,?_⟩;clear ax
 (refine to_ ?_;intro y8 my8 dy8)
 clear dy8;have z8:=lt_ HN2.out my8.grown.size
 go_wp2_with fail
 refine⟨Keep.of (ga_ _ _ _),?_⟩;have N8:Own entF 3 224 N (y8.alloc (.cells #[.string en.key,.int .u64 (en.own+x),.int .u64 en.slack] 224)) (.slice (some ⟨y8.heap.size,0,none⟩) 1 1) [⟨en.key,(en.own+x),en.slack⟩]:=Cb_ Az_ y8 z8 ⟨en.key,(en.own+x),en.slack⟩ _ rfl;generalize y8.alloc _=e8 at *;generalize y8.heap.size=g8 at *
 (refine to_ ?_;intro y9 my9 dy9)
 have N9:=(dy9.out 6 (by omega) (by kernel_rfl)).own _ _ HP1.out o7;have R9:=((dy9.out 8 (by omega) (by kernel_rfl)).own _ _ HPx.out N8).rd;have z9:=lt_ HN2.out my9.grown.size;clear dy9
 go_wp2_with (at_builtin;refine Bh_ Bp_ Bo_ Az_ N9 R9 rfl hb4 hb5 z9 HP2.out ?_;intro v9 e9 o9 k9;have Hk9:=hh_ k9;clear k9)
 refine⟨Hk9.out,?_⟩;clear N9 R9 z9 N8 z8 my8 my9 o7
 (refine tq_ 2 ?_;(repeat(go_big_quiet_step (fail)));refine wn_ ?_)
 (refine Rg.tree_nil ?_;intro z mz dz cz)
 have OZ:=(dz.out 9 (by omega)).own _ _ HPF.out o9;have BZ:=mz.blk HB.out hgN;have GZ:=mz.grown;clear dz cz o9 Hk9 mz;have bz:=BZ.cell;have fz:=BZ.free;obtain⟨az,cz2,hvz⟩:=OZ.shape;rw[la_,ls_] at hvz;subst hvz
 go_wp2_with fail
 go_ret
 have hnz:¬ownF (.slice az (L1.length+1) cz2) g:=fun e=>by have:=(OZ.lt _ e).1;omega
 obtain⟨R6,g6⟩:=RTab.setL BZ OZ hnz;refine⟨by rw[HE.out];rfl,_,by rw[HR.out];exact R6,?_,fun i hi=>?_⟩
 ·have M1:GrownS (rtF g (.slice (some ⟨g',off,none⟩) T.L.length c)) w w1:=GrownS.of Hg1.out fun q e=>by cases e;exact .inl rfl
  have M2:GrownS (rtF g (.slice (some ⟨g',off,none⟩) T.L.length c)) w1 wd:=GrownS.none_ (Aa_ g2 Hk.out)
  exact((M1.trans M2 fun i hi _=>hi).trans GZ fun i hi hlt=>absurd hi (by omega)).trans (GrownS.of (S:=oneF g) g6 fun q e=>by cases e;exact rfl) fun i hi _=>.inl hi
 ·rcases hi with hi|hi
  ·exact .inl (.inl hi)
  ·exact .inr (lt_ hN0 (OZ.lt i hi).1)
end
section
open Go.RowKit
section
variable {α:Type} {f:α→List Value} {st e:TypeId} {z:Value} {size bytes:Nat}
structure KeepR (f:α→List Value) (size:Nat) (e:TypeId) (N:Nat) (P:List α→Prop) (r:Option Nat) (w w':World):Prop where
 grown:w.grownBy w' r
 own:∀T v,P T→Own f size e N w v T→Own f size e N w' v T
variable {N:Nat} {P:List α→Prop} {r:Option Nat} {w w' w'':World}
theorem KeepR.refl (f:α→List Value) (size:Nat) (e:TypeId) (N:Nat) (P:List α→Prop) (r:Option Nat) (w:World):KeepR f size e N P r w w:=⟨Ab_ _ _,fun _ _ _ h=>h⟩
theorem KeepR.trans (h:KeepR f size e N P r w w') (k:KeepR f size e N P r w' w''):KeepR f size e N P r w w'':=⟨Aa_ h.grown k.grown,fun T v hp ho=>k.own T v hp (h.own T v hp ho)⟩
theorem KeepR.of (h:w.grownBy w' none):KeepR f size e N P r w w':=⟨Ak_ h r,fun _ _ _ ho=>ho.same h⟩
theorem KeepR.blk {g:Nat} (h:KeepR f size e N P r w w') (hb:Blk w g cs) (hg:r≠some g):Blk w' g cs:=hb.kept h.grown hg
end
theorem Fs_ {a b:World} {r:Option Nat} (h:a.grownBy b none):a.grownBy b r:=by
 cases r with
 | none=>exact h
 | some k=>exact Ak_ h _
section
variable {α:Type} {f:α→List Value} {st e:TypeId} {z:Value} {size bytes N:Nat} {P:List α→Prop} {w:World}
variable {v:Value} {l l2:List α} {A:Option Addr} {m c:Nat}
variable {o:Oper} {a:Act} {ops:Array Oper} {rest:List Oper} {Q:Exit→Act→World→Prop}
theorem Iv_ (E:Elt st e z size bytes) (h1:OneF f) (hf:∀x,(f x).length=size) (hown:Own f size e N w v l) (hr:RdL f size w (.slice A m c) l2) (hm:m=l2.length) (hb :(l.length+l2.length)*bytes≤140737488355328) (h63:l.length+l2.length≤9223372036854775807) (hbase:N≤w.heap.size)
  (hP:∀T,P T→T.length≤l.length∨T <+: l++l2∨l++l2 <+: T)
  (hgd:o.guard=none) (s x:Operand) (ho:o.op=.call { callee:=.builtin .append,args:=#[s,x],argTypes:=#[st,st] }) (hs:a.eval s=v) (hx:a.eval x=.slice A m c)
  (h:∀v' w',Own f size e N w' v' (l++l2)→KeepR f size e N P v.ownBlock w w'→Lies v v' w.heap.size→wpList prog ops Q rest (a.put o.dst v') w'):wpList prog ops Q (o::rest) a w:=by
 refine wpList_plain hgd fun _ hK=>?_
 subst hm;obtain⟨v',w',hrun,h2,h3,h4⟩:=Hl_ (ty:=o.type) E hown hr (h1.cells l2) (by unfold maxLen;exact h63) hb hbase
 have h2':Own f size e N w' v' (l++l2):=by unfold Own;rw[Ar_,la_];exact h2
 obtain⟨v3,w3,hrun3,_,_,h5⟩:=Gu_ (ty:=o.type) E hown hr (h1.cells l2) (by unfold maxLen;exact h63) hb hbase;rw[hrun] at hrun3;cases hrun3;unfold Oper.wp execOp;simp only[ho,resolve,invoke,builtin,Sem.run_bind,Sem.run_pure,Result.andThen_ok,List.map_toArray,List.map_cons,List.map_nil,hs,hx,hrun];exact hK _ _ (h v' w' h2' ⟨h3,fun T u hp hu=>Fy_ hf E.pos hown h2' h3 h4 (hP T hp) hu⟩ h5)
end
end
section
open Go.RowKit Go.Sort
theorem er_ {T:TabM} {x:Int} (hg:getE T.L k=none) (hm:T.mode=2):T.add k x={ T with sum:=T.sum+x }.deduct k x:=by
 by_cases hl :(T.L.length:Int)=T.m
 ·rw[H4_ hg hm hl];unfold TabM.deduct;dsimp only;rw[if_pos hl]
 ·rw[Et_ hg hl,if_pos hm];unfold TabM.deduct;dsimp only;rw[if_neg hl]
theorem bu_ (g:Nat) (v:Value) (T:TabM) (k:ByteArray) (x:Int) (w:World) (h:RTab w g v T) (hT:B5_ T) (hA:N6_ T k x) (hg:getE T.L k=none) (hm:T.mode=2):Calls prog 159 #[.pointer (some ⟨g,0,none⟩),.string k,.int .u64 x] w (RAdd g v T k x w):=by
 have H:=hh_ h;obtain⟨q1,q2,q3⟩:=hT.w64;have hxs:=hA.sum;have hx1:=hA.x1;have hmw:mostW=9223372036854775808:=rfl;have hb:=hT.base;have hW:W64 x:=⟨by omega,by omega⟩
 have HF:=hh_ fun y=>Dz_ T.sum x y q2 hW
 rw[show fitsB T.sum x=true from dt_ (by omega)] at HF;have hk2:=Bm_ k;rw[df_ (show ¬k.size=0 by have:=hA.key;omega)] at hk2;have h02 :(x==0)=false:=bf_ (by omega);have hm2 :(T.mode==2)=true:=beq_iff_eq.2 hm;have hlen:=hT.len;have hmm:=hT.m
 have HP:=hh_ fun y (R:RTab y g v { T with sum:=T.sum+x })=>Ck_ v T.L k y R.own.rd
 rw[Hp_ hg] at HP;have hD:Ded { T with sum:=T.sum+x } x:=⟨fun e he=>⟨hT.ents.own e he,(q3 e he).1,(q3 e he).2.1⟩,by show T.L.length≤64;omega,q1,⟨hb.1,by omega,by show T.base+x≤_;omega⟩,hmm⟩
 have HDD:=hh_ fun y (R:RTab y g v { T with sum:=T.sum+x })=>Ul_ g v { T with sum:=T.sum+x } k x y R hD hx1
 have HR:=hh_ (show(if addErr T.sum k x=0 then T.add k x else T)={ T with sum:=T.sum+x }.deduct k x by rw[if_pos hA.err,er_ hg hm]);have HE:=hh_ hA.err;have b0:=h.blk.cell;have f0:=h.blk.free;obtain⟨a,c,hv⟩:=h.own.shape;subst hv;have hgl:=h.blk.lt;have hwr:IntKind.u64.wrap (T.sum+x)=T.sum+x:=IntWalk.u64_in _ (by omega);clear h hT hA hg q3 q1 q2 hD hm
 go_enter func159,ntmps159
 go_upto_region 8 with(go_at_call 118;refine(HF.out _).mono ?_;rintro e w1 ⟨rfl,rfl⟩)
 obtain⟨R1,g1⟩:=H.out.setSum (T.sum+x);clear b0 f0 hwr HF;generalize w.setCell ⟨g,4,none⟩ (.int .u64 (T.sum+x))=w1 at *;have HR1:=hh_ R1;have b1:=R1.blk.cell;clear R1
 go_upto_region 9 with(go_at_call 182;refine(HP.out _ HR1.out).mono ?_;rintro e w2 ⟨rfl,g2⟩)
 have R2:=HR1.out.same g2;have b2:=R2.blk.cell;have HR2:=hh_ R2;clear R2 b1
 go_wp2_with (go_at_call 184;refine(HDD.out _ HR2.out).mono ?_;rintro e w3 ⟨rfl,v3,R3,M3⟩)
 go_ret
 refine⟨by rw[HE.out];rfl,v3,by rw[HR.out];exact R3,?_⟩;have M1:Mov (rtF g (.slice a T.L.length c)) (rtF g (.slice a T.L.length c)) w w1:=⟨GrownS.of g1 fun q e=>by cases e;exact .inl rfl,fun i hi=>.inl hi⟩;exact(M1.trans (Mov.same g2)).trans M3
theorem Vq_ (g:Nat) (v:Value) (T:TabM) (k:ByteArray) (x:Int) (w:World) (h:RTab w g v T) (hT:B5_ T) (hA:N6_ T k x) (hg:getE T.L k=none) (hm:T.mode≠2) (hl :(T.L.length:Int)≠T.m):Calls prog 159 #[.pointer (some ⟨g,0,none⟩),.string k,.int .u64 x] w (RAdd g v T k x w):=by
 have H:=hh_ h;obtain⟨q1,q2,q3⟩:=hT.w64;have hxs:=hA.sum;have hx1:=hA.x1;have hmw:mostW=9223372036854775808:=rfl;have hb:=hT.base;have hW:W64 x:=⟨by omega,by omega⟩
 have HF:=hh_ fun y=>Dz_ T.sum x y q2 hW
 rw[show fitsB T.sum x=true from dt_ (by omega)] at HF;have hk2:=Bm_ k;rw[df_ (show ¬k.size=0 by have:=hA.key;omega)] at hk2;have h02 :(x==0)=false:=bf_ (by omega);have hm2 :(T.mode==2)=false:=bf_ hm;have hl2 :((T.L.length:Int)==T.m)=false:=bf_ hl;have hlen:=hT.len;have hmm:=hT.m
 have HP:=hh_ fun y (R:RTab y g v { T with sum:=T.sum+x })=>Ck_ v T.L k y R.own.rd
 rw[Hp_ hg] at HP;have HR:=hh_ (show(if addErr T.sum k x=0 then T.add k x else T)={ T with sum:=T.sum+x,L:=T.L++[⟨k,x,T.base⟩] } by rw[if_pos hA.err,Et_ hg hl,if_neg hm]);have HE:=hh_ hA.err;have b0:=h.blk.cell;have f0:=h.blk.free;obtain⟨a,c,hv⟩:=h.own.shape;subst hv;have hgl:=h.blk.lt;have hwr:IntKind.u64.wrap (T.sum+x)=T.sum+x:=IntWalk.u64_in _ (by omega);clear h hT hA hg q3 q1 q2 hm hl
 go_enter func159,ntmps159
 go_upto_region 8 with(go_at_call 118;refine(HF.out _).mono ?_;rintro e w1 ⟨rfl,rfl⟩)
 obtain⟨R1,g1⟩:=H.out.setSum (T.sum+x);clear b0 f0 hwr HF;generalize w.setCell ⟨g,4,none⟩ (.int .u64 (T.sum+x))=w1 at *;have HR1:=hh_ R1;have b1:=R1.blk.cell;clear R1
 go_upto_region 9 with(go_at_call 182;refine(HP.out _ HR1.out).mono ?_;rintro e w2 ⟨rfl,g2⟩)
 have R2:=HR1.out.same g2;have b2:=R2.blk.cell;clear b1
 go_upto_region 17 with fail
 go_quiet (fail)
 have k3:w2.grownBy (w2.drewN nq) none:=Ae_ (Ab_ w2 none) _;have R3:=R2.same k3;clear R2 b2;generalize w2.drewN nq=w3 at *
 go_upto_region 27 with fail
 have k5:w3.grownBy w3.drew none:=Al_ (Ab_ w3 none);have R5:=R3.same k5;have HB:=hh_ R5.blk;have HO:=hh_ R5.own;have Hne:=hh_ R5.ne;obtain⟨rr,hrr⟩:∃rr,(Value.slice a T.L.length c).ownBlock=rr:=⟨_,rfl⟩;have Hrr:=hh_ hrr;have Hrg:=hh_ (show rr≠some g by rw[←hrr];exact R5.ne);have Hlw:=hh_ R5.own.low;obtain⟨P,hP⟩:∃P:List Ent→Prop,P=fun S=>S=T.L∨S=[⟨k,x,T.base⟩]∨S=T.L++[⟨k,x,T.base⟩]:=⟨_,rfl⟩;have HP1:=hh_ (show P T.L by rw[hP];exact .inl rfl);have HPx:=hh_ (show P [⟨k,x,T.base⟩] by rw[hP];exact .inr (.inl rfl));have HPF:=hh_ (show P (T.L++[⟨k,x,T.base⟩]) by rw[hP];exact .inr (.inr rfl))
 have HP2:=hh_ (show ∀S,P S→S.length≤T.L.length∨S <+: T.L++[⟨k,x,T.base⟩]∨T.L++[⟨k,x,T.base⟩] <+: S by
  intro S hS;rw[hP] at hS
  rcases hS with rfl|rfl|rfl
  ·exact .inl (le_ _)
  ·cases T.L with
   | nil=>exact .inr (.inl (List.prefix_refl _))
   | cons _ _=>exact .inl (by simp)
  ·exact .inr (.inl (List.prefix_refl _)))
 have hb4 :(T.L.length+[(⟨k,x,T.base⟩:Ent)].length)*32≤140737488355328:=by simp;omega
 have hb5:T.L.length+[(⟨k,x,T.base⟩:Ent)].length≤9223372036854775807:=by simp;omega
 have Hz:=hh_ (show w.heap.size≤w3.drew.heap.size by have:=g1.size;have:=g2.size;have:=k3.size;have:=k5.size;omega);have Hk:=hh_ (Aa_ (Aa_ g2 k3) k5);have Hg1:=hh_ g1;clear hP hrr R5 R3 k3 k5 HR1 H HP g1 g2
 (refine Rg.wp_region_rgZ 16 #[] (KeepR entF 3 224 0 P rr) (fun _ _ _ _ _=>False) (by kernel_rfl) (by kernel_rfl) (KeepR.refl _ _ _ _ _ _) (fun _ _ _ h k=>h.trans k) (fun _ _ _ _ _ h=>h) ?_;simp only[List.take,List.drop])
 generalize w3.drew=wd at *
 (refine tq_ 4 ?_;(repeat(go_big_quiet_step (fail)));refine wn_ ?_)
 (refine to_ ?_;intro y4 my4 dy4)
 clear dy4;have ax:=(my4.blk HB.out Hrg.out).cell
 go_wp2_with fail
 refine⟨KeepR.refl _ _ _ _ _ _ _,?_⟩;clear ax my4
 (refine tq_ 5 ?_;(repeat(go_big_quiet_step (fail)));refine wn_ ?_)
 (refine to_ ?_;intro y10 my10 dy10)
 clear dy10;have ax:=(my10.blk HB.out Hrg.out).cell
 go_wp2_with fail
 refine⟨KeepR.refl _ _ _ _ _ _ _,?_⟩;clear ax my10
 (refine tq_ 1 ?_;(repeat(go_big_quiet_step (fail)));refine wn_ ?_)
 (refine to_ ?_;intro y12 my12 dy12)
 clear dy12
 go_wp2_with fail
 refine⟨KeepR.of (ga_ _ _ _),?_⟩;have N8:Own entF 3 224 0 (y12.alloc (.cells #[.string k,.int .u64 x,.int .u64 T.base] 224)) (.slice (some ⟨y12.heap.size,0,none⟩) 1 1) [⟨k,x,T.base⟩]:=Cb_ Az_ y12 (zl_ _) ⟨k,x,T.base⟩ _ rfl;generalize y12.alloc _=e8 at *;generalize y12.heap.size=g8 at *
 (refine to_ ?_;intro y13 my13 dy13)
 have N9:=my13.own _ _ HP1.out HO.out;have R9:=((dy13.out 12 (by omega) (by kernel_rfl)).own _ _ HPx.out N8).rd;clear dy13
 go_wp2_with (at_builtin;refine Iv_ (P:=P) Bp_ Bo_ Az_ N9 R9 rfl hb4 hb5 (zl_ _) HP2.out (by rfl) _ _ (by rfl) (by rfl) (by rfl) ?_;intro v9 e9 o9 k9 l9;have Hk9:=hh_ k9;clear k9;have Hl9:=hh_ (And.intro l9 my13.grown.size);clear l9)
 rw[Hrr.out] at Hk9;refine⟨Hk9.out,?_⟩;clear N9 R9 N8 my12 my13
 (refine tq_ 2 ?_;(repeat(go_big_quiet_step (fail)));refine wn_ ?_)
 (refine Rg.tree_nil ?_;intro z mz dz cz)
 have OZ:=(dz.out 13 (by omega)).own _ _ HPF.out o9;have BZ:=mz.blk HB.out Hrg.out;have GZ:=mz.grown;clear dz cz o9 Hk9 mz;have bz:=BZ.cell;have fz:=BZ.free;obtain⟨az,cz2,hvz⟩:=OZ.shape;rw[la_,ls_] at hvz;subst hvz
 go_wp2_with fail
 go_ret
 have hnz:=Hf_ Hl9.out.1 Hne.out (ll_ HB.out.lt Hl9.out.2);obtain⟨R6,g6⟩:=RTab.setL BZ OZ hnz;refine⟨by rw[HE.out];rfl,_,by rw[HR.out];exact R6,?_,fun i hi=>?_⟩
 ·have M1:GrownS (rtF g (.slice a T.L.length c)) w w1:=GrownS.of Hg1.out fun q e=>by cases e;exact .inl rfl
  have M2:GrownS (rtF g (.slice a T.L.length c)) w1 wd:=GrownS.none_ Hk.out
  have M3:GrownS (rtF g (.slice a T.L.length c)) wd z:=GrownS.of GZ fun q e=>.inr (Hrr.out.trans e)
  exact((M1.trans M2 fun i hi _=>hi).trans M3 fun i hi _=>hi).trans (GrownS.of (S:=oneF g) g6 fun q e=>by cases e;exact rfl) fun i hi _=>.inl hi
 ·rcases hi with hi|hi
  ·exact .inl (.inl hi)
  ·rcases lies_new Hl9.out.1 i hi with hi|hi
   ·exact .inl (.inr hi)
   ·exact .inr (lt_ Hz.out (lt_ Hl9.out.2 hi))
def Lu_ (L:List Ent) (j m:Nat):Prop:=(j=0∧m=0)∨(0<j∧m<j∧∃e,L[m]?=some e∧minE (L.take j)=some e)
theorem Lu_.step {L:List Ent} {j m:Nat} (h:Lu_ L j m) (hj:j<L.length) (hm:m<L.length):Lu_ L (j+1) (if L[j].cnt<L[m].cnt then j else m):=by
 right
 have hs:=W1_ (L.take j) L[j];rw[←tg_ hj] at hs
 rcases h with⟨rfl,rfl⟩ |⟨h0,h1,e,h2,h3⟩
 ·rw[if_neg (by omega)]
  exact⟨by omega,by omega,L[0],gq_ hj,by rw[hs];rfl⟩
 ·rw[h3] at hs
  dsimp only at hs;rw[gq_ hm] at h2;have h2:=Option.some.inj h2;rw[←h2] at hs
  by_cases hlt:L[j].cnt<L[m].cnt
  ·rw[if_pos hlt] at hs ⊢
   exact⟨by omega,by omega,L[j],gq_ hj,hs⟩
  ·rw[if_neg hlt] at hs ⊢
   exact⟨by omega,by omega,L[m],gq_ hm,hs⟩
theorem bl_ (g:Nat) (v:Value) (T:TabM) (k:ByteArray) (x:Int) (w:World) (h:RTab w g v T) (hT:B5_ T) (hA:N6_ T k x) (hg:getE T.L k=none) (hm:T.mode≠2) (hl :(T.L.length:Int)=T.m):Calls prog 159 #[.pointer (some ⟨g,0,none⟩),.string k,.int .u64 x] w (RAdd g v T k x w):=by
 have H:=hh_ h;obtain⟨q1,q2,q3⟩:=hT.w64;have hxs:=hA.sum;have hx1:=hA.x1;have hmw:mostW=9223372036854775808:=rfl;have hb:=hT.base;have hW:W64 x:=⟨by omega,by omega⟩
 have HF:=hh_ fun y=>Dz_ T.sum x y q2 hW
 rw[show fitsB T.sum x=true from dt_ (by omega)] at HF;have hk2:=Bm_ k;rw[df_ (show ¬k.size=0 by have:=hA.key;omega)] at hk2;have h02 :(x==0)=false:=bf_ (by omega);have hm2 :(T.mode==2)=false:=bf_ hm;have hl2 :((T.L.length:Int)==T.m)=true:=beq_iff_eq.2 hl;have hlen:=hT.len;have hmm:=hT.m
 have HP:=hh_ fun y (R:RTab y g v { T with sum:=T.sum+x })=>Ck_ v T.L k y R.own.rd
 rw[Hp_ hg] at HP
 obtain⟨xe,hxe⟩:∃xe,minE T.L=some xe:=by
  cases hx:minE T.L with
  | none=>rw[Ii_.1 hx] at hl;simp at hl;omega
  | some xe=>exact⟨xe,rfl⟩
 have hxm:=Fv_ hxe;obtain⟨⟨x1,x2⟩,⟨x3,x4⟩,x5,x6⟩:=q3 xe hxm;have HR:=hh_ (show(if addErr T.sum k x=0 then T.add k x else T)={ T with sum:=T.sum+x,base:=xe.cnt,L:=delE T.L xe.key++[⟨k,x,xe.cnt⟩] } by rw[if_pos hA.err,It_ hg hm hl hxe]);have HE:=hh_ hA.err
 have HD:=hh_ fun(m:Nat) (hm:m<T.L.length) (he:T.L[m]?=some xe)=>(show delE T.L xe.key=T.L.eraseIdx m by
  rw[gq_ hm] at he
  rw[←Option.some.inj he];exact X3_ hT.ents.nodup hm)
 have HQ:=hh_ q3;have HX:=hh_ hxe;have HL:=hh_ hl;have b0:=h.blk.cell;have f0:=h.blk.free;obtain⟨a,c,hv⟩:=h.own.shape;subst hv;have hgl:=h.blk.lt;have hwr:IntKind.u64.wrap (T.sum+x)=T.sum+x:=IntWalk.u64_in _ (by omega)
 have HW:=hh_ fun y m (R:Own entF 3 224 0 y (.slice a T.L.length c) T.L) (hi:m<T.L.length)=>Ee_ 0 (.slice a T.L.length c) T.L m y R hi (by omega)
 clear h hT hA hg q3 q1 q2 hm hl hxe hxm
 go_enter func159,ntmps159
 go_upto_region 8 with(go_at_call 118;refine(HF.out _).mono ?_;rintro e w1 ⟨rfl,rfl⟩)
 obtain⟨R1,g1⟩:=H.out.setSum (T.sum+x);clear b0 f0 hwr HF;generalize w.setCell ⟨g,4,none⟩ (.int .u64 (T.sum+x))=w1 at *;have HR1:=hh_ R1;have b1:=R1.blk.cell;clear R1
 go_upto_region 9 with(go_at_call 182;refine(HP.out _ HR1.out).mono ?_;rintro e w2 ⟨rfl,g2⟩)
 have R2:=HR1.out.same g2;have b2:=R2.blk.cell;clear b1
 go_upto_region 17 with fail
 go_quiet (fail)
 have k3:w2.grownBy (w2.drewN nq) none:=Ae_ (Ab_ w2 none) _;have R3:=R2.same k3;have k3:=Aa_ g2 k3;clear R2 b2 g2;generalize w2.drewN nq=w3 at *;have HR3:=hh_ R3;have b3:=R3.blk.cell;clear R3 HP
 go_upto_region 20 with fail
 clear b3
 go_loopw [9,87] (fun s9 s87 wk=>∃j m:Nat,j≤T.L.length∧m<T.L.length∧s87=.int .i64 j∧s9=.int .i64 m∧Lu_ T.L j m∧w3.grownBy wk none) (fun _ s87 _=>T.L.length-(RowKit.intOf s87).toNat)
 case atStart=>exact⟨0,0,zl_ _,by have:=HL.out;omega,rfl,rfl,.inl ⟨rfl,rfl⟩,Ab_ _ _⟩
 case round=>
  obtain⟨j,m,hj,hm,rfl,rfl,hLe,hgk⟩:=hrel;have R4:=HR3.out.same hgk
  by_cases hjl:j<T.L.length
  ·obtain⟨g',off,cap,hv,hgl',d0,d1,d2⟩:=R4.own.rd.entr hjl
   cases hv;have hst:=hh_ (hLe.step hjl hm);have hqj:=HQ.out _ (mg_ hjl);have hqm:=HQ.out _ (mg_ hm)
   have HM:=hh_ fun y (q:w3.grownBy y none)=>(HR3.out.same q).own.rd.entr hm
   have HR4:=hh_ R4;unfold Ent.cnt at hst;unfold W64 at hqj hqm;generalize T.L[j]=ej at *;generalize T.L[m]=em at *;clear hLe R4
   go_upto_region 22 with fail
   obtain⟨A5,G5⟩:=nb_ wr #[.string ej.key,.int .u64 ej.own,.int .u64 ej.slack] 224;generalize wr.alloc _=w5 at *;generalize hgc:wr.heap.size=gc at *;have K5:=Aa_ hgk G5;have R5:=HR3.out.same K5;have b5:=R5.blk.cell;have a5:=A5.cell;obtain⟨g2,off2,cap2,hv,hgl2,m0,m1,m2⟩:=HM.out _ K5;cases hv;clear d0 d1 d2 m0 R5 HR4 HM;have hw1:IntKind.u64.wrap (ej.own+ej.slack)=ej.own+ej.slack:=IntWalk.u64_in _ (by omega);have hw2:IntKind.u64.wrap (em.own+em.slack)=em.own+em.slack:=IntWalk.u64_in _ (by omega)
   have hm0 :(m:Int)<(T.L.length:Int):=by omega
   have hm1 :(0:Int)≤(m:Int):=by omega
   by_cases hlt:ej.own+ej.slack<em.own+em.slack
   ·have hs:=hst.out
    rw[if_pos hlt] at hs;have Hs:=hh_ hs;have hltd:decide (ej.own+ej.slack<em.own+em.slack)=true:=dt_ hlt;clear hs hst hlt
    go_quiet (fail)
    go_wp2_with fail
    exact⟨⟨j+1,j,by omega,hjl,by go_num,rfl,Hs.out,Ae_ K5 _⟩,by simp[RowKit.intOf];omega⟩
   ·have hs:=hst.out
    rw[if_neg hlt] at hs;have Hs:=hh_ hs;have hltd:decide (ej.own+ej.slack<em.own+em.slack)=false:=df_ hlt;clear hs hst hlt
    go_quiet (fail)
    go_wp2_with fail
    exact⟨⟨j+1,m,by omega,hm,by go_num,rfl,Hs.out,Ae_ K5 _⟩,by simp[RowKit.intOf];omega⟩
  ·have hje:T.L.take j=T.L:=tk_ (by omega)
   have hme:T.L[m]?=some xe:=by
    rcases hLe with⟨h0,_⟩ |⟨_,_,e,h1,h2⟩
    ·have:=HL.out;omega
    ·rw[hje,HX.out] at h2;cases h2;exact h1
   have hdel:=HD.out m hm hme;obtain⟨g',off,cap,hv,hgl',d0,d1,d2⟩:=R4.own.rd.entr hm;cases hv;rw[gq_ hm] at hme;have hme:=Option.some.inj hme;rw[hme] at d0 d1 d2
   have hdl :(delE T.L xe.key).length+1=T.L.length:=by rw[hdel,List.length_eraseIdx,if_pos hm];omega
   have Hdl:=hh_ hdl
   have HW2:=hh_ fun y R=>HW.out y m R hm
   rw[←hdel] at HW2;clear hdel hje hLe hme HD HX HQ HW hdl;generalize delE T.L xe.key=L1 at *;have b4:=R4.blk.cell;have f4:=R4.blk.free;have hw1:IntKind.u64.wrap (xe.own+xe.slack)=xe.own+xe.slack:=IntWalk.u64_in _ (by omega)
   have hm0 :(m:Int)<(T.L.length:Int):=by omega
   have hm1 :(0:Int)≤(m:Int):=by omega
   go_upto_region 25 with fail
   (refine Tail.wp_region_tail_drawn 20 (by kernel_rfl) (by kernel_rfl) ?_;simp only[List.take,List.drop];(repeat(go_big_quiet_step (fail)));refine wn_ ?_;rintro _ ⟨nq,rfl⟩)
   have k5:wr.grownBy (wr.drewN nq) none:=Ae_ (Ab_ wr none) _;have R5:=R4.same k5;have k5:=Aa_ hgk k5;clear b4 f4 R4 d0 d1 d2 hgk;generalize wr.drewN nq=w5 at *;have f5:=R5.blk.free;have b5:=R5.blk.cell
   go_upto_region 26 with fail
   obtain⟨R6,g6⟩:=R5.setBase (xe.own+xe.slack);have k6:=k5.size
   have M6:Mov (rtF g (.slice (some ⟨g',off,none⟩) T.L.length c)) (rtF g (.slice (some ⟨g',off,none⟩) T.L.length c)) w (w5.setCell ⟨g,3,none⟩ (.int .u64 (xe.own+xe.slack))):=by
    have M1:GrownS (rtF g (.slice (some ⟨g',off,none⟩) T.L.length c)) w w1:=GrownS.of g1 fun q e=>by cases e;exact .inl rfl
    have M2:GrownS (rtF g (.slice (some ⟨g',off,none⟩) T.L.length c)) w1 w5:=GrownS.none_ (Aa_ k3 k5);exact⟨(M1.trans M2 fun i hi _=>hi).trans (GrownS.of (S:=oneF g) g6 fun q e=>by cases e;exact rfl) fun i hi _=>.inl hi,fun i hi=>.inl hi⟩
   clear R5 f5 b5 g6 k5 k3 g1 HR3 HR1 H;generalize w5.setCell ⟨g,3,none⟩ (.int .u64 (xe.own+xe.slack))=w6 at *;have HR6:=hh_ R6;have b6:=R6.blk.cell;clear R6 k6
   go_upto_region 27 with(go_at_call 183;refine(HW2.out _ HR6.out.own).mono ?_;rintro e w7 ⟨v7,rfl,o7,g7⟩;have R7:=HR6.out.same g7;have b7:=R7.blk.cell;have f7:=R7.blk.free;obtain⟨a7,c7,rfl⟩:=o7.shape)
   have hn7:¬ownF (.slice a7 L1.length c7) g:=fun e=>by have:=(o7.lt _ e).1;have:=HR6.out.blk.lt;omega
   have hv7:=fun q (hq :(Value.slice a7 L1.length c7).ownBlock=some q)=>(o7.lt q hq).1
   obtain⟨R8,g8⟩:=RTab.setL R7.blk o7 hn7
   have M8:Mov (rtF g (.slice (some ⟨g',off,none⟩) T.L.length c)) (rtF g (.slice a7 L1.length c7)) w (w7.setCell ⟨g,2,none⟩ (.slice a7 L1.length c7)):=by
    refine⟨(M6.grown.trans (GrownS.none_ (S:=rtF g (.slice (some ⟨g',off,none⟩) T.L.length c)) g7) fun i hi _=>hi).trans (GrownS.of (S:=oneF g) g8 fun q e=>by cases e;exact rfl) fun i hi _=>.inl hi,fun i hi=>?_⟩
    rcases hi with hi|hi
    ·exact .inl (.inl hi)
    ·exact .inr (lt_ M6.size (hv7 i hi))
   clear b6 b7 f7 R7 HR6 o7 g7 g8 hn7 hv7 M6;generalize w7.setCell ⟨g,2,none⟩ (.slice a7 L1.length c7)=w8 at *;have k9:w8.grownBy w8.drew none:=Al_ (Ab_ w8 none);have R9:=R8.same k9;have HB:=hh_ R9.blk;have HO:=hh_ R9.own;have Hne:=hh_ R9.ne;obtain⟨rr,hrr⟩:∃rr,(Value.slice a7 L1.length c7).ownBlock=rr:=⟨_,rfl⟩;have Hrr:=hh_ hrr;have Hrg:=hh_ (show rr≠some g by rw[←hrr];exact R9.ne);obtain⟨P,hP⟩:∃P:List Ent→Prop,P=fun S=>S=L1∨S=[⟨k,x,xe.own+xe.slack⟩]∨S=L1++[⟨k,x,xe.own+xe.slack⟩]:=⟨_,rfl⟩;have HP1:=hh_ (show P L1 by rw[hP];exact .inl rfl);have HPx:=hh_ (show P [⟨k,x,xe.own+xe.slack⟩] by rw[hP];exact .inr (.inl rfl));have HPF:=hh_ (show P (L1++[⟨k,x,xe.own+xe.slack⟩]) by rw[hP];exact .inr (.inr rfl))
   have HP2:=hh_ (show ∀S,P S→S.length≤L1.length∨S <+: L1++[⟨k,x,xe.own+xe.slack⟩]∨L1++[⟨k,x,xe.own+xe.slack⟩] <+: S by
    intro S hS;rw[hP] at hS
    rcases hS with rfl|rfl|rfl
    ·exact .inl (le_ _)
    ·cases L1 with
     | nil=>exact .inr (.inl (List.prefix_refl _))
     | cons _ _=>exact .inl (by simp)
    ·exact .inr (.inl (List.prefix_refl _)))
   have hdl:=Hdl.out
   have hb4 :(L1.length+[(⟨k,x,xe.own+xe.slack⟩:Ent)].length)*32≤140737488355328:=by simp;omega
   have hb5:L1.length+[(⟨k,x,xe.own+xe.slack⟩:Ent)].length≤9223372036854775807:=by simp;omega
   have HM8:=hh_ (M8.trans (Mov.same k9));clear hP hrr R9 R8 k9 M8 hdl Hdl HL hm0 hm1
   (refine Rg.wp_region_rgZ 16 #[] (KeepR entF 3 224 0 P rr) (fun _ _ _ _ _=>False) (by kernel_rfl) (by kernel_rfl) (KeepR.refl _ _ _ _ _ _) (fun _ _ _ h k=>h.trans k) (fun _ _ _ _ _ h=>h) ?_;simp only[List.take,List.drop])
   generalize w8.drew=wd at *
   (refine tq_ 4 ?_;(repeat(go_big_quiet_step (fail)));refine wn_ ?_)
   (refine to_ ?_;intro y4 my4 dy4)
   clear dy4;have ax:=(my4.blk HB.out Hrg.out).cell
   go_wp2_with fail
   refine⟨KeepR.refl _ _ _ _ _ _ _,?_⟩;clear ax my4
   (refine tq_ 5 ?_;(repeat(go_big_quiet_step (fail)));refine wn_ ?_)
   (refine to_ ?_;intro y10 my10 dy10)
   clear dy10;have ax:=(my10.blk HB.out Hrg.out).cell
   go_wp2_with fail
   refine⟨KeepR.refl _ _ _ _ _ _ _,?_⟩;clear ax my10
   (refine tq_ 1 ?_;(repeat(go_big_quiet_step (fail)));refine wn_ ?_)
   (refine to_ ?_;intro y12 my12 dy12)
   clear dy12
   go_wp2_with fail
   refine⟨KeepR.of (ga_ _ _ _),?_⟩;have N8:Own entF 3 224 0 (y12.alloc (.cells #[.string k,.int .u64 x,.int .u64 (xe.own+xe.slack)] 224)) (.slice (some ⟨y12.heap.size,0,none⟩) 1 1) [⟨k,x,(xe.own+xe.slack)⟩]:=Cb_ Az_ y12 (zl_ _) ⟨k,x,(xe.own+xe.slack)⟩ _ rfl;generalize y12.alloc _=e8 at *;generalize y12.heap.size=g8 at *
   (refine to_ ?_;intro y13 my13 dy13)
   have N9:=my13.own _ _ HP1.out HO.out;have R9:=((dy13.out 12 (by omega) (by kernel_rfl)).own _ _ HPx.out N8).rd;clear dy13
   go_wp2_with (at_builtin;refine Iv_ (P:=P) Bp_ Bo_ Az_ N9 R9 rfl hb4 hb5 (zl_ _) HP2.out (by rfl) _ _ (by rfl) (by rfl) (by rfl) ?_;intro v9 e9 o9 k9 l9;have Hk9:=hh_ k9;clear k9;have Hl9:=hh_ (And.intro l9 my13.grown.size);clear l9)
   rw[Hrr.out] at Hk9;refine⟨Hk9.out,?_⟩;clear N9 R9 N8 my12 my13
   (refine tq_ 2 ?_;(repeat(go_big_quiet_step (fail)));refine wn_ ?_)
   (refine Rg.tree_nil ?_;intro z mz dz cz)
   have OZ:=(dz.out 13 (by omega)).own _ _ HPF.out o9;have BZ:=mz.blk HB.out Hrg.out;have GZ:=mz.grown;clear dz cz o9 Hk9 mz;have bz:=BZ.cell;have fz:=BZ.free;obtain⟨az,cz2,hvz⟩:=OZ.shape;rw[la_,ls_] at hvz;subst hvz
   go_wp2_with fail
   go_ret
   have hnz:=Hf_ Hl9.out.1 Hne.out (ll_ HB.out.lt Hl9.out.2);obtain⟨R6,g6⟩:=RTab.setL BZ OZ hnz;refine⟨by rw[HE.out];rfl,_,by rw[HR.out];exact R6,HM8.out.trans ⟨?_,fun i hi=>?_⟩⟩
   ·have M3:GrownS (rtF g (.slice a7 L1.length c7)) wd z:=GrownS.of GZ fun q e=>.inr (Hrr.out.trans e)
    exact M3.trans (GrownS.of (S:=oneF g) g6 fun q e=>by cases e;exact rfl) fun i hi _=>.inl hi
   ·rcases hi with hi|hi
    ·exact .inl (.inl hi)
    ·rcases lies_new Hl9.out.1 i hi with hi|hi
     ·exact .inl (.inr hi)
     ·exact .inr (lt_ Hl9.out.2 hi)
theorem fs_ (g:Nat) (v:Value) (T:TabM) (k:ByteArray) (x:Int) (w:World) (h:RTab w g v T) (hT:B5_ T) (hk:k.size≤255) (hx:W64 x):Calls prog 159 #[.pointer (some ⟨g,0,none⟩),.string k,.int .u64 x] w (RAdd g v T k x w):=by
 by_cases he:addErr T.sum k x=0
 ·have hA:=ih_ he hk hx.1
  cases hg:getE T.L k with
  | some en=>exact Yg_ g v T k x w h hT hA en hg
  | none=>
   by_cases hm:T.mode=2
   ·exact bu_ g v T k x w h hT hA hg hm
   ·by_cases hl :(T.L.length:Int)=T.m
    ·exact bl_ g v T k x w h hT hA hg hm hl
    ·exact Vq_ g v T k x w h hT hA hg hm hl
 ·exact bz_ g v T k x w h hT.w64.2.1 hx he
theorem fy_ (mode m:Int) (w:World) (hm:mode=1∨mode=2) (h1:1≤m∧m≤64):Calls prog 153 #[.int .i64 mode,.int .i64 m] w (fun e w'=>∃g,e=.returned (.tuple #[.pointer (some ⟨g,0,none⟩),.int .i64 0])∧RTab w' g (.slice none 0 0) ⟨mode,m,[],0,0⟩∧w.heap.size≤g∧w.grownBy w' none):=by
 obtain⟨m1,m2⟩:=h1
 have fin:∀t,∃g,Ending.returned (.tuple #[.pointer (some ⟨w.heap.size,0,none⟩),.int .i64 0])=.returned (.tuple #[.pointer (some ⟨g,0,none⟩),.int .i64 0])∧RTab (w.alloc (.cells (rtA ⟨mode,m,[],0,0⟩ (.slice none 0 0)) t)) g (.slice none 0 0) ⟨mode,m,[],0,0⟩∧w.heap.size≤g∧w.grownBy (w.alloc (.cells (rtA ⟨mode,m,[],0,0⟩ (.slice none 0 0)) t)) none:=fun t=>
  ⟨_,rfl,⟨Blk.new w _ t,Own.nil _ _ _ _ _,Ax_ _⟩,le_ _,ga_ _ _ _⟩
 rcases hm with rfl|rfl
 ·go_enter func153,ntmps153
  go_wp2_with fail
  go_ret2
  exact fin _
 ·go_enter func153,ntmps153
  go_wp2_with fail
  go_ret2
  exact fin _
theorem dk_ (g:Nat) (v:Value) (T:TabM) (k:ByteArray) (en:Ent) (w:World) (h:RTab w g v T) (hlen:T.L.length≤64) (hg:getE T.L k=some en):Calls prog 162 #[.pointer (some ⟨g,0,none⟩),.string k] w (fun e w'=>e=.returned (optV (some (T.fix en)))∧∃v',RTab w' g v' (T.take k)∧Mov (rtF g v) (rtF g v') w w'):=by
 have H:=hh_ h;obtain⟨i1,hil,hie,hdel⟩:=Db_ hg
 have HG:=hh_ fun y (q:w.grownBy y none)=>Fp_ g v T k _ y (h.same q) (Wa_ hg)
 have HP0:=hh_ fun y (R:Own entF 3 224 0 y v T.L)=>Ck_ v T.L k y R.rd
 rw[i1] at HP0
 have HW0:=hh_ fun y (R:Own entF 3 224 0 y v T.L)=>Ee_ 0 v T.L (plN T.L k) y R hil (by omega)
 rw[←hdel] at HW0;have HR:=hh_ (show T.take k={ T with L:=delE T.L k } from rfl);generalize plN T.L k=I0 at *;generalize hI :(I0:Int)=I at *;generalize delE T.L k=L1 at *;obtain⟨a,c,hv⟩:=h.own.shape;subst hv;have hgl:=h.blk.lt;have fk:=Cn_ T en;have fo:=Cp_ T en;generalize T.fix en=fe at *;clear h hg i1 hie hdel fk fo
 go_enter func162,ntmps162
 go_upto_region 1 with fail
 obtain⟨A1,G1⟩:=nb_ w #[.string ⟨#[]⟩,.int .u64 0,.int .u64 0] 224;generalize w.alloc _=w1 at *;generalize hgb:w.heap.size=gb at *
 go_upto_region 2 with(go_at_call 160;refine(HG.out _ G1).mono ?_;rintro e w2 ⟨rfl,g2⟩)
 have K2:=Aa_ G1 g2;have A2:=A1.same g2;obtain⟨A3,G3⟩:=nb_ w2 #[.string fe.key,.int .u64 fe.own,.int .u64 fe.slack] 224;generalize w2.alloc _=w3 at *;generalize hgc:w2.heap.size=gc at *;have K3:=Aa_ K2 G3;have A4:=A2.same G3
 go_upto_region 3 with fail
 have k5:w.grownBy w3.drew none:=Al_ K3;have R5:=H.out.same k5;have HB:=hh_ R5.blk;have HO:=hh_ R5.own;have A5:=A3.drew1;have A6:=A4.drew1;have hcN:gc<w3.drew.heap.size:=A5.lt;have hgN:g<w3.drew.heap.size:=HB.out.lt;have hbN:gb<w3.drew.heap.size:=A6.lt;obtain⟨N,hN⟩:∃N,N=w3.drew.heap.size:=⟨_,rfl⟩;have HN2:=hh_ (Nat.le_of_eq hN);rw[←hN] at hcN hgN hbN
 have hvN:∀i,ownF (.slice a T.L.length c) i→i<N:=by rw[hN];exact HO.out.low
 have HX:=hh_ A5;have HY:=hh_ A6;obtain⟨P,hP⟩:∃P:List Ent→Prop,P=fun S=>S=L1:=⟨_,rfl⟩;have HPF:=hh_ (show P L1 by rw[hP])
 have HP:=hh_ fun y (m:Keep entF 3 224 N P w3.drew y)=>HP0.out y (HO.out.keptS m.grown fun q hq hge=>by have:=hvN q hq;omega)
 have HW:=hh_ fun y (m:Keep entF 3 224 N P w3.drew y)=>HW0.out y (HO.out.keptS m.grown fun q hq hge=>by have:=hvN q hq;omega)
 have Hk:=hh_ k5;have hz5:=k5.size
 have hN0:w.heap.size≤N:=by omega
 have HI:=hh_ hI;have Hgc:=hh_ hgc
 have hbc:gb<gc:=by have:=A2.lt;omega
 have hb0:w.heap.size≤gb:=by omega
 clear HP0 HW0 hN k5 A5 A6 A1 A2 A3 A4 R5 G1 G3 K2 K3 HG g2 hP hI hz5 hgc
 (refine Rg.wp_region_rgZ 14 #[] (Keep entF 3 224 N P) (fun k _ w v w'=>match k with | 10=>v=.int .i64 I∧World.grownBy w w' none | 11=>Own entF 3 224 N w' v L1∧World.grownBy w w' none | _=>False) (by kernel_rfl) (by kernel_rfl) (Keep.refl _ _ _ _ _) (fun _ _ _ h k=>h.trans k) (fun _ _ _ _ _ h=>h) ?_;simp only[List.take,List.drop])
 generalize w3.drew=wd at *
 (refine tq_ 4 ?_;(repeat(go_big_quiet_step (fail)));refine wn_ ?_)
 (refine to_ ?_;intro y4 my4 dy4)
 clear dy4;have ax:=(my4.blk HB.out hgN).cell
 go_wp2_with fail
 refine⟨Keep.refl _ _ _ _ _ _,?_⟩;clear ax my4
 (refine tq_ 3 ?_;(repeat(go_big_quiet_step (fail)));refine wn_ ?_)
 (refine to_ ?_;intro y8 my8 dy8)
 clear dy8;have ax:=(my8.blk HB.out hgN).cell
 go_wp2_with fail
 refine⟨Keep.refl _ _ _ _ _ _,?_⟩;clear ax my8
 (refine tq_ 1 ?_;(repeat(go_big_quiet_step (fail)));refine wn_ ?_)
 (refine tc_ ?_;intro y10 my10 dy10;refine⟨?_,?_⟩;· (unfold Rg.callSpec;go_simp;(refine(HP.out y10 my10).mono ?_;rintro e w' ⟨rfl,g'⟩;exact⟨_,rfl,rfl,g'⟩)))
 clear dy10;rintro v10 e10 ⟨rfl,g10⟩;refine⟨Keep.of g10,?_⟩;simp only[pt_];clear g10 my10
 (refine tc_ ?_;intro y11 my11 dy11;refine⟨?_,?_⟩;· (unfold Rg.callSpec;go_simp;(refine(HW.out y11 my11).mono ?_;rintro e w' ⟨v',rfl,o',g'⟩;exact⟨_,rfl,o'.base (fun q hq=>lt_ (lt_ HN2.out my11.grown.size) (o'.lt q hq).1),g'⟩)))
 clear dy11;rintro v11 e11 ⟨o11,g11⟩;refine⟨Keep.of g11,?_⟩;simp only[pt_];clear g11 my11
 (refine tq_ 2 ?_;(repeat(go_big_quiet_step (fail)));refine wn_ ?_)
 (refine Rg.tree_nil ?_;intro z mz dz cz)
 have OZ:=(dz.out 11 (by omega)).own _ _ HPF.out o11;have BZ:=mz.blk HB.out hgN;have XZ:=mz.blk HX.out hcN;have YZ:=mz.blk HY.out hbN;have GZ:=mz.grown;clear dz cz o11 mz;have bz:=BZ.cell;have fz:=BZ.free;obtain⟨az,cz2,hvz⟩:=OZ.shape;subst hvz
 go_upto_region 4 with fail
 have hnz:¬ownF (.slice az L1.length cz2) g:=fun e=>by have:=(OZ.lt _ e).1;omega
 obtain⟨R6,g6⟩:=RTab.setL BZ OZ hnz;have X6:=XZ.kept g6 (by simp;omega);have Y6:=YZ.kept g6 (by simp;omega)
 have HOZ:=hh_ fun i hi=>(OZ.lt i hi).1
 clear bz fz BZ OZ XZ YZ;generalize z.setCell ⟨g,2,none⟩ (.slice az L1.length cz2)=w6 at *;have x6:=X6.cell;have y6:=Y6.cell;have f6:=Y6.free
 go_wp2_with fail
 (have g7:World.grownBy w6 (((w6.setCell ⟨gb,0,none⟩ (.string fe.key)).setCell ⟨gb,1,none⟩ (.int .u64 fe.own)).setCell ⟨gb,2,none⟩ (.int .u64 fe.slack)) (some gb):=Ac_ (Ac_ (Ac_ (Ab_ _ _) _ _) _ _) _ _);(have A7:Blk (((w6.setCell ⟨gb,0,none⟩ (.string fe.key)).setCell ⟨gb,1,none⟩ (.int .u64 fe.own)).setCell ⟨gb,2,none⟩ (.int .u64 fe.slack)) gb #[.string fe.key,.int .u64 fe.own,.int .u64 fe.slack]:=((Blk.set_ (by assumption) 0 _ rfl).set_ 1 _ rfl).set_ 2 _ rfl);generalize ((w6.setCell _ _).setCell _ _).setCell _ _=w7 at *
 have rc:=A7.cell;have hz6:=g6.size;refine bodyPost_ret (v:=.tuple #[.agg #[.string fe.key,.int .u64 fe.own,.int .u64 fe.slack],.bool true]) (by simp[results,results162,go_sem,rc]) rfl ?_
 have R7:=R6.keptS (GrownS.of (S:=oneF gb) g7 fun q e=>by cases e;exact rfl) fun i hi hib=>by
  rw[show i=gb from hib] at hi
  rcases hi with hi|hi
  ·omega
  ·have:=HOZ.out gb hi;omega
 refine⟨rfl,_,by rw[HR.out];exact R7,?_,fun i hi=>?_⟩
 ·have M2:GrownS (rtF g (.slice a T.L.length c)) w wd:=GrownS.none_ Hk.out
  refine((M2.trans GZ fun i hi hlt=>absurd hi (by omega)).trans (GrownS.of (S:=oneF g) g6 fun q e=>by cases e;exact rfl) fun i hi _=>.inl hi).trans (GrownS.of (S:=oneF gb) g7 fun q e=>by cases e;exact rfl) fun i hi hlt=>?_
  have:i=gb:=hi
  omega
 ·rcases hi with hi|hi
  ·exact .inl (.inl hi)
  ·exact .inr (lt_ hN0 (HOZ.out i hi))
end
end Go.Proofs.YtckmgjmeanloaaaGreat
