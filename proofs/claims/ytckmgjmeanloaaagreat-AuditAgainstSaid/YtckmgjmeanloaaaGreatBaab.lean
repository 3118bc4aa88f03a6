/- Several texts in one file: contracts of functions of the given program, and plain laws, for the proof of a statement. -/
import Derived.Test.YtckmgjmeanloaaaGreatBaaa
import Derived.Test.YtckmgjmeanloaaaGreatBaSh
import Derived.Sort.OwnSortedInts
import Derived.Lib.SlKeysI
set_option maxHeartbeats 8000000
set_option maxRecDepth 100000
namespace Go.Proofs.YtckmgjmeanloaaaGreat
open Go.Proofs.Tryz
section
namespace Rg
open Tail
def plainOp:Op→Bool
 | .call { callee:=.builtin b,.. }=>match b with
  | .append | .len | .cap | .copy | .min | .max=>true
  | _=>false
 | .call _ | .go _ | .defer _ | .send _ _ | .recv _ _ _ | .select _ _=>false
 | _=>true
def vOp:Op→Bool
 | .nilCheck _=>true
 | .slice ..=>true
 | .extract _ _ | .move _ | .assign _ | .binOp _ _ _ _ _ | .convert _ _ _ | .field _ _ _ | .fieldAddr _ _ _ | .indexAddr _ _ _ | .index _ _ _ | .build _ _ | .load _ _=>true
 | _=>false
def Valued:Result Next→Prop
 | .ok (.value _) _=>True
 | .ok .skip _=>True
 | .ok _ _=>False
 | .halt _ _=>True
section
variable {P:Program}
theorem valued_v (s:Sem Value) (w:World):Valued ((s >>= fun x=>pure (Next.value x):Sem Next).run P w):=by
 rw[Sem.run_bind];cases s.run P w <;> exact trivial
theorem noSkip_v (s:Sem Value) (w w':World) :(s >>= fun x=>pure (Next.value x):Sem Next).run P w≠.ok .skip w':=by
 rw[Sem.run_bind];cases s.run P w <;> simp[Result.andThen]
def HV (r:Result Next):Prop:=(∃h w',r=.halt h w')∨∃v w',r=.ok (.value v) w'
theorem hv_bind {α:Type} (s:Sem α) (k:α→Sem Next) (hk:∀v w,HV ((k v).run P w)) (w:World):HV ((s >>= k).run P w):=by
 rw[Sem.run_bind]
 cases s.run P w with
 | ok a w'=>exact hk a w'
 | halt h w'=>exact .inl ⟨h,w',rfl⟩
theorem hv_pure (v:Value) (w:World):HV ((pure (Next.value v):Sem Next).run P w):=.inr ⟨v,w,rfl⟩
theorem nil_cases (ρ:Operand→Value) (dst:Option Tmp) (x:Operand) (ty:TypeId) (pos:String) (after:Array Edge) (guard:Option (Nat×Bool)) (w:World) :
  HV ((execOp ρ ⟨dst,.nilCheck x,ty,pos,after,guard⟩).run P w):=by
 unfold execOp;dsimp only
 split
 ·exact .inl ⟨_,_,rfl⟩
 ·exact .inl ⟨_,_,rfl⟩
 ·exact .inl ⟨_,_,rfl⟩
 ·split
  ·exact .inl ⟨_,_,rfl⟩
  ·refine hv_bind _ _ (fun p w=>?_) w
   refine hv_bind _ _ (fun b w=>?_) w
   split
   ·exact hv_bind _ _ (fun _ w=>hv_pure _ w) w
   ·exact hv_pure _ w
  ·exact hv_pure _ w
 ·exact hv_pure _ w
theorem noSkip {o:Oper} (h:vOp o.op=true) (ρ:Operand→Value) (w w':World) :(execOp ρ o).run P w≠.ok .skip w':=by
 obtain⟨dst,op,ty,pos,after,guard⟩:=o;cases op
 case nilCheck x=>
  intro e
  rcases nil_cases (P:=P) ρ dst x ty pos after guard w with⟨_,_,h1⟩ |⟨_,_,h1⟩ <;> rw[h1] at e <;> cases e
 all_goals first |(simp[vOp] at h;done)|exact noSkip_v _ _ _ |(intro e;cases e)
theorem valued_u (s:Sem Unit) (w:World):Valued ((s >>= fun _=>pure Next.skip:Sem Next).run P w):=by
 rw[Sem.run_bind];cases s.run P w <;> exact trivial
theorem valued_b (s:Sem Bool) (x y:Value) (w:World):Valued ((s >>= fun b=>pure (Next.value (if b=true then x else y)):Sem Next).run P w):=by
 rw[Sem.run_bind];cases s.run P w <;> exact trivial
theorem plain_valued {o:Oper} (h:plainOp o.op=true) (ρ:Operand→Value) (w:World):Valued ((execOp ρ o).run P w):=by
 obtain⟨dst,op,ty,pos,after,guard⟩:=o;cases op
 case call c=>
  obtain⟨callee,args,ats⟩:=c
  cases callee with
  | builtin b=>cases b <;> first|exact valued_v _ _ |(simp[plainOp] at h)
  | value f=>simp[plainOp] at h
  | invoke r m=>simp[plainOp] at h
 case pick c a b=>exact valued_b _ _ _ _
 case nilCheck x=>rcases nil_cases (P:=P) ρ dst x ty pos after guard w with⟨_,_,h1⟩ |⟨_,_,h1⟩ <;> rw[h1] <;> trivial
 all_goals first|exact valued_v _ _|exact valued_u _ _|exact trivial |(simp[plainOp] at h;done)
end
section
variable (P:Program) (ops:Array Oper) (R:Nat→Array Value→World→Value→World→Prop)
def Gives (o:Oper) (a:Act) (w:World) (v:Value) (w':World):Prop:=
 (execOp a.eval o).run P w=.ok (.value v) w'∨((execOp a.eval o).run P w=.ok .skip w'∧v=undef)
def argsOf (o:Oper) (a:Act):Array Value:=o.op.operands.map a.eval
def Out (k:Nat) (o:Oper) (a:Act) (w:World) (v:Value) (w':World):Prop:=
 if Region.wanted o (yielded ops a.tmps)=true then (if plainOp o.op=true then Gives P o a w v w' else R k (argsOf o a) w v w') else v=undef∧w'=w
def specUpon (R':Value→World→Prop):Result Next→Prop
 | .ok (.value v) w'=>R' v w'
 | .ok .skip w'=>R' undef w'
 | .ok (.enter f args) w'=>Calls P f args w' fun e w''=>∃v,e=.returned v∧R' v w''
 | _=>False
def callSpec (o:Oper) (a:Act) (w:World) (R':Value→World→Prop):Prop:=specUpon P R' ((execOp a.eval o).run P w)
def stepG (k : Nat) (o : Oper) (a : Act) (w : World) (K : Act → World → Prop) : Prop :=
  if Region.wanted o (yielded ops a.tmps) = true then
    (if plainOp o.op = true then o.wp P a w K (fun _ _ _ => False)
     else callSpec P o a w (R k (argsOf o a) w) ∧ ∀ v w', R k (argsOf o a) w v w' → K (a.put o.dst v) w')
  else K (a.put o.dst undef) w
end
section
variable {P:Program} {ops:Array Oper} {R:Nat→Array Value→World→Value→World→Prop} {o:Oper} {a c:Act} {w w':World} {v:Value} {K:Act→World→Prop} {k:Nat}
theorem wp_gives (hp:plainOp o.op=true) (h:o.wp P a w K (fun _ _ _=>False)):∃v w',Gives P o a w v w'∧K (a.put o.dst v) w':=by
 have hv:=plain_valued (P:=P) hp a.eval w;unfold Oper.wp at h;unfold Gives;generalize (execOp a.eval o).run P w=r at *
 cases r with
 | ok n w'=>cases n <;> first|exact hv.elim|exact⟨_,_,.inl rfl,h⟩|exact⟨_,_,.inr ⟨rfl,rfl⟩,h⟩
 | halt x w'=>cases x <;> exact h.elim
theorem gives_wp {Q:Exit→Act→World→Prop} (hg:Gives P o a w v w') (h:K (a.put o.dst v) w'):o.wp P a w K Q:=by
 unfold Oper.wp
 rcases hg with hg |⟨hg,rfl⟩ <;> rw[hg] <;> exact h
theorem Gives.uniq {v2:Value} {w2:World} (h:Gives P o a w v w') (h2:Gives P o a w v2 w2):v=v2∧w'=w2:=by
 rcases h with h |⟨h,rfl⟩ <;> rcases h2 with h2 |⟨h2,rfl⟩ <;> rw[h] at h2 <;> cases h2 <;> exact⟨rfl,rfl⟩
theorem callSpec.ex {R':Value→World→Prop} (h:callSpec P o a w R'):∃v w',R' v w':=by
 unfold callSpec at h;generalize (execOp a.eval o).run P w=r at *
 cases r with
 | ok n w'=>
  cases n <;> first|exact⟨_,_,h⟩|exact(h:False).elim|skip
  case enter f args=>
   obtain⟨e,w2,_,⟨v,_,hr⟩,_⟩:=(show Calls P f args w' _ from h) [];exact⟨v,w2,hr⟩
 | halt x w'=>exact(h:False).elim
theorem stepG.ex (h:stepG P ops R k o a w K):∃v w',Out P ops R k o a w v w'∧K (a.put o.dst v) w':=by
 unfold stepG at h;unfold Out
 split at h
 ·rename_i hw
  simp only[hw,if_true]
  split at h
  ·rename_i hp;simp only[hp,if_true];exact wp_gives hp h
  ·rename_i hp
   obtain⟨v,w',hr⟩:=h.1.ex;exact⟨v,w',by simp only[hp];exact hr,h.2 _ _ hr⟩
 ·rename_i hw
  exact⟨undef,w,by simp[hw],h⟩
theorem stepG.use (h:stepG P ops R k o a w K) (ho:Out P ops R k o a w v w'):K (a.put o.dst v) w':=by
 unfold stepG at h;unfold Out at ho
 split at h
 ·rename_i hw
  simp only[hw,if_true] at ho
  split at h
  ·rename_i hp
   simp only[hp,if_true] at ho;obtain⟨v2,w2,hg,hk⟩:=wp_gives hp h;obtain⟨rfl,rfl⟩:=hg.uniq ho;exact hk
  ·rename_i hp
   simp only[hp] at ho;exact h.2 _ _ ho
 ·rename_i hw
  simp only[hw] at ho;obtain⟨rfl,rfl⟩:=ho;exact h
def Agree (L:List Tmp) (a c:Act):Prop:=∀d∈L,a.tmps[d]?=c.tmps[d]?
theorem Agree.symm {L:List Tmp} (h:Agree L a c):Agree L c a:=fun d hd=>(h d hd).symm
theorem Agree.trans {L:List Tmp} {b:Act} (h:Agree L a b) (h':Agree L b c):Agree L a c:=fun d hd=>(h d hd).trans (h' d hd)
theorem Agree.both {L:List Tmp} (h:Agree L a c) (x:Option Tmp) (v:Value):Agree L (a.put x v) (c.put x v):=by
 intro d hd
 cases x with
 | none=>exact h d hd
 | some y=>
  have:=h d hd
  by_cases e:y=d
  ·subst e
   by_cases h1:y<a.tmps.size
   ·have h2:y<c.tmps.size:=by
     rcases Nat.lt_or_ge y c.tmps.size with h2|h2
     ·exact h2
     ·rw[Array.getElem?_eq_none h2,Array.getElem?_eq_getElem h1] at this;cases this
    simp[Act.put,h1,h2]
   ·have h2:¬y<c.tmps.size:=by
     intro h2;have h3:=Array.getElem?_eq_none (Nat.not_lt.1 h1);rw[h3,Array.getElem?_eq_getElem h2] at this;cases this
    simp[Act.put,h1,h2]
  ·simpa [Act.put,Array.getElem?_setIfInBounds_ne e] using this
theorem Agree.left {L:List Tmp} (h:Agree L a c) {x:Option Tmp} (v:Value) (hx:∀d,x=some d→d∉L):Agree L (a.put x v) c:=by
 intro d hd
 cases x with
 | none=>exact h d hd
 | some y=>
  have e:y≠d:=fun e=>hx y rfl (e▸hd)
  simpa [Act.put,Array.getElem?_setIfInBounds_ne e] using h d hd
theorem Agree.refl (L:List Tmp) (a:Act):Agree L a a:=fun _ _=>rfl
theorem Agree.eval (h:Agree (o.looksAt ops) a c):∀x∈o.op.operands,a.eval x=c.eval x:=by
 intro x hx
 cases x with
 | tmp t=>
  have:=h t (List.mem_append_left _ (List.mem_filterMap.2 ⟨.tmp t,by simpa using hx,rfl⟩))
  simp[Act.eval,this]
 | _=>rfl
theorem Agree.exec (hs:∀cs b,o.op≠.select cs b) (h:Agree (o.looksAt ops) a c):execOp a.eval o=execOp c.eval o:=execOp_congr o hs h.eval
theorem Agree.args (h:Agree (o.looksAt ops) a c):argsOf o a=argsOf o c:=Array.map_congr_left fun x hx=>h.eval x hx
theorem Agree.wanted (h:Agree (o.looksAt ops) a c):Region.wanted o (yielded ops a.tmps)=Region.wanted o (yielded ops c.tmps):=by
 unfold Region.wanted
 cases hg:o.guard with
 | none=>rfl
 | some gw=>
  obtain⟨g,b⟩:=gw
  have:yielded ops a.tmps g=yielded ops c.tmps g:=by
   unfold yielded
   cases hd :(ops[g]?).bind (·.dst) with
   | none=>rfl
   | some d=>
    have:=h d (List.mem_append_right _ (by simp[hg,hd]))
    simp[this]
  simp[this]
theorem Out.agree (hs:∀cs b,o.op≠.select cs b) (h:Agree (o.looksAt ops) a c) (ho:Out P ops R k o a w v w'):Out P ops R k o c w v w':=by
 unfold Out Gives at *;rw[←h.wanted,←h.args,←h.exec hs];exact ho
theorem stepG.wpOp {Q:Exit→Act→World→Prop} {i:Nat} (hi:ops[i]?=some o) (hs:∀cs b,o.op≠.select cs b) (h:stepG P ops R k o c w K) (hg:Agree (o.looksAt ops) c a) :
  wpOp P ops Q i (fun a' w'=>∃v,a'=a.put o.dst v∧Out P ops R k o a w v w') a w:=by
 unfold Go.wpOp;simp only[hi];unfold stepG at h;rw[hg.wanted] at h
 split
 ·rename_i hw
  rw[if_pos hw] at h;refine .inl ?_
  split at h
  ·rename_i hp
   obtain⟨v,w',hgv,_⟩:=wp_gives hp h
   have hgv':Gives P o a w v w':=by unfold Gives at *;rw[←hg.exec hs];exact hgv
   exact gives_wp hgv' ⟨v,rfl,by unfold Out;rw[if_pos hw,if_pos hp];exact hgv'⟩
  ·rename_i hp
   have hc:=h.1
   have hO:∀v w',R k (argsOf o a) w v w'→Out P ops R k o a w v w':=fun v w' hr=>by unfold Out;rw[if_pos hw,if_neg hp];exact hr
   unfold callSpec at hc;rw[hg.exec hs,hg.args] at hc;unfold Oper.wp;generalize (execOp a.eval o).run P w=r at *
   cases r with
   | ok m w'=>
    cases m
    case value v=>exact⟨v,rfl,hO _ _ hc⟩
    case skip=>exact⟨undef,rfl,hO _ _ hc⟩
    case enter f args=>exact Calls.mono hc fun e w'' ⟨v,he,hr⟩=>by subst he;exact⟨v,rfl,hO _ _ hr⟩
    all_goals exact(hc:False).elim
   | halt x w'=>exact(hc:False).elim
 ·rename_i hw
  exact⟨undef,rfl,by unfold Out;rw[if_neg hw];exact⟨rfl,rfl⟩⟩
end
section
variable (P:Program) (ops:Array Oper) (n:Nat) (Z:Array Bool) (M:World→World→Prop) (R:Nat→Array Value→World→Value→World→Prop) (w0:World) (Qt:Act→World→Prop)
def tree:Nat→List Oper→Act→List World→List World→Prop
 | _,[],a,E,S=>∀w,M w0 w→(∀j,j<n→M (E.getD j w0) w)→(∀i j,i<n→j<n→i≠j→M (E.getD i w0) (S.getD j w0)∨M (E.getD j w0) (S.getD i w0))→Qt a w
 | k,o::rest,a,E,S=>
  (∃v,(∀w,stepG P ops R k o a w fun a' w'=>a'=a.put o.dst v∧w'=w)∧(Z.getD k false=true→Yields P ops o v a)∧tree (k+1) rest (a.put o.dst v) (E++[w0]) (S++[w0])) ∨
  (Z.getD k false=false∧∀w,M w0 w→(∀j,j<k→waitsB ops 8 k j=true→M (E.getD j w0) w)→stepG P ops R k o a w fun a' w'=>M w w'∧tree (k+1) rest a' (E++[w']) (S++[w]))
end
structure Rec where
 (v:Value) (s t:World)
def dstOf (ops:Array Oper) (k:Nat):Option Tmp:=(ops[k]?).bind (·.dst)
def actN (ops:Array Oper) (a0:Act) (h:Nat→Option Value):Nat→Act
 | 0=>a0
 | k+1=>match h k with
  | some v=>(actN ops a0 h k).put (dstOf ops k) v
  | none=>actN ops a0 h k
section
variable {ops:Array Oper} {a0:Act} {h h':Nat→Option Value}
theorem actN_congr:∀k,(∀j,j<k→h j=h' j)→actN ops a0 h k=actN ops a0 h' k
 | 0,_=>rfl
 | k+1,hh=>by
  have ih:=actN_congr k fun j hj=>hh j (by omega)
  simp only[actN,hh k (by omega),ih]
theorem actN_agree (L:List Tmp):∀k,(∀j,j<k→h j=h' j∨∀d,dstOf ops j=some d→d∉L)→Agree L (actN ops a0 h k) (actN ops a0 h' k)
 | 0,_=>Agree.refl _ _
 | k+1,hh=>by
  have ih:=actN_agree L k fun j hj=>hh j (by omega)
  simp only[actN]
  rcases hh k (by omega) with e|e
  ·rw[e];cases h' k with
   | none=>exact ih
   | some v=>exact ih.both _ _
  ·cases h k <;> cases h' k
   ·exact ih
   ·exact(ih.symm.left _ e).symm
   ·exact ih.left _ e
   ·exact((ih.left _ e).symm.left _ e).symm
def upd (h:Nat→Option Value) (i:Nat) (v:Value):Nat→Option Value:=fun j=>if j=i then some v else h j
theorem actN_set {i:Nat} {v:Value} (hn:h i=none):∀k,i<k→(∀j,i<j→j<k→h j≠none→∀d,dstOf ops i=some d→dstOf ops j≠some d) →
  actN ops a0 (upd h i v) k =(actN ops a0 h k).put (dstOf ops i) v
 | 0,hi,_=>by omega
 | k+1,hi,hh=>by
  by_cases e:k=i
  ·subst e
   have:actN ops a0 (upd h k v) k=actN ops a0 h k:=actN_congr k fun j hj=>by simp[upd,show j≠k by omega]
   simp only[actN,hn,this]
   simp[upd]
  ·have ih:=actN_set (v:=v) hn k (by omega) fun j hj hk=>hh j hj (by omega)
   have hu:upd h i v k=h k:=by simp[upd,e]
   simp only[actN,hu,ih]
   cases hk:h k with
   | none=>rfl
   | some u=>exact Act.put_comm _ _ _ fun d hd=>hh k (by omega) (by omega) (by simp[hk]) d hd
theorem actN_stop {k : Nat} (hs : ∀ j, k ≤ j → h j = none) : ∀ n, k ≤ n → actN ops a0 h n = actN ops a0 h k
  | 0, hk => by have : k = 0 := by omega
                subst this; rfl
  | n + 1, hk => by
    by_cases e : k = n + 1
    · subst e; rfl
    · simp only [actN, hs n (by omega)]
      exact actN_stop hs n (by omega)
end
def depB (ops:Array Oper) (j i:Nat):Bool:=match ops[j]? with
 | none=>false
 | some o=>o.after.any fun e=>Region.binds .any e&&e.on==i
def okY (ops:Array Oper) (n:Nat) (Z Y:Array Bool):Bool:=
 (List.range ops.size).all fun j=>match ops[j]? with
  | none=>true
  | some o=>(o.after.all fun e=>!Region.binds .any e||decide (e.on<j)) &&
    (decide (j<n)||Y.getD j false||(List.range j).all fun i=>(decide (i<n)&&Z.getD i false)||Y.getD i false||(waitsB ops 4 j i||waitsB ops 20 j i))
section
variable {P:Program} {ops:Array Oper} {n:Nat} {Z Y:Array Bool} {Q:Exit→Act→World→Prop}
theorem backY (h:okY ops n Z Y=true) {j:Nat} {o:Oper} (hj:ops[j]?=some o):∀e∈o.after,Region.binds .any e=true→e.on<j:=by
 intro e he hb;have h1:=List.all_eq_true.1 h j (List.mem_range.2 (Array.getElem?_eq_some_iff.1 hj).1);simp only[hj,Bool.and_eq_true] at h1;have h2:=Array.all_eq_true_iff_forall_mem.1 h1.1 e he
 simpa [hb] using h2
theorem waitsY (h:okY ops n Z Y=true) {listed:Array Bool} (hc:Closed ops listed) {j:Nat} {o:Oper} (hj:ops[j]?=some o) (hn:n≤j) (hY:Y.getD j false=false) {i:Nat} (hi:i<j) (hp:i<n→Z.getD i false=false) (hYi:Y.getD i false=false)
  (hd:∀e∈o.after,Region.binds .any e=true→listed.getD e.on false=true):listed.getD i false=true:=by
 have h1:=List.all_eq_true.1 h j (List.mem_range.2 (Array.getElem?_eq_some_iff.1 hj).1);simp only[hj,Bool.and_eq_true,Bool.or_eq_true,decide_eq_true_eq,hY,Bool.false_eq_true,or_false] at h1
 rcases h1.2 with h2|h2
 ·omega
 ·have h3:=List.all_eq_true.1 h2 i (List.mem_range.2 hi)
  simp only[Bool.and_eq_true,Bool.or_eq_true,decide_eq_true_eq,hYi,Bool.false_eq_true,or_false] at h3
  rcases h3 with⟨h4,h5⟩|h4
  ·rw[hp h4] at h5;cases h5
  ·rcases h4 with h4|h4
   ·exact reach hc 4 j i o hj hd h4
   ·exact reach hc 20 j i o hj hd h4
def tailL (Y:Array Bool):Nat→List Oper→List Oper
 | _,[]=>[]
 | k,o::l=>if Y.getD k false=true then tailL Y (k+1) l else o::tailL Y (k+1) l
def UptoY (Y listed:Array Bool) (N m:Nat):Prop:=listed.size=N∧∀i,i<N→listed.getD i true =(decide (i<m)||Y.getD i false)
theorem UptoY.getF {listed:Array Bool} {N m:Nat} (h:UptoY Y listed N m) {i:Nat} (hi:i<N):listed.getD i false =(decide (i<m)||Y.getD i false):=by
 rw[←h.2 i hi]
 have:i<listed.size:=by rw[h.1];exact hi
 simp[this]
theorem tail_anyY (hok:okY ops n Z Y=true):∀(k m:Nat) (listed:Array Bool) (a:Act) (w:World) (fuel:Nat),n≤m→m+k=ops.size→(tailL Y m (ops.toList.drop m)).length≤fuel→UptoY Y listed ops.size m→Closed ops listed →
  wpList P ops Q (tailL Y m (ops.toList.drop m)) a w→wpAny P .any ops Q fuel listed a w:=by
 intro k
 induction k with
 | zero=>
  intro m listed a w fuel hn hm hf hu hcl h
  have hr:Region.ready .any ops listed=[]:=by
   rw[List.eq_nil_iff_forall_not_mem];intro i hi;rw[mem_ready] at hi;obtain⟨h0,o,ho,_⟩:=hi;have hi':=(Array.getElem?_eq_some_iff.1 ho).1;rw[hu.2 i hi'] at h0
   simp at h0;omega
  have hd:ops.toList.drop m=[]:=List.drop_eq_nil_of_le (by simp;omega);rw[hd] at h
  cases fuel with
  | zero=>exact⟨hr,h⟩
  | succ f=>exact⟨fun _=>h,by rw[hr];simp⟩
 | succ k ih=>
  intro m listed a w fuel hn hm hf hu hcl h
  have hlt:m<ops.size:=by omega
  have ho:ops[m]?=some ops[m]:=Array.getElem?_eq_getElem hlt
  have hd:ops.toList.drop m=ops[m]::ops.toList.drop (m+1):=by
   rw[List.drop_eq_getElem_cons (by simpa using hlt)];simp
  rw[hd] at h hf
  by_cases hY:Y.getD m false=true
  ·have e:tailL Y m (ops[m]::ops.toList.drop (m+1))=tailL Y (m+1) (ops.toList.drop (m+1)):=by simp only[tailL,hY,if_true]
   rw[e] at h hf;refine ih (m+1) listed a w fuel (by omega) (by omega) hf ⟨hu.1,fun i hi=>?_⟩ hcl h;rw[hu.2 i hi]
   by_cases e:i=m
   ·subst e;simp[hY]
   ·congr 1;simp;omega
  ·have hY':Y.getD m false=false:=by simpa using hY
   have e:tailL Y m (ops[m]::ops.toList.drop (m+1))=ops[m]::tailL Y (m+1) (ops.toList.drop (m+1)):=by simp[tailL,hY']
   rw[e] at h hf
   have hin:m∈Region.ready .any ops listed:=by
    rw[mem_ready];refine⟨by rw[hu.2 m hlt,hY'];simp,_,ho,fun e he hb=>?_⟩
    have:=backY hok ho e he hb
    rw[hu.getF (by omega)];simp[this]
   have hall:∀i∈Region.ready .any ops listed,i=m:=by
    intro i hi;rw[mem_ready] at hi;obtain⟨h0,o,hoi,hdep⟩:=hi;have hi':=(Array.getElem?_eq_some_iff.1 hoi).1;rw[hu.2 i hi'] at h0;simp only[Bool.or_eq_false_iff,decide_eq_false_iff_not] at h0
    by_cases e:i=m
    ·exact e
    ·exfalso
     have:=waitsY hok hcl hoi (by omega) h0.2 (show m<i by omega) (fun h=>by omega) hY' hdep
     rw[hu.getF hlt,hY'] at this
     simp at this
   cases fuel with
   | zero=>simp at hf
   | succ f=>
    refine⟨fun h0=>(by rw[h0] at hin;cases hin),fun i hi=>?_⟩;rw[hall i hi]
    have h':wpOp P ops Q m (wpList P ops Q (tailL Y (m+1) (ops.toList.drop (m+1)))) a w:=by
     unfold wpOp;simp only[ho];exact h
    refine wpOp_mono (fun a' w' hk=>ih (m+1) _ a' w' f (by omega) (by omega) (by simpa using hf) ⟨by simp[hu.1],fun i hi=>?_⟩ (hcl.next' hin) hk) h'
    by_cases e:m=i
    ·subst e
     have:m<listed.size:=by rw[hu.1];exact hi
     simp[this]
    ·rw[getD_set_ne true e,hu.2 i hi]
     congr 1;simp;omega
end
def rgB (ops:Array Oper) (n:Nat) (Z Y:Array Bool):Bool:=
 decide (n≤ops.size)&&(okY ops n Z Y&&(List.range n).all fun j=>!Y.getD j false)&&Region.noSelect ops &&
 ((List.range n).all fun z=>!Z.getD z false||((match ops[z]? with|some oz=>vOp oz.op|none=>true)&&(List.range ops.size).all fun j=>j==z||depB ops j z||depB ops z j||match ops[z]?,ops[j]? with
  | some oz,some oj=>oz.apart ops oj
  | _,_=>true)) &&
 ((List.range n).all fun i=>(List.range n).all fun j=>j==i||depB ops i j||depB ops j i||match ops[i]?,dstOf ops j with
  | some o,some d=>!(o.looksAt ops).contains d
  | _,_=>true) &&
 ((List.range n).all fun i=>(List.range n).all fun j=>!decide (i<j)||depB ops j i||match dstOf ops i with
  | some d=>dstOf ops j != some d
  | none=>true)
structure Shape (ops:Array Oper) (n:Nat) (Z Y:Array Bool):Prop where
 le:n≤ops.size
 ok:okY ops n Z Y=true
 head:∀j,j<n→Y.getD j false=false
 sel:Region.noSelect ops=true
 vop:∀z oz,z<n→Z.getD z false=true→ops[z]?=some oz→vOp oz.op=true
 lone:∀z j oz oj,z<n→Z.getD z false=true→ops[z]?=some oz→ops[j]?=some oj→j≠z→depB ops j z=false→depB ops z j=false→oz.apart ops oj=true
 reads:∀i j,i<n→j<n→j≠i→depB ops i j=false→depB ops j i=false→∀o d,ops[i]?=some o→dstOf ops j=some d→d∉o.looksAt ops
 writes:∀i j,i<j→j<n→depB ops j i=false→∀d,dstOf ops i=some d→dstOf ops j≠some d
theorem shape_of {ops:Array Oper} {n:Nat} {Z Y:Array Bool} (h:rgB ops n Z Y=true):Shape ops n Z Y:=by
 simp only[rgB,Bool.and_eq_true,decide_eq_true_eq] at h;obtain⟨⟨⟨⟨⟨h1,h2,h7⟩,h3⟩,h6⟩,h4⟩,h5⟩:=h;refine⟨h1,h2,fun j hj=>by simpa using List.all_eq_true.1 h7 j (List.mem_range.2 hj),h3,fun z oz hz hZ ho=>?_,fun z j oz oj hz hZ ho hoj hne hd hdz=>?_,fun i j hi hj hne hd1 hd2 o d ho hd=>?_,fun i j hij hj hd0 d hd=>?_⟩
 ·have:=List.all_eq_true.1 h6 z (List.mem_range.2 hz)
  simp only[hZ,ho,Bool.not_true,Bool.false_or,Bool.and_eq_true] at this;exact this.1
 ·have:=List.all_eq_true.1 h6 z (List.mem_range.2 hz)
  simp only[hZ,ho,Bool.not_true,Bool.false_or,Bool.and_eq_true] at this
  have:=List.all_eq_true.1 this.2 j (List.mem_range.2 (Array.getElem?_eq_some_iff.1 hoj).1)
  simpa [hne,hd,hdz,hoj] using this
 ·have:=List.all_eq_true.1 (List.all_eq_true.1 h4 i (List.mem_range.2 hi)) j (List.mem_range.2 hj)
  simpa [hne,hd1,hd2,ho,hd] using this
 ·have:=List.all_eq_true.1 (List.all_eq_true.1 h5 i (List.mem_range.2 (by omega))) j (List.mem_range.2 hj)
  simpa [hij,hd0,hd] using this
theorem dep_lt {ops:Array Oper} {n:Nat} {Z Y:Array Bool} (hS:Shape ops n Z Y) {j i:Nat} (h:depB ops j i=true):i<j:=by
 unfold depB at h
 cases ho:ops[j]? with
 | none=>simp[ho] at h
 | some o=>
  simp only[ho] at h;obtain⟨e,he,hb⟩:=Array.any_eq_true'.1 h;simp only[Bool.and_eq_true,beq_iff_eq] at hb;rw[←hb.2];exact backY hS.ok ho e he hb.1
theorem dep_waits {ops:Array Oper} {j i:Nat} (h:depB ops j i=true):waitsB ops 8 j i=true:=by
 unfold depB at h
 cases ho:ops[j]? with
 | none=>simp[ho] at h
 | some o=>
  simp only[ho] at h;obtain⟨e,he,hb⟩:=Array.any_eq_true'.1 h;simp only[Bool.and_eq_true,beq_iff_eq] at hb;simp only[waitsB,ho];exact Array.any_eq_true'.2 ⟨e,he,by simp[hb.1,hb.2]⟩
section
variable {P:Program} {ops:Array Oper} {n:Nat} {Z Y:Array Bool} {M:World→World→Prop} {R:Nat→Array Value→World→Value→World→Prop} {w0:World} {Q:Exit→Act→World→Prop} {a0:Act}
def val (h:Nat→Option Rec):Nat→Option Value:=fun j=>(h j).map (·.v)
def deps (ops:Array Oper) (h:Nat→Option Rec) (j:Nat):Nat→Option Value:=fun i=>if depB ops j i=true then val h i else none
variable (P ops n Y M R w0 a0) in
structure Inv (lf:Array Bool) (a:Act) (w:World) (h:Nat→Option Rec):Prop where
 size:lf.size=ops.size
 listed:∀j,j<n→lf.getD j true =(h j).isSome
 high:∀j,n≤j→j<ops.size→lf.getD j true=Y.getD j false
 closed:Closed ops lf
 out:∀j,n≤j→h j=none
 act:a=actN ops a0 (val h) n
 now:M w0 w
 begun:∀j r,h j=some r→M w0 r.s∧M r.t w
 waits:∀j r,h j=some r→∀i,i<j→waitsB ops 8 j i=true→∃ri,h i=some ri∧M ri.t r.s
 gave:∀j r,h j=some r→∀o,ops[j]?=some o→∀c,Agree (o.looksAt ops) c (actN ops a0 (deps ops h j) n)→Out P ops R j o c r.s r.v r.t
 chain:∀i j ri rj,h i=some ri→h j=some rj→i≠j→M ri.t rj.s∨M rj.t ri.s
variable {lf:Array Bool} {a:Act} {w:World} {h:Nat→Option Rec}
theorem getT {N i:Nat} (hs:lf.size=N) (hi:i<N):lf.getD i false=lf.getD i true:=getF_of hs hi
theorem agree_text (hS:Shape ops n Z Y) {r:Nat→Option Value} {k:Nat} (hk:k<n) {o:Oper} (ho:ops[k]?=some o) (hr:∀j,k≤j→r j=none)
  (hd:∀j,depB ops k j=true→r j=val h j):Agree (o.looksAt ops) (actN ops a0 r n) (actN ops a0 (deps ops h k) n):=by
 refine actN_agree _ n fun j hj=>?_
 unfold deps
 by_cases e:depB ops k j=true
 ·rw[if_pos e];exact .inl (hd j e)
 ·rw[if_neg e]
  by_cases hkj:k≤j
  ·exact .inl (hr j hkj)
  ·refine .inr fun d hd'=>hS.reads k j hk hj (by omega) (by simpa using e) ?_ o d ho hd'
   cases h1:depB ops j k with
   | false=>rfl
   | true=>have:=dep_lt hS h1;omega
theorem agree_now (hS:Shape ops n Z Y) (I:Inv P ops n Y M R w0 a0 lf a w h) {k:Nat} (hk:k<n) (hn:h k=none) {o:Oper} (ho:ops[k]?=some o) :
  Agree (o.looksAt ops) a (actN ops a0 (deps ops h k) n):=by
 rw[I.act]
 refine actN_agree _ n fun j hj=>?_
 unfold deps
 by_cases e:depB ops k j=true
 ·rw[if_pos e];exact .inl rfl
 ·rw[if_neg e]
  cases hj2:h j with
  | none=>exact .inl (by simp[val,hj2])
  | some r=>
   refine .inr fun d hd'=>hS.reads k j hk hj (fun e=>by subst e;rw[hn] at hj2;cases hj2) (by simpa using e) ?_ o d ho hd'
   cases h1:depB ops j k with
   | false=>rfl
   | true=>
    obtain⟨ri,h2,_⟩:=I.waits j r hj2 k (dep_lt hS h1) (dep_waits h1);rw[hn] at h2;cases h2
theorem getD_snoc_lt {α:Type} {l:List α} {j:Nat} {x d:α} (h:j<l.length) :(l++[x]).getD j d=l.getD j d:=by simp[List.getD_eq_getElem?_getD,List.getElem?_append_left h]
theorem getD_snoc_eq {α:Type} {l:List α} {j:Nat} {x d:α} (h:j=l.length) :(l++[x]).getD j d=x:=by subst h;simp[List.getD_eq_getElem?_getD]
theorem replay (hS:Shape ops n Z Y) (hrefl:∀w,M w w) (htr:∀a b c,M a b→M b c→M a c) {Qt:Act→World→Prop}
  (hT:tree P ops n Z M R w0 Qt 0 (ops.toList.take n) a0 [] []) (I:Inv P ops n Y M R w0 a0 lf a w h):∀k,k≤n →
  ∃(r:Nat→Option Value) (E S:List World) (z:World),E.length=k∧S.length=k∧(∀j,k≤j→r j=none)∧(∀j,j<k→(r j).isSome) ∧
   (∀j rec,j<k→h j=some rec→r j=some rec.v∧((E.getD j w0=rec.t∧S.getD j w0=rec.s)∨(E.getD j w0=w0∧S.getD j w0=w0))) ∧
   M w z∧(∀j,j<k→M (E.getD j w0) z)∧tree P ops n Z M R w0 Qt k ((ops.toList.take n).drop k) (actN ops a0 r n) E S:=by
 intro k
 induction k with
 | zero=>
  intro _;refine⟨fun _=>none,[],[],w,rfl,rfl,fun _ _=>rfl,by omega,by omega,hrefl w,by omega,?_⟩;rw[actN_stop (k:=0) (fun _ _=>rfl) n (by omega)];exact hT
 | succ k ih=>
  intro hk;obtain⟨r,E,S,z,hE,hSl,hr1,hr2,hr3,hz,hEz,ht⟩:=ih (by omega)
  have hkn:k<n:=by omega
  have hks:k<ops.size:=ll_ hkn hS.le;have ho:ops[k]?=some ops[k]:=Array.getElem?_eq_getElem hks;have hsel:=Region.noSelect_spec hS.sel k ops[k]
  have hdrop :(ops.toList.take n).drop k=ops[k]::(ops.toList.take n).drop (k+1):=by
   rw[List.drop_eq_getElem_cons (by simp;omega)];simp
  rw[hdrop] at ht
  have hnew:∀v,actN ops a0 (upd r k v) n =(actN ops a0 r n).put (ops[k]).dst v:=fun v=>by
   rw[actN_set (hr1 k (by omega)) n hkn (fun j hj _ hne=>absurd (hr1 j (by omega)) hne)]
   simp[dstOf,ho]
  have hu1:∀v j,k+1≤j→upd r k v j=none:=fun v j hj=>by simp[upd,show j≠k by omega,hr1 j (by omega)]
  have hu2:∀v j,j<k+1→(upd r k v j).isSome:=fun v j hj=>by
   by_cases e:j=k
   ·simp[upd,e]
   ·simp[upd,e,hr2 j (by omega)]
  cases hk2:h k with
  | some rec=>
   have hb:=I.begun k rec hk2
   have hout:Out P ops R k ops[k] (actN ops a0 r n) rec.s rec.v rec.t:=by
    refine I.gave k rec hk2 _ ho _ (agree_text hS hkn ho hr1 fun j hj=>?_);obtain⟨rj,h1,_⟩:=I.waits k rec hk2 j (dep_lt hS hj) (dep_waits hj);rw[(hr3 j rj (dep_lt hS hj) h1).1,val,h1];rfl
   have hold:∀(x y:World) j rec',j<k+1→h j=some rec'→((x=rec.t∧y=rec.s)∨(x=w0∧y=w0))→upd r k rec.v j=some rec'.v ∧
     (((E++[x]).getD j w0=rec'.t∧(S++[y]).getD j w0=rec'.s)∨((E++[x]).getD j w0=w0∧(S++[y]).getD j w0=w0)):=fun x y j rec' hj h1 hxy=>by
    by_cases e:j=k
    ·subst e
     rw[hk2] at h1;cases h1;rw[getD_snoc_eq hE.symm,getD_snoc_eq hSl.symm];exact⟨by simp[upd],hxy⟩
    ·rw[getD_snoc_lt (by omega),getD_snoc_lt (by omega)]
     have:=hr3 j rec' (by omega) h1
     simpa [upd,e] using this
   rcases ht with⟨v,h1,_,h2⟩ |⟨_,h1⟩
   ·obtain⟨e1,_⟩:=(h1 rec.s).use hout
    refine⟨upd r k rec.v,E++[w0],S++[w0],z,by simp[hE],by simp[hSl],hu1 _,hu2 _,fun j rec' hj h1=>hold w0 w0 j rec' hj h1 (.inr ⟨rfl,rfl⟩),hz,?_,?_⟩
    ·intro j hj
     by_cases e:j=k
     ·rw[getD_snoc_eq (by omega)];exact htr _ _ _ I.now hz
     ·rw[getD_snoc_lt (by omega)];exact hEz j (by omega)
    ·rw[hnew,e1];exact h2
   ·have h3:=h1 rec.s hb.1 fun j hj hw=>by
     obtain⟨rj,h4,h5⟩:=I.waits k rec hk2 j hj hw
     rcases(hr3 j rj hj h4).2 with⟨e,_⟩ |⟨e,_⟩
     ·rw[e];exact h5
     ·rw[e];exact hb.1
    obtain⟨_,h5⟩:=h3.use hout;refine⟨upd r k rec.v,E++[rec.t],S++[rec.s],z,by simp[hE],by simp[hSl],hu1 _,hu2 _,fun j rec' hj h1=>hold rec.t rec.s j rec' hj h1 (.inl ⟨rfl,rfl⟩),hz,?_,?_⟩
    ·intro j hj
     by_cases e:j=k
     ·rw[getD_snoc_eq (by omega)];exact htr _ _ _ hb.2 hz
     ·rw[getD_snoc_lt (by omega)];exact hEz j (by omega)
    ·rw[hnew];exact h5
  | none=>
   have hold:∀(v:Value) (x y:World) j rec',j<k+1→h j=some rec'→upd r k v j=some rec'.v ∧
     (((E++[x]).getD j w0=rec'.t∧(S++[y]).getD j w0=rec'.s)∨((E++[x]).getD j w0=w0∧(S++[y]).getD j w0=w0)):=fun v x y j rec' hj h1=>by
    by_cases e:j=k
    ·subst e;rw[hk2] at h1;cases h1
    ·rw[getD_snoc_lt (by omega),getD_snoc_lt (by omega)]
     have:=hr3 j rec' (by omega) h1
     simpa [upd,e] using this
   rcases ht with⟨v,h1,_,h2⟩ |⟨_,h1⟩
   ·refine⟨upd r k v,E++[w0],S++[w0],z,by simp[hE],by simp[hSl],hu1 _,hu2 _,fun j rec' hj h1=>hold v w0 w0 j rec' hj h1,hz,?_,?_⟩
    ·intro j hj
     by_cases e:j=k
     ·rw[getD_snoc_eq (by omega)];exact htr _ _ _ I.now hz
     ·rw[getD_snoc_lt (by omega)];exact hEz j (by omega)
    ·rw[hnew];exact h2
   ·have h3:=h1 z (htr _ _ _ I.now hz) fun j hj _=>hEz j hj
    obtain⟨v,w',_,h4,h5⟩:=h3.ex;refine⟨upd r k v,E++[w'],S++[z],w',by simp[hE],by simp[hSl],hu1 _,hu2 _,fun j rec' hj h1=>hold v w' z j rec' hj h1,htr _ _ _ hz h4,?_,?_⟩
    ·intro j hj
     by_cases e:j=k
     ·rw[getD_snoc_eq (by omega)];exact hrefl _
     ·rw[getD_snoc_lt (by omega)];exact htr _ _ _ (hEz j (by omega)) h4
    ·rw[hnew];exact h5
def cnt (lf:Array Bool):Nat→Nat
 | 0=>0
 | k+1=>cnt lf k+if lf.getD k true=true then 0 else 1
theorem cnt_pos {i:Nat} (hi:lf.getD i true=false):∀k,i<k→1≤cnt lf k
 | 0,h=>by omega
 | k+1,h=>by
  simp only[cnt]
  by_cases e:k=i
  ·subst e;simp[hi]
  ·have:=cnt_pos hi k (by omega);omega
theorem cnt_set {i:Nat} (hs:i<lf.size) (hi:lf.getD i true=false):∀k,i<k→cnt (lf.setIfInBounds i true) k+1=cnt lf k
 | 0,h=>by omega
 | k+1,h=>by
  simp only[cnt]
  by_cases e:i=k
  ·subst e
   have:∀m,m≤i→cnt (lf.setIfInBounds i true) m=cnt lf m:=fun m=>by
    induction m with
    | zero=>intro _;rfl
    | succ m ih=>intro hm;simp only[cnt];rw[ih (by omega),getD_set_ne true (by omega)]
   rw[this i (le_ _)]
   simp[hs,hi]
  ·have:=cnt_set hs hi k (by omega)
   rw[getD_set_ne true e]
   omega
theorem Inv.step (hS:Shape ops n Z Y) (hrefl:∀w,M w w) (htr:∀a b c,M a b→M b c→M a c) (I:Inv P ops n Y M R w0 a0 lf a w h) {i:Nat} {o:Oper} {v:Value} {w':World} (hin:i<n) (hi:i∈Region.ready .any ops lf) (ho:ops[i]?=some o)
  (hw8:∀j,j<i→waitsB ops 8 i j=true→∃rj,h j=some rj) (hO:Out P ops R i o a w v w') (hM:M w w') :
  Inv P ops n Y M R w0 a0 (lf.setIfInBounds i true) (a.put o.dst v) w' (fun j=>if j=i then some ⟨v,w,w'⟩ else h j):=by
 have his:=(Array.getElem?_eq_some_iff.1 ho).1;have hun:=(mem_ready.1 hi).1
 have hn:h i=none:=by
  have:=I.listed i hin
  rw[hun] at this;exact Option.not_isSome_iff_eq_none.1 (by rw[←this];simp)
 have hsel:∀cs b,o.op≠.select cs b:=fun cs b=>Region.noSelect_spec hS.sel i o cs b ho
 have hval:val (fun j=>if j=i then some ⟨v,w,w'⟩ else h j)=upd (val h) i v:=by
  funext j;by_cases e:j=i <;> simp[val,upd,e]
 have hdeps:∀j r,h j=some r→deps ops (fun j=>if j=i then some ⟨v,w,w'⟩ else h j) j=deps ops h j:=fun j r hj=>by
  funext m
  unfold deps
  by_cases e:depB ops j m=true
  ·rw[if_pos e,if_pos e,hval]
   obtain⟨rm,h1,_⟩:=I.waits j r hj m (dep_lt hS e) (dep_waits e)
   have:m≠i:=fun e'=>by subst e';rw[hn] at h1;cases h1
   simp[upd,this]
  ·rw[if_neg e,if_neg e]
 have hdepi:∀m,deps ops (fun j=>if j=i then some ⟨v,w,w'⟩ else h j) i m=deps ops h i m:=fun m=>by
  unfold deps
  by_cases e:depB ops i m=true
  ·have:=dep_lt hS e
   rw[if_pos e,if_pos e,hval];simp[upd,show m≠i by omega]
  ·rw[if_neg e,if_neg e]
 refine⟨by simp[I.size],fun j hj=>?_,fun j hj hjs=>?_,I.closed.next' hi,fun j hj=>?_,?_,htr _ _ _ I.now hM,fun j r hj=>?_,fun j r hj m hm hw=>?_,fun j r hj o' ho' c hc=>?_,fun p q rp rq hp hq hne=>?_⟩
 ·by_cases e:j=i
  ·subst e
   have:j<lf.size:=by rw[I.size];exact his
   simp[this]
  ·rw[getD_set_ne true (Ne.symm e)];simp[e,I.listed j hj]
 ·rw[getD_set_ne true (by omega)];exact I.high j hj hjs
 ·simp[show j≠i by omega,I.out j hj]
 ·rw[hval,actN_set (by simp[val,hn]) n hin fun j hij hj hne d hd=>?_,←I.act]
  ·simp[dstOf,ho]
  ·refine hS.writes i j hij hj ?_ d hd
   cases h1:depB ops j i with
   | false=>rfl
   | true=>
    cases hj2:h j with
    | none=>simp[val,hj2] at hne
    | some rj=>
     obtain⟨ri,h2,_⟩:=I.waits j rj hj2 i hij (dep_waits h1);rw[hn] at h2;cases h2
 ·by_cases e:j=i
  ·simp only[e,if_true,Option.some.injEq] at hj;subst hj;exact⟨I.now,hrefl _⟩
  ·simp only[e,if_false] at hj
   have:=I.begun j r hj
   exact⟨this.1,htr _ _ _ this.2 hM⟩
 ·by_cases e:j=i
  ·subst e
   simp only[if_true,Option.some.injEq] at hj;subst hj;obtain⟨rm,h1⟩:=hw8 m hm hw;exact⟨rm,by simp[show m≠j by omega,h1],(I.begun m rm h1).2⟩
  ·simp only[e,if_false] at hj
   obtain⟨rm,h1,h2⟩:=I.waits j r hj m hm hw
   have:m≠i:=fun e'=>by subst e';rw[hn] at h1;cases h1
   exact⟨rm,by simp[this,h1],h2⟩
 ·by_cases e:j=i
  ·subst e
   simp only[if_true,Option.some.injEq] at hj;subst hj;rw[ho] at ho';cases ho';rw[actN_congr (h':=deps ops h j) n fun m _=>hdepi m] at hc;exact hO.agree hsel ((hc.trans (agree_now hS I hin hn ho).symm).symm)
  ·simp only[e,if_false] at hj
   rw[hdeps j r hj] at hc;exact I.gave j r hj o' ho' c hc
 ·by_cases e:p=i <;> by_cases e':q=i
  ·exact absurd (e.trans e'.symm) hne
  ·simp only[e,e',if_true,if_false,Option.some.injEq] at hp hq
   subst hp;exact .inr (I.begun q rq hq).2
  ·simp only[e,e',if_true,if_false,Option.some.injEq] at hp hq
   subst hq;exact .inl (I.begun p rp hp).2
  ·simp only[e,e',if_false] at hp hq
   exact I.chain p q rp rq hp hq hne
theorem rg_any (hS:Shape ops n Z Y) (hrefl:∀w,M w w) (htr:∀a b c,M a b→M b c→M a c) (hQ:∀c a d v w,Q (.panic c) (Act.put a d v) w→Q (.panic c) a w)
  (hT:tree P ops n Z M R w0 (fun a w=>wpList P ops Q (tailL Y n (ops.toList.drop n)) a w) 0 (ops.toList.take n) a0 [] []) :
  ∀(fuel:Nat) (lf:Array Bool) (a:Act) (w:World) (h:Nat→Option Rec),cnt lf n+(tailL Y n (ops.toList.drop n)).length≤fuel→Inv P ops n Y M R w0 a0 lf a w h→wpAny P .any ops Q fuel lf a w:=by
 intro fuel
 have finish:∀(fuel:Nat) (lf:Array Bool) (a:Act) (w:World) (h:Nat→Option Rec),(tailL Y n (ops.toList.drop n)).length≤fuel→Inv P ops n Y M R w0 a0 lf a w h→(∀j,j<n→lf.getD j true=true)→wpAny P .any ops Q fuel lf a w:=by
  intro fuel lf a w h hf I hall;refine tail_anyY hS.ok (ops.size-n) n lf a w fuel (le_ _) (by have:=hS.le;omega) hf ⟨I.size,fun i hi=>?_⟩ I.closed ?_
  ·by_cases e:i<n
   ·rw[hall i e];simp[e]
   ·rw[I.high i (by omega) hi];simp[e]
  ·obtain⟨r,E,S,z,hE,hSl,hr1,hr2,hr3,hz,hEz,ht⟩:=replay hS hrefl htr hT I n (le_ _)
   have hd :(ops.toList.take n).drop n=[]:=List.drop_eq_nil_of_le (by simp;omega);rw[hd] at ht
   have hdone:∀j,j<n→∃rec,h j=some rec:=fun j hj=>by
    have:=I.listed j hj
    rw[hall j hj] at this;exact Option.isSome_iff_exists.1 this.symm
   have he:actN ops a0 r n=a:=by
    rw[I.act]
    refine actN_congr n fun j hj=>?_
    obtain⟨rec,h1⟩:=hdone j hj;rw[(hr3 j rec hj h1).1,val,h1];rfl
   rw[he] at ht;refine ht w I.now (fun j hj=>?_) (fun i j hi hj hne=>?_)
   ·obtain⟨rec,h1⟩:=hdone j hj
    rcases(hr3 j rec hj h1).2 with⟨e,_⟩ |⟨e,_⟩
    ·rw[e];exact(I.begun j rec h1).2
    ·rw[e];exact I.now
   ·obtain⟨ri,h1⟩:=hdone i hi
    obtain⟨rj,h2⟩:=hdone j hj
    rcases(hr3 i ri hi h1).2 with⟨e1,e2⟩ |⟨e1,e2⟩ <;> rcases(hr3 j rj hj h2).2 with⟨e3,e4⟩ |⟨e3,e4⟩ <;> rw[e1,e2,e3,e4]
    ·exact I.chain i j ri rj h1 h2 hne
    ·exact .inr (I.begun i ri h1).1
    ·exact .inl (I.begun j rj h2).1
    ·exact .inl (hrefl _)
 induction fuel with
 | zero=>
  intro lf a w h hf I
  refine finish 0 lf a w h (by omega) I fun j hj=>?_
  cases hv:lf.getD j true with
  | true=>rfl
  | false=>have:=cnt_pos hv n hj;omega
 | succ fuel ih=>
  intro lf a w h hf I
  by_cases hall:∀j,j<n→lf.getD j true=true
  ·exact finish _ lf a w h (by omega) I hall
  ·have hex:∃i0,i0<n∧lf.getD i0 true=false:=by
    refine Classical.byContradiction fun hc=>hall fun j hj=>?_
    cases hv:lf.getD j true with
    | true=>rfl
    | false=>exact absurd ⟨j,hj,hv⟩ hc
   have hleast:∃i0,i0<n∧i0∈Region.ready .any ops lf:=by
    refine Classical.byContradiction fun hc=>?_
    have key:∀i,i<n→lf.getD i true=true:=by
     intro i
     induction i using Nat.strongRecOn with
     | _ i ihi=>
      intro hi;have hlt:i<ops.size:=ll_ hi hS.le
      cases hv:lf.getD i true with
      | true=>rfl
      | false=>
       refine absurd ⟨i,hi,mem_ready.2 ⟨hv,_,Array.getElem?_eq_getElem hlt,fun e he hb=>?_⟩⟩ hc;have hb':=backY hS.ok (Array.getElem?_eq_getElem hlt) e he hb;rw[getT I.size (by omega)];exact ihi e.on hb' (by omega)
    obtain⟨i0,h1,h2⟩:=hex;rw[key i0 h1] at h2;cases h2
   -- what is known of an operation that may come up
   have have8:∀i o,i<n→ops[i]?=some o→i∈Region.ready .any ops lf→∀j,j<i→waitsB ops 8 i j=true→∃rj,h j=some rj:=fun i o hin ho hi j hj hw=>by
    obtain⟨_,o',ho',hdep⟩:=mem_ready.1 hi;rw[ho] at ho';cases ho';have h1:=reach I.closed 8 i j o ho hdep hw
    have:=(Array.getElem?_eq_some_iff.1 ho).1
    rw[getT I.size (by omega),I.listed j (by omega)] at h1;exact Option.isSome_iff_exists.1 h1
   by_cases hnz:∃i0,i0<n∧Z.getD i0 false=false∧lf.getD i0 true=false
   ·obtain⟨i1,_,hi1⟩:=hleast
    refine⟨fun h0=>(by rw[h0] at hi1;cases hi1),fun i hi=>?_⟩;obtain⟨hun,o,ho,hdep⟩:=mem_ready.1 hi;have his:=(Array.getElem?_eq_some_iff.1 ho).1
    have hin:i<n:=by
     rcases Nat.lt_or_ge i n with h'|h'
     ·exact h'
     ·exfalso
      obtain⟨i0,h1,h3,h2⟩:=hnz
      have:=waitsY hS.ok I.closed ho h' (by rw[←I.high i h' his];exact hun) (show i0<i by omega) (fun _=>h3) (hS.head i0 h1) hdep
      rw[getT I.size (by omega),h2] at this;cases this
    have hn:h i=none:=by
     have:=I.listed i hin
     rw[hun] at this;exact Option.not_isSome_iff_eq_none.1 (by rw[←this];simp)
    have hw8:=have8 i o hin ho hi;obtain⟨r,E,S,z,hE,hSl,hr1,hr2,hr3,hz,hEz,ht⟩:=replay hS hrefl htr hT I i (by omega)
    have hoo:ops[i]=o:=by rw[Array.getElem?_eq_getElem his] at ho;exact Option.some.inj ho
    have hdrop :(ops.toList.take n).drop i=o::(ops.toList.take n).drop (i+1):=by
     rw[List.drop_eq_getElem_cons (by simp;omega)];simp[hoo]
    rw[hdrop] at ht
    have hsel:∀cs b,o.op≠.select cs b:=fun cs b=>Region.noSelect_spec hS.sel i o cs b ho
    have hag:Agree (o.looksAt ops) (actN ops a0 r n) a:=by
     refine(agree_text hS hin ho hr1 fun j hj=>?_).trans (agree_now hS I hin hn ho).symm;obtain⟨rj,h1⟩:=hw8 j (dep_lt hS hj) (dep_waits hj);rw[(hr3 j rj (dep_lt hS hj) h1).1,val,h1];rfl
    -- the step, and that the world moves on
    have hstep:∃K:Act→World→Prop,stepG P ops R i o (actN ops a0 r n) w K∧∀a' w',K a' w'→M w w':=by
     rcases ht with⟨v,h1,_⟩ |⟨_,h1⟩
     ·exact⟨_,h1 w,fun a' w' hk=>by rw[hk.2];exact hrefl w⟩
     ·refine⟨_,h1 w I.now fun j hj hw=>?_,fun a' w' hk=>hk.1⟩
      obtain⟨rj,h2⟩:=hw8 j hj hw
      rcases(hr3 j rj hj h2).2 with⟨e,_⟩ |⟨e,_⟩
      ·rw[e];exact(I.begun j rj h2).2
      ·rw[e];exact I.now
    obtain⟨K,hst,hK⟩:=hstep;refine wpOp_mono (fun a' w' hk=>?_) (hst.wpOp (Q:=Q) ho hsel hag);obtain⟨v,rfl,hO⟩:=hk;have hM:M w w':=hK _ _ (hst.use (hO.agree hsel hag.symm));exact ih _ _ _ _ (by have:=cnt_set (lf:=lf) (by rw[I.size];exact his) hun n hin;omega) (I.step hS hrefl htr hin hi ho hw8 hO hM)
   ·-- what is left of the head needs no memory: it is taken at once
    obtain⟨i,hin,hi⟩:=hleast;obtain⟨hun,o,ho,hdep⟩:=mem_ready.1 hi;have his:=(Array.getElem?_eq_some_iff.1 ho).1
    have hZi:Z.getD i false=true:=by
     cases hv:Z.getD i false with
     | true=>rfl
     | false=>exact absurd ⟨i,hin,hv,hun⟩ hnz
    have hn:h i=none:=by
     have:=I.listed i hin
     rw[hun] at this;exact Option.not_isSome_iff_eq_none.1 (by rw[←this];simp)
    have hw8:=have8 i o hin ho hi;obtain⟨r,E,S,z,hE,hSl,hr1,hr2,hr3,hz,hEz,ht⟩:=replay hS hrefl htr hT I i (by omega)
    have hoo:ops[i]=o:=by rw[Array.getElem?_eq_getElem his] at ho;exact Option.some.inj ho
    have hdrop :(ops.toList.take n).drop i=o::(ops.toList.take n).drop (i+1):=by
     rw[List.drop_eq_getElem_cons (by simp;omega)];simp[hoo]
    rw[hdrop] at ht
    have hsel:∀cs b,o.op≠.select cs b:=fun cs b=>Region.noSelect_spec hS.sel i o cs b ho
    have hag:Agree (o.looksAt ops) (actN ops a0 r n) a:=by
     refine(agree_text hS hin ho hr1 fun j hj=>?_).trans (agree_now hS I hin hn ho).symm;obtain⟨rj,h1⟩:=hw8 j (dep_lt hS hj) (dep_waits hj);rw[(hr3 j rj (dep_lt hS hj) h1).1,val,h1];rfl
    rcases ht with⟨v,h1,hy,_⟩ |⟨h2,_⟩
    ·have hy':Yields P ops o v a:=(hy hZi).of_same (hag.exec hsel).symm hag.wanted.symm
     have hp:plainOp o.op=true:=by
      have:=hS.vop i o hin hZi ho
      revert this
      cases o.op <;> simp[vOp,plainOp]
     have hO:Out P ops R i o a w v w:=by
      unfold Out
      rcases hy' with⟨hw,hr⟩ |⟨hw,rfl⟩
      ·rw[if_pos hw,if_pos hp];exact .inl (hr w)
      ·rw[if_neg (by rw[hw];simp)];exact⟨rfl,rfl⟩
     refine wpAny_first ho (Region.noSelect_spec hS.sel) (fun c a w=>hQ c a o.dst v w) fuel lf a w (fun j oj hoj hji hju hno=>?_) hi hy' ?_
     ·refine hS.lone i j o oj hin hZi ho hoj hji ?_ ?_
      rotate_left
      ·rw[Bool.eq_false_iff]
       intro hd;unfold depB at hd;simp only[ho] at hd;obtain⟨e,he,hb⟩:=Array.any_eq_true'.1 hd;simp only[Bool.and_eq_true,beq_iff_eq] at hb;have h9:=hdep e he hb.1;rw[hb.2,getT I.size (Array.getElem?_eq_some_iff.1 hoj).1,hju] at h9;cases h9
      unfold depB;simp only[hoj];rw[Bool.eq_false_iff];intro hd;obtain⟨e,he,hb⟩:=Array.any_eq_true'.1 hd;simp only[Bool.and_eq_true,beq_iff_eq] at hb;exact hno e he hb.1 hb.2
     ·exact ih _ _ _ _ (by have:=cnt_set (lf:=lf) (by rw[I.size];exact his) hun n hin;omega) (I.step hS hrefl htr hin hi ho hw8 hO (hrefl w))
    ·rw[hZi] at h2;cases h2
theorem Ks_ (lf:Array Bool):∀k,cnt lf k≤k
 | 0=>le_ _
 | k+1=>by have:=Ks_ lf k;simp only[cnt];split <;> omega
theorem wpAny_rg {a:Act} {w:World} {l:List Oper} {listed:Array Bool} {fuel:Nat} (n:Nat) (Z Y:Array Bool) (M:World→World→Prop) (R:Nat→Array Value→World→Value→World→Prop)
  (hB:rgB l.toArray n Z Y=true) (hl :((List.range l.length).all fun j=>listed.getD j true==(decide (n≤j)&&Y.getD j false))=true) (hsz:listed.size=l.length) (hcl:closedB l.toArray listed=true) (hf:n+(tailL Y n (l.drop n)).length≤fuel)
  (hrefl:∀w,M w w) (htr:∀a b c,M a b→M b c→M a c) (hQ:∀c (a:Act) (d:Tmp) v w,Q (.panic c) ⟨a.tmps.setIfInBounds d v,a.defers⟩ w→Q (.panic c) a w)
  (h:tree P l.toArray n Z M R w (fun a' w'=>wpList P l.toArray Q (tailL Y n (l.drop n)) a' w') 0 (l.take n) a [] []):wpAny P .any l.toArray Q fuel listed a w:=by
 have hS:=shape_of hB;have hle:n≤l.toArray.size:=hS.le
 have hls:∀j,j<l.toArray.size→listed.getD j true =(decide (n≤j)&&Y.getD j false):=fun j hj=>by
  have:=List.all_eq_true.1 hl j (List.mem_range.2 (by simpa using hj))
  simpa using this
 refine rg_any (w0:=w) (a0:=a) (Y:=Y) hS hrefl htr (fun c a d v w hq=>by cases d with|none=>exact hq|some d=>exact hQ c a d v w hq) (by simpa using h) fuel listed a w (fun _=>none) ?_ ?_
 ·have:=Ks_ listed n
  simp only at hf ⊢
  omega
 ·refine⟨by simpa using hsz,fun j hj=>?_,fun j hj hjs=>?_,closed_of hcl,fun _ _=>rfl,?_,hrefl _,fun j r hj=>(by cases hj),fun j r hj=>(by cases hj),fun j r hj=>(by cases hj),fun i j ri rj hi=>(by cases hi)⟩
  ·rw[hls j (by omega)];simp;omega
  ·rw[hls j hjs];simp[hj]
  ·exact(actN_stop (h:=val fun _=>none) (k:=0) (fun _ _=>rfl) n (by omega)).symm
theorem tailL_none:∀(k:Nat) (l:List Oper),tailL #[] k l=l
 | _,[]=>rfl
 | k,o::l=>by simp[tailL,tailL_none (k+1) l]
theorem wp_region_rgZ {id:Nat} {a:Act} {w:World} {l:List Oper} (n:Nat) (Z:Array Bool) (M:World→World→Prop) (R:Nat→Array Value→World→Value→World→Prop)
  (hm:P.follows .mixedOrders=true) (hB:rgB l.toArray n Z #[]=true) (hrefl:∀w,M w w) (htr:∀a b c,M a b→M b c→M a c) (hQ:∀c (a:Act) (d:Tmp) v w,Q (.panic c) ⟨a.tmps.setIfInBounds d v,a.defers⟩ w→Q (.panic c) a w)
  (h:tree P l.toArray n Z M R w.drew (fun a' w'=>wpList P l.toArray Q (l.drop n) a' w') 0 (l.take n) a [] []) :(Code.region id l.toArray true).wp P Q a w:=by
 have hS:=shape_of hB;have hle:n≤l.toArray.size:=hS.le
 have hrep:∀j,j<l.length→(Array.replicate l.toArray.size false).getD j true=false:=fun j hj=>by
  simp[hj]
 refine wp_region_any hm (wpAny_rg (w:=w.drew) n Z #[] M R hB ?_ (by simp) ?_ ?_ hrefl htr hQ ?_)
 ·refine List.all_eq_true.2 fun j hj=>?_
  rw[hrep j (List.mem_range.1 hj)]
  simp
 ·refine List.all_eq_true.2 fun j hj=>?_
  have:j<l.length:=by simpa using hj
  split
  ·rfl
  ·simp[this]
 ·rw[tailL_none];simp;simp at hle;omega
 ·simpa [tailL_none] using h
variable {Qt:Act→World→Prop} {k:Nat} {o:Oper} {rest:List Oper} {E S:List World}
theorem tree_nil (h:∀w,M w0 w→RowKit.Hid (∀j,j<n→M (E.getD j w0) w)→RowKit.Hid (∀i j,i<n→j<n→i≠j→M (E.getD i w0) (S.getD j w0)∨M (E.getD j w0) (S.getD i w0))→Qt a w):tree P ops n Z M R w0 Qt k [] a E S:=
 fun w h0 h1 h2=>h w h0 (hh_ h1) (hh_ h2)
theorem tree_op (hZ:Z.getD k false=false) (hp:plainOp o.op=true) (h:∀w,M w0 w→RowKit.Hid (∀j,j<k→waitsB ops 8 k j=true→M (E.getD j w0) w) →
  wpList P ops (fun e a' w'=>e=.normal∧M w w'∧tree P ops n Z M R w0 Qt (k+1) rest a' (E++[w']) (S++[w])) [o] a w):tree P ops n Z M R w0 Qt k (o::rest) a E S:=by
 refine .inr ⟨hZ,fun w h0 h1=>?_⟩;have h2:=h w h0 (hh_ h1);unfold stepG;unfold wpList at h2
 split
 ·rename_i hw
  rw[if_pos hw] at h2
  rcases h2 with h2 |⟨_,⟨_,_,h3,_⟩⟩
  ·obtain⟨v,w',hg,hk⟩:=wp_gives hp (Oper.wp_mono (K':=fun a' w'=>M w w'∧tree P ops n Z M R w0 Qt (k+1) rest a' (E++[w']) (S++[w])) (fun a' w' hk=>hk.2) (show o.wp P a w (wpList P ops (fun e a' w'=>e=.normal∧M w w'∧tree P ops n Z M R w0 Qt (k+1) rest a' (E++[w']) (S++[w])) []) (fun _ _ _=>False) from by
    have hv:=plain_valued (P:=P) hp a.eval w;unfold Oper.wp at h2 ⊢;generalize (execOp a.eval o).run P w=r at *
    cases r with
    | ok m w'=>cases m <;> first|exact hv.elim|exact h2
    | halt x w'=>cases x <;> first|exact h2.elim|exact(nomatch h2.1)))
   exact gives_wp hg hk
  ·cases h3
 ·rename_i hw
  rw[if_neg hw] at h2;exact h2.2
theorem tree_call (hZ:Z.getD k false=false) (hp:plainOp o.op=false) (hg:o.guard=none) (h:∀w,M w0 w→RowKit.Hid (∀j,j<k→waitsB ops 8 k j=true→M (E.getD j w0) w) →
  callSpec P o a w (R k (argsOf o a) w)∧∀v w',R k (argsOf o a) w v w'→M w w'∧tree P ops n Z M R w0 Qt (k+1) rest (a.put o.dst v) (E++[w']) (S++[w])):tree P ops n Z M R w0 Qt k (o::rest) a E S:=by
 refine .inr ⟨hZ,fun w h0 h1=>?_⟩;unfold stepG;rw[if_pos (by simp[Region.wanted,hg]),if_neg (by simp[hp])];exact h w h0 (hh_ h1)
theorem tree_callG (hZ:Z.getD k false=false) (hp:plainOp o.op=false) (hg:Region.wanted o (yielded ops a.tmps)=true) (h:∀w,M w0 w→RowKit.Hid (∀j,j<k→waitsB ops 8 k j=true→M (E.getD j w0) w) →
  callSpec P o a w (R k (argsOf o a) w)∧∀v w',R k (argsOf o a) w v w'→M w w'∧tree P ops n Z M R w0 Qt (k+1) rest (a.put o.dst v) (E++[w']) (S++[w])):tree P ops n Z M R w0 Qt k (o::rest) a E S:=by
 refine .inr ⟨hZ,fun w h0 h1=>?_⟩;unfold stepG;rw[if_pos hg,if_neg (by simp[hp])];exact h w h0 (hh_ h1)
theorem tree_quiet:∀(m:Nat) {k:Nat} {l:List Oper} {a:Act} {E S:List World},((l.take m).all fun o=>plainOp o.op)=true→(Z.size=0∨((l.take m).all fun o=>vOp o.op)=true) →
  wpQuiet P ops (fun _=>True) (fun a'=>tree P ops n Z M R w0 Qt (k+(l.take m).length) (l.drop m) a' (E++List.replicate (l.take m).length w0) (S++List.replicate (l.take m).length w0)) (l.take m) a→tree P ops n Z M R w0 Qt k l a E S
 | 0,k,l,a,E,S,_,_,h=>by simpa [wpQuiet] using h
 | m+1,k,[],a,E,S,_,_,h=>by simpa [wpQuiet] using h
 | m+1,k,o::l,a,E,S,hp,hvv,h=>by
  simp only[List.take_succ_cons,List.all_cons,Bool.and_eq_true] at hp hvv
  have hE:∀X:List World,X++List.replicate ((l.take m).length+1) w0 =(X++[w0])++List.replicate (l.take m).length w0:=fun X=>by
   rw[List.replicate_succ];simp
  have hk:k+((l.take m).length+1) =(k+1)+(l.take m).length:=by omega
  simp only[List.take_succ_cons,List.drop_succ_cons,lc_,hE,hk] at h
  have hZ0:Z.getD k false=true→vOp o.op=true:=fun hz=>by
   rcases hvv with hv|hv
   ·simp[hv] at hz
   ·exact hv.1
  unfold wpQuiet at h
  split at h
  ·rename_i hw
   obtain⟨v,h1,h2⟩:=h
   have h4:∀w,vOp o.op=true→(execOp a.eval o).run P w=.ok (.value v) w:=fun w hvo=>by
    have h3:=h1 w trivial;have hv:=plain_valued (P:=P) hp.1 a.eval w;have hns:=noSkip (P:=P) hvo a.eval w;unfold Oper.quietAt at h3;generalize (execOp a.eval o).run P w=r at *
    cases r with
    | ok mm w'=>
     cases mm <;> first|exact hv.elim|skip
     case value u=>obtain⟨rfl,rfl⟩:=h3;rfl
     case skip=>exact absurd rfl (hns w')
    | halt x w'=>exact(h3:False).elim
   refine .inl ⟨v,fun w=>?_,fun hz=>.inl ⟨hw,fun w=>h4 w (hZ0 hz)⟩,tree_quiet m hp.2 (hvv.imp id fun x=>x.2) h2⟩;unfold stepG;rw[if_pos hw,if_pos hp.1];have h3:=h1 w trivial;have hv:=plain_valued (P:=P) hp.1 a.eval w;unfold Oper.quietAt at h3;unfold Oper.wp;generalize (execOp a.eval o).run P w=r at *
   cases r with
   | ok mm w'=>
    cases mm <;> first|exact hv.elim|skip
    case value u=>obtain⟨rfl,rfl⟩:=h3;exact⟨rfl,rfl⟩
    case skip=>obtain⟨rfl,rfl⟩:=h3;exact⟨rfl,rfl⟩
   | halt x w'=>exact(h3:False).elim
  ·rename_i hw
   refine .inl ⟨undef,fun w=>?_,fun _=>.inr ⟨by simpa using hw,rfl⟩,tree_quiet m hp.2 (hvv.imp id fun x=>x.2) h⟩;unfold stepG;rw[if_neg hw];exact⟨rfl,rfl⟩
end
end Rg
theorem tq_ {P:Program} {ops:Array Oper} {n:Nat} {Z:Array Bool} {M:World→World→Prop} {R:Nat→Array Value→World→Value→World→Prop} {w0:World} {Qt:Act→World→Prop} (m:Nat) {k k':Nat} {l l1 l2:List Oper} {a:Act} {E S E' S':List World}
  (h:wpQuiet P ops (fun _=>True) (fun a'=>Rg.tree P ops n Z M R w0 Qt k' l2 a' E' S') l1 a)
  (q1:l.take m=l1:=by simp only[ts_];exact rfl) (q2:l.drop m=l2:=by simp only[ts_];exact rfl) (qk:k+(l.take m).length=k':=by simp only[ts_,Nat.reduceAdd];exact rfl)
  (qE:E++List.replicate (l.take m).length w0=E':=by simp only[ts_];exact rfl) (qS:S++List.replicate (l.take m).length w0=S':=by simp only[ts_];exact rfl)
  (h1 :((l.take m).all fun o=>Rg.plainOp o.op)=true:=by rfl) (h2 :(Z.size=0∨((l.take m).all fun o=>Rg.vOp o.op)=true):=by first|exact Or.inl rfl|exact Or.inr rfl):Rg.tree P ops n Z M R w0 Qt k l a E S:=by
 subst q1;subst q2;subst qk;subst qE;subst qS;exact Rg.tree_quiet m h1 h2 h
theorem to_ {P:Program} {ops:Array Oper} {n:Nat} {Z:Array Bool} {M:World→World→Prop} {R:Nat→Array Value→World→Value→World→Prop} {w0:World} {Qt:Act→World→Prop} {k:Nat} {o:Oper} {l:List Oper} {a:Act} {E S:List World}
  (h:∀w,M w0 w→RowKit.Hid (∀j,j<k→Tail.waitsB ops 8 k j=true→M (E.getD j w0) w)→wpList P ops (fun e a' w'=>e=.normal∧M w w'∧Rg.tree P ops n Z M R w0 Qt (k+1) l a' (E++[w']) (S++[w])) [o] a w) (hZ:Z.getD k false=false:=by rfl) (hp:Rg.plainOp o.op=true:=by rfl):Rg.tree P ops n Z M R w0 Qt k (o::l) a E S:=Rg.tree_op hZ hp h
theorem ts_ {α:Type} :(∀l:List α,l.take 0=[])∧(∀n,([]:List α).take n=[])∧(∀n (a:α) l,(a::l).take (n+1)=a::l.take n)∧(∀l:List α,l.drop 0=l)∧(∀n (a:α) l,(a::l).drop (n+1)=l.drop n)∧(∀(a:α) l,(a::l).length=l.length+1)∧([]:List α).length=0∧(∀a:α,List.replicate 0 a=[])∧(∀n (a:α),List.replicate (n+1) a=a::List.replicate n a)∧(∀(a:α) l m,(a::l)++m=a::(l++m))∧∀m:List α,[]++m=m:=by simp[List.replicate]
theorem pt_ :(∀(a:Act) d v,a.put (some d) v={ a with tmps:=a.tmps.setIfInBounds d v })∧(∀(a:Act) v,a.put none v=a)∧(∀(l:List Value) i v,l.toArray.setIfInBounds i v =(l.set i v).toArray)∧(∀(a:Value) l v,(a::l).set 0 v=v::l)∧∀(a:Value) l n v,(a::l).set (n+1) v=a::l.set n v:=⟨fun _ _ _=>rfl,fun _ _=>rfl,fun _ _ _=>by simp,fun _ _ _=>rfl,fun _ _ _ _=>rfl⟩
theorem rn_ {P:Program} {Q:Exit→Act→World→Prop} {id:Nat} {a:Act} {w:World} {l:List Oper} (n:Nat) (R:Nat→Array Value→World→Value→World→Prop)
  (h:Rg.tree P l.toArray n #[] (fun w w'=>World.grownBy w w' none) R w.drew (fun a' w'=>wpList P l.toArray Q (l.drop n) a' w') 0 (l.take n) a [] [])
  (hm:P.follows .mixedOrders=true:=by kernel_rfl) (hB:Rg.rgB l.toArray n #[] #[]=true:=by kernel_rfl) (hQ:∀c (a:Act) (d:Tmp) v w,Q (.panic c) ⟨a.tmps.setIfInBounds d v,a.defers⟩ w→Q (.panic c) a w:=by exact fun _ _ _ _ _ h=>h) :(Code.region id l.toArray true).wp P Q a w:=
 Rg.wp_region_rgZ n #[] (fun w w'=>World.grownBy w w' none) R hm hB (fun w=>Ab_ w none) (fun _ _ _ h k=>Aa_ h k) hQ h
theorem tc_ {P:Program} {ops:Array Oper} {n:Nat} {Z:Array Bool} {M:World→World→Prop} {R:Nat→Array Value→World→Value→World→Prop} {w0:World} {Qt:Act→World→Prop} {k:Nat} {o:Oper} {l:List Oper} {a:Act} {E S:List World}
  (h:∀w,M w0 w→RowKit.Hid (∀j,j<k→Tail.waitsB ops 8 k j=true→M (E.getD j w0) w)→Rg.callSpec P o a w (R k (Rg.argsOf o a) w)∧∀v w',R k (Rg.argsOf o a) w v w'→M w w'∧Rg.tree P ops n Z M R w0 Qt (k+1) l (a.put o.dst v) (E++[w']) (S++[w]))
  (hZ:Z.getD k false=false:=by rfl) (hp:Rg.plainOp o.op=false:=by rfl) (hg:o.guard=none:=by rfl):Rg.tree P ops n Z M R w0 Qt k (o::l) a E S:=Rg.tree_call hZ hp hg h
theorem ra_ {P:Program} {Q:Exit→Act→World→Prop} {a:Act} {w:World} {l:List Oper} {f:Nat} {Y:Array Bool} (n:Nat) (lf:Array Bool)
  (h:Rg.tree P l.toArray n #[] (fun w w'=>World.grownBy w w' none) (fun _ _ _ _ _=>False) w (fun a' w'=>wpList P l.toArray Q (Rg.tailL lf n (l.drop n)) a' w') 0 (l.take n) a [] [])
  (hB:Rg.rgB l.toArray n #[] lf=true:=by kernel_rfl) (hl :((List.range l.length).all fun j=>Y.getD j true==(decide (n≤j)&&lf.getD j false))=true:=by kernel_rfl) (hsz:Y.size=l.length:=by rfl) (hcl:Tail.closedB l.toArray Y=true:=by kernel_rfl) (hf:n+(Rg.tailL lf n (l.drop n)).length≤f:=by simp only[Rg.tailL,List.drop];decide)
  (hQ:∀c (a:Act) (d:Tmp) v w,Q (.panic c) ⟨a.tmps.setIfInBounds d v,a.defers⟩ w→Q (.panic c) a w:=by exact fun _ _ _ _ _ h=>h):wpAny P .any l.toArray Q f Y a w:=
 Rg.wpAny_rg n #[] lf (fun w w'=>World.grownBy w w' none) (fun _ _ _ _ _=>False) hB hl hsz hcl hf (fun w=>Ab_ w none) (fun _ _ _ h k=>Aa_ h k) hQ h
theorem rz_ {P:Program} {Q:Exit→Act→World→Prop} {id:Nat} {a:Act} {w:World} {l:List Oper} (n:Nat) (Z:Array Bool) (R:Nat→Array Value→World→Value→World→Prop)
  (h:Rg.tree P l.toArray n Z (fun w w'=>World.grownBy w w' none) R w.drew (fun a' w'=>wpList P l.toArray Q (l.drop n) a' w') 0 (l.take n) a [] [])
  (hm:P.follows .mixedOrders=true:=by kernel_rfl) (hB:Rg.rgB l.toArray n Z #[]=true:=by kernel_rfl) (hQ:∀c (a:Act) (d:Tmp) v w,Q (.panic c) ⟨a.tmps.setIfInBounds d v,a.defers⟩ w→Q (.panic c) a w:=by exact fun _ _ _ _ _ h=>h) :(Code.region id l.toArray true).wp P Q a w:=
 Rg.wp_region_rgZ n Z (fun w w'=>World.grownBy w w' none) R hm hB (fun w=>Ab_ w none) (fun _ _ _ h k=>Aa_ h k) hQ h
end
section
open Go.RowKit
theorem Nj_ {w:World} {st e ty:TypeId} {z:Value} {size bytes:Nat} (E:Elt st e z size bytes) {base g:Nat} (hown:w.ownsRow base e size (.slice (some ⟨g,0,none⟩) 0 0) 0 [])
  {A:Option Addr} {m c:Nat} {news:List Value} (hr:Rd w size (.slice A m c) m news) (h1:∀u∈news,u.oneCell'=true) (h63:m≤maxLen) (hb:m*bytes≤140737488355328) (hbase:base≤w.heap.size) :
  ∃v' w',(Builtin.append_ #[st,st] ty #[.slice (some ⟨g,0,none⟩) 0 0,.slice A m c]).run Tryz.prog w=.ok v' w'∧w'.ownsRow base e size v' m news∧w.grownBy w' none∧Lies (.slice (some ⟨g,0,none⟩) 0 0) v' w.heap.size:=by
 obtain⟨i,hi,hz0,hz1,hz2⟩:=info_parts E.info
 rcases Nat.eq_zero_or_pos m with rfl|hm
 ·have hn:news=[]:=List.eq_nil_of_length_eq_zero (by simpa using hr.1)
  subst hn
  have key:∀ad:Addr,∃v' w',(Builtin.append_ #[st,st] ty #[.slice (some ⟨g,0,none⟩) 0 0,.slice (some ad) 0 c]).run Tryz.prog w=.ok v' w'∧v'=.slice (some ⟨g,0,none⟩) 0 0∧w'=w:=by
   intro ad;refine⟨_,_,?_,rfl,rfl⟩
   simp[Builtin.append_,run_underlying E.ht,sizeOf,typeInfo,hi,Builtin.lenOf,Builtin.firstCells,storeCells,loadCells,loadCellsFrom]
  cases A with
  | none=>exact⟨_,w,Eo_ E hown c,hown,World.grownBy.refl w _,.inl rfl⟩
  | some ad=>
   obtain⟨v',w',h,rfl,rfl⟩:=key ad;exact⟨_,_,h,hown,World.grownBy.refl _ _,.inl rfl⟩
 ·rcases hr.2.2 with⟨rfl,_⟩ |⟨g',off,cap,hv,_,hc⟩
  ·omega
  ·cases hv
   obtain⟨v',w',hrun,h2,h3⟩:=run_append_arg_grows (P:=Tryz.prog) w st ty e i z size bytes E.ht hi hz0 hz1 hz2 E.cells E.pos ⟨g,0,none⟩ 0 0 [] (by simp) (by simp) ⟨g',off,none⟩ m c news hr.1 (fun j u hu=>by
    have e :(⟨g',off,none⟩:Addr).add j =⟨g',off+j,none⟩:=by unfold Addr.add;split <;> simp_all
    rw[e];exact hc j u hu) (by omega) (by simpa using h63) (by simpa using hb)
   simp only[Nat.zero_add,List.nil_append] at h2;refine⟨v',w',hrun,⟨h2.1,h2.2.imp id fun⟨g3,cap3,cur3,e1,e2,e3⟩=>⟨g3,cap3,cur3,e1,lt_ hbase e2,e3⟩⟩,h3,?_⟩
   rcases h2.2 with⟨_,h0⟩ |⟨g2,cap2,cur,rfl,hb2,_⟩
   ·omega
   ·exact .inr ⟨g2,rfl,hb2⟩
section
variable {α:Type} {f:α→List Value} {st e:TypeId} {z:Value} {size bytes:Nat} {w:World} {B:Nat} {g:Nat} {l2:List α} {A:Option Addr} {m c:Nat}
variable {o:Oper} {a:Act} {ops:Array Oper} {rest:List Oper} {Q:Exit→Act→World→Prop}
theorem Q4_ (E:Elt st e z size bytes) (h1:∀u∈cellsOf f l2,u.oneCell'=true) (hown:Own f size e B w (.slice (some ⟨g,0,none⟩) 0 0) []) (hr:RdL f size w (.slice A m c) l2) (hm:m=l2.length) (hb:l2.length*bytes≤140737488355328) (h63:l2.length≤9223372036854775807) (hbase:B≤w.heap.size)
  (s x:Operand) (ho:o.op=.call { callee:=.builtin .append,args:=#[s,x],argTypes:=#[st,st] }) (hs:a.eval s=.slice (some ⟨g,0,none⟩) 0 0) (hx:a.eval x=.slice A m c) {K:Act→World→Prop}
  (h:∀v' w',Own f size e B w' v' l2→w.grownBy w' none→Lies (.slice (some ⟨g,0,none⟩) 0 0) v' w.heap.size→K (a.put o.dst v') w'):o.wp Tryz.prog a w K Q:=by
 subst hm;obtain⟨v',w',hrun,h2,h3,h4⟩:=Nj_ (ty:=o.type) E hown hr h1 (by unfold maxLen;exact h63) hb hbase;unfold Oper.wp execOp;simp only[ho,resolve,invoke,builtin,Sem.run_bind,Sem.run_pure,Result.andThen_ok,List.map_toArray,List.map_cons,List.map_nil,hs,hx,hrun];exact h v' w' h2 h3 h4
theorem Xw_ (E:Elt st e z size bytes) (h1:∀u∈cellsOf f l2,u.oneCell'=true) (hown:Own f size e B w (.slice (some ⟨g,0,none⟩) 0 0) []) (hr:RdL f size w (.slice A m c) l2) (hm:m=l2.length) (hb:l2.length*bytes≤140737488355328) (h63:l2.length≤9223372036854775807) (hbase:B≤w.heap.size)
  (hgd:o.guard=none) (s x:Operand) (ho:o.op=.call { callee:=.builtin .append,args:=#[s,x],argTypes:=#[st,st] }) (hs:a.eval s=.slice (some ⟨g,0,none⟩) 0 0) (hx:a.eval x=.slice A m c)
  (h:∀v' w',Own f size e B w' v' l2→w.grownBy w' none→Lies (.slice (some ⟨g,0,none⟩) 0 0) v' w.heap.size→wpList Tryz.prog ops Q rest (a.put o.dst v') w'):wpList Tryz.prog ops Q (o::rest) a w:=
 wpList_plain hgd fun _ hK=>Q4_ E h1 hown hr hm hb h63 hbase s x ho hs hx fun v' w' h2 h3 h4=>hK _ _ (h v' w' h2 h3 h4)
theorem A2_ (E:Elt st e z size bytes) (h1:OneF f) (hown:Own f size e B w (.slice (some ⟨g,0,none⟩) 0 0) []) (hr:RdL f size w (.slice A m c) l2) (hm:m=l2.length) (hb:l2.length*bytes≤140737488355328) (h63:l2.length≤9223372036854775807) (hbase:B≤w.heap.size)
  (hgd:o.guard=none) (s x:Operand) (ho:o.op=.call { callee:=.builtin .append,args:=#[s,x],argTypes:=#[st,st] }) (hs:a.eval s=.slice (some ⟨g,0,none⟩) 0 0) (hx:a.eval x=.slice A m c)
  (h:∀v' w',Own f size e B w' v' l2→w.grownBy w' none→Lies (.slice (some ⟨g,0,none⟩) 0 0) v' w.heap.size→wpList Tryz.prog ops Q rest (a.put o.dst v') w'):wpList Tryz.prog ops Q (o::rest) a w:=
 Xw_ E (h1.cells l2) hown hr hm hb h63 hbase hgd s x ho hs hx h
end
theorem Blk.one {α:Type} {f:α→List Value} {size:Nat} {w:World} {g:Nat} {cs:Array Value} (h:Blk w g cs) (hf:∀x,(f x).length=size) (y:α) (hcs:cs.toList=f y):RdL f size w (.slice (some ⟨g,0,none⟩) 1 1) [y]:=by
 refine⟨by simp[cellsOf,hf],by simp,.inr ⟨g,0,1,rfl,h.lt,fun j u hu=>?_⟩⟩;simp only[cellsOf,List.flatMap_cons,List.flatMap_nil,List.append_nil,←hcs] at hu;rw[Nat.zero_add,h.cell j]
 simpa using hu
end
section
open Go.RowKit
def RetOwn {α:Type} (f:α→List Value) (s:Nat) (e:TypeId) (l:List α) (w:World) (en:Ending) (w':World):Prop:=
 ∃v,en=.returned v∧Own f s e w.heap.size w' v l∧w.grownBy w' none
end
section
def F5_ (n:Nat):List Int:=(List.range n).map (fun i:Nat=>(i:Int))
theorem Qh_ (n:Nat) :(F5_ n).length=n:=by simp[F5_]
theorem G6_ (n:Nat):F5_ (n+1)=F5_ n++[(n:Int)]:=by simp[F5_,List.range_succ]
end
section
open Go.RowKit Go.Sort
theorem Bv_:Elt 27 3 (.int .i64 0) 1 8:=⟨underlying27,by kernel_rfl,rfl,by decide⟩
theorem Bw_:OneF intF:=by intro x u hu;simp[intF] at hu;subst hu;rfl
end
section
open Go.RowKit
attribute [local go_sem ↓] Ag_
attribute [local go_sem] Ah_
def setN (h m:Int) (n:Nat):List Int:=(F5_ n).map (fun i=>(h+i)%m)
theorem Gf_ (h m:Int) (n:Nat) :(setN h m n).length=n:=by simp[setN,Qh_]
theorem Sx_ (h m:Int) (n:Nat):setN h m (n+1)=setN h m n++[(h+n)%m]:=by simp[setN,G6_]
def setF (c:Cfg) (t:List Int) (k:ByteArray):List Int:=setN (S8_ c t k) c.Shards c.Spread.toNat
theorem T9_ (c:Cfg) (h:Int) (w:World) (hc:1≤c.Shards∧c.Shards≤8) (hs:1≤c.Spread∧c.Spread≤c.Shards) (hh:0≤h∧h≤8):Calls Tryz.prog 130 #[c.val,.int .i64 h] w (RetOwn intF 1 3 (setN h c.Shards c.Spread.toNat) w):=by
 obtain⟨h1,h2⟩:=hc;obtain⟨h3,h4⟩:=hs;obtain⟨h5,h6⟩:=hh;obtain⟨N,hN⟩:∃N,c.Spread.toNat=N:=⟨_,rfl⟩
 have hN1:c.Spread≤N:=by omega
 have hN2:N≤8:=by omega
 have hN3:∀k:Nat,k≤N→c.Spread≤(k:Int)→k=N:=by omega
 have HN:=hh_ hN3;rw[hN];clear hN hN3
 go_enter func130,ntmps130
 go_upto_region 3 with(refine Au_ rfl _ rfl c rfl ?_;intro w1 B1 G1 z1)
 go_loopw [5,6] (fun s5 s6 wr=>∃k:Nat,k≤N∧s6=.int .i64 k∧Own intF 1 3 w1.heap.size wr s5 (setN h c.Shards k)∧w1.heap.size≤wr.heap.size∧w.grownBy wr none∧BoxAt wr w.heap.size c) (fun _ s6 _=>N-(RowKit.intOf s6).toNat)
 case atStart=>exact⟨0,zl_ _,rfl,Own.nil _ _ _ _ _,le_ _,G1,B1⟩
 case round=>
  obtain⟨k,hk,rfl,hL,hsz,hg,hB⟩:=hrel;have hrl:=Gf_ h c.Shards k;have b1:=hB.cell
  by_cases hlt :(k:Int)<c.Spread
  ·have hb1 :((setN h c.Shards k).length+1)*8≤140737488355328:=by omega
   have hb2 :(setN h c.Shards k).length+1≤9223372036854775807:=by omega
   have HS:=hh_ (Sx_ h c.Shards k);have hz :(c.Shards==0)=false:=bf_ (by omega)
   have hkN:k<N:=by omega
   clear hrl
   go_wp2_with (at_builtin;refine A6_ Bv_ Bw_ A8_ hL ((h+k)%c.Shards) hb1 hb2 hsz (by rfl) rfl (.tmp 13) (.tmp 20) rfl rfl rfl ?_;intro v1 w1 o1 g1 l1)
   have hB2:=hB.kept g1 (fun e=>by have:=(hL.lt _ e).1;omega);refine⟨⟨k+1,by omega,by go_num,by rw[HS.out];exact o1,lt_ hsz g1.size,Ao_ hg hL (Nat.le_of_lt z1) g1,hB2⟩,by simp[RowKit.intOf];omega⟩
  ·obtain rfl:k=N:=HN.out k hk (by omega)
   clear hk HN hN1
   go_wp2_with fail
   go_ret
   exact⟨_,rfl,hL.base (fun k hk=>lt_ (Nat.le_of_lt z1) (hL.lt k hk).1),hg⟩
theorem Za_ (c:Cfg) (t:List Int) (k:ByteArray) (h:1≤c.Shards):0≤S8_ c t k∧S8_ c t k<c.Shards:=Gb_ _ _ h
theorem a1_ (c:Cfg) (t:List Int) (k:ByteArray) (w:World) (h:RCfg w c t) (hk:k.size≤9223372036854775807):Calls Tryz.prog 121 #[c.val,.string k] w (RetOwn intF 1 3 (setF c t k) w):=by
 have H:=hh_ h;obtain⟨h1,h2⟩:=Za_ c t k h.shards.1;have h3:=h.shards;clear h
 go_enter func121,ntmps121
 go_upto_region 3 with(first |(refine Au_ rfl _ rfl c rfl ?_;intro w1 B1 G1 z1) |(refine Al_ rfl _ rfl _ rfl c (by assumption) ?_) |(go_at_call 110;refine(E8_ c t _ (H.out.same G1)).mono ?_;rintro e w2 ⟨rfl,G2⟩))
 have G:=Aa_ G1 G2;obtain⟨r1,r2,r3⟩:=(B1.same G2).re
 have r4:=Bi_ (w:=w2) fun w' hg=>cf_ c t k w' (H.out.same (Aa_ G hg)) hk
 (refine Tail.wp_region_tail_grown 4 (by kernel_rfl) (by kernel_rfl) ?_;simp only[List.take,List.drop];(repeat(go_big_quiet_step (with_reducible exact r4 _ _)));refine wn_ ?_;rintro _ ⟨⟨d5,os5⟩,rfl⟩)
 have G5:=Aa_ G (A1_ w2 d5 os5);clear r1 r2 r3 r4;generalize Go.Sort.grow (redrawn w2 d5) os5=w5 at *
 go_wp2_with (go_at_call 130;refine(T9_ c _ _ h3 H.out.spread ⟨h1,by omega⟩).mono ?_;rintro e w6 ⟨v,rfl,o6,G6⟩)
 go_ret
 exact⟨v,rfl,o6.base (fun k hk=>lt_ G5.size (o6.lt k hk).1),Aa_ G5 G6⟩
end
section
open Go.RowKit
attribute [local go_sem ↓] Ag_
attribute [local go_sem] Ah_
structure Iv_ (w:World) (v:Value) (vs:List Value) (rows:List (List Int)):Prop where
 rd:RdL valF 1 w v vs
 len:vs.length=rows.length
 all:∀(i:Nat) u row,vs[i]?=some u→rows[i]?=some row→RdL wordF 1 w u row
theorem Iv_.same {w w':World} {v:Value} {vs:List Value} {rows:List (List Int)} (h:Iv_ w v vs rows) (hg:w.grownBy w' none):Iv_ w' v vs rows:=
 ⟨h.rd.same hg,h.len,fun i u row h1 h2=>(h.all i u row h1 h2).same hg⟩
theorem SumRd.rowsRd {w:World} {s:Summ} (h:SumRd w s):Iv_ w s.vr s.vs s.rows:=⟨h.vs,h.len,h.rows⟩
def RowsOk (rows:List (List Int)):Prop:=∀row∈rows,(0<row.length∧row.length≤4096)∧∀x∈row,W64 x
def Km_ (t:List Int) (s:Int) (k:ByteArray) (i:Nat) (row:List Int):Int:=row.getD (slotF (hashF t (seedF s i) k) row.length).toNat 0
def estI (t:List Int) (s:Int) (k:ByteArray) (rows:List (List Int)):Nat→Int
 | 0=>18446744073709551615
 | n+1=>min (estI t s k rows n) (Km_ t s k n (rows.getD n []))
def estF (t:List Int) (s:Int) (k:ByteArray) (rows:List (List Int)):Int:=estI t s k rows rows.length
theorem Yp_ {l:List Int} (h:∀x∈l,W64 x) (i:Nat):W64 (l.getD i 0):=by
 rw[List.getD_eq_getElem?_getD]
 cases hi:l[i]? with
 | none=>exact Dr_
 | some x=>exact h x (mo_ hi)
theorem Xk_:W64 18446744073709551615:=⟨by omega,by omega⟩
theorem N5_ {a b:Int} (h:W64 a) (h':W64 b):W64 (min a b):=by unfold W64 at *;omega
theorem dl_ {t:List Int} {s:Int} {k:ByteArray} {rows:List (List Int)} (h:RowsOk rows) (n:Nat):W64 (estI t s k rows n):=by
 induction n with
 | zero=>exact Xk_
 | succ n ih=>
  refine N5_ ih ?_;unfold Km_;refine Yp_ (fun x hx=>?_) _;rw[List.getD_eq_getElem?_getD] at hx
  cases hi:rows[n]? with
  | none=>rw[hi] at hx;simp at hx
  | some row=>rw[hi] at hx;exact(h row (mo_ hi)).2 x hx
theorem ab_ (v:Value) (vs:List Value) (rows:List (List Int)) (tv:Value) (t:List Int) (s:Int) (k:ByteArray) (w:World) (h:Iv_ w v vs rows) (ho:RowsOk rows) (hn:0<rows.length) (hn2:rows.length≤1000)
  (ht:RdL wordF 1 w tv t) (htl:t.length=16) (hs:W64 s) (hk:k.size≤9223372036854775807) :
  Calls Tryz.prog 199 #[v,tv,.int .u64 s,.string k] w (RetWord (estF t s k rows) w):=by
 obtain⟨a,c,rfl⟩:=h.rd.shape;obtain⟨ta,tc,rfl⟩:=ht.shape;rw[htl] at ht ⊢;have H:=hh_ h;have HT:=hh_ ht;have hlen:=h.len;have Hlen:=hh_ hlen;have Hf:=hh_ (p:=estF t s k rows=estI t s k rows rows.length) rfl
 have hnv:0<vs.length:=by omega
 have hnv2:vs.length≤1000:=by omega
 have hz :((vs.length:Int)==0)=false:=bf_ (by omega);clear h ht hlen
 go_enter func199,ntmps199
 go_wp2_with (go_at_call 147;refine(Gn_ ta tc _).mono ?_;rintro e w' ⟨rfl,rfl⟩)
 go_loopw [9,22] (fun s9 s22 wr=>∃i:Nat,i≤vs.length∧s22=.int .i64 i∧s9=.int .u64 (estI t s k rows i)∧w.grownBy wr none) (fun _ s22 _=>vs.length-(RowKit.intOf s22).toNat)
 case atStart=>exact⟨0,zl_ _,rfl,rfl,Ab_ _ _⟩
 case round=>
  obtain⟨i,hi,rfl,rfl,hg⟩:=hrel
  by_cases hiv:i<vs.length
  ·have hlt:i<rows.length:=by have:=Hlen.out;omega
   obtain⟨g,off,cap,hv,hgl,c1⟩:=(H.out.same hg).rd.one Nt_ hiv;have hrow:=ho _ (mg_ hlt);have hR:=(H.out.same hg).all i vs[i] rows[i] (gq_ hiv) (gq_ hlt);have HE:=hh_ (p:=estI t s k rows (i+1)=min (estI t s k rows i) (Km_ t s k i rows[i])) (by simp[estI,List.getD_eq_getElem?_getD,gq_ hlt]);generalize vs[i]=u at *;generalize rows[i]=row at *;obtain⟨ra,rc,rfl⟩:=hR.shape;obtain⟨⟨hr0,hr1⟩,_⟩:=hrow;have hrz :((row.length:Int)==0)=false:=bf_ (by omega);obtain⟨hb0,hb1⟩:=Gb_ (hashF t (seedF s i) k) row.length (by omega)
   have hb2 :(slotF (hashF t (seedF s i) k) row.length).toNat<row.length:=by omega
   obtain⟨rg,roff,rcap,rv,hrg,c2⟩:=hR.one Ca_ hb2;have HC:=hh_ (p:=Km_ t s k i row=row[(slotF (hashF t (seedF s i) k) row.length).toNat]) (by simp[Km_,List.getD_eq_getElem?_getD,gq_ hb2]);cases rv;have hw1:=Kg_ t (seedF s i) k;cases hv;generalize row[(slotF (hashF t (seedF s i) k) row.length).toNat]=y at *;generalize hhe:hashF t (seedF s i) k=hh at *;have Hhe:=hh_ hhe;clear hhe;generalize hqe:slotF hh row.length=q at *;have Hqe:=hh_ hqe;clear hqe
   go_upto_region 9 with fail
   go_wp2_with (first |(go_at_call 181;refine(Zy_ _ t s i k _ (HT.out.same hg) htl hs (by omega) (by omega) hk).mono ?_;rw[Hhe.out];rintro e w2 ⟨rfl,G2⟩;have c3:=((An_ G2).1 rg (roff+q.toNat) hrg (by simp)).trans c2) |(go_at_call 151;refine(Nn_ hh row.length _ hw1 (by omega) (by omega)).mono ?_;rw[Hqe.out];rintro e w' ⟨rfl,rfl⟩))
   exact⟨⟨i+1,by omega,by go_num,by rw[HE.out,HC.out],Aa_ hg G2⟩,by simp[RowKit.intOf];omega⟩
  ·have he:estI t s k rows i=estF t s k rows:=by rw[Hf.out];congr 1;have:=Hlen.out;omega
   rw[he];clear he
   go_wp2_with fail
   go_ret
   exact Bs_ rfl hg
def sEstF (c:Cfg) (t:List Int) (s:Summ) (k:ByteArray):Int:=if s.rows.length=0 then s.total else estF t c.Seed k s.rows
theorem Op_ {c:Cfg} {t:List Int} {s:Summ} (h:W64 s.total) (ho:RowsOk s.rows) (k:ByteArray):W64 (sEstF c t s k):=by
 unfold sEstF;split
 ·exact h
 ·exact dl_ ho _
theorem dp_ (c:Cfg) (t:List Int) (s:Summ) (k:ByteArray) (w:World) (h:RCfg w c t) (hR:SumRd w s) (ho:RowsOk s.rows) (hn:s.rows.length≤1000) (hk:k.size≤9223372036854775807) :
  Calls Tryz.prog 188 #[c.val,sumV s.total s.ve s.untr s.vr,.string k] w (RetWord (sEstF c t s k) w):=by
 obtain⟨tot,ve,un,vr,es,vs,rows⟩:=s;obtain⟨a1,k1,e1⟩:=hR.es.shape;obtain⟨a2,k2,e2⟩:=hR.vs.shape;have hlen:=hR.len
 simp only at hlen e1 e2 hn ho ⊢
 subst e1;subst e2;have H:=hh_ h;have HR:=hh_ hR.rowsRd;have hs:=h.seed;have htl:=h.tlen;obtain⟨ta,tk,hta⟩:=h.shape;have Hta:=hh_ hta
 by_cases h0:rows.length=0
 ·have hx:sEstF c t ⟨tot,.slice a1 es.length k1,un,.slice a2 vs.length k2,es,vs,rows⟩ k=tot:=by unfold sEstF;rw[if_pos h0]
  have hz :((vs.length:Int)==0)=true:=by rw[beq_iff_eq];omega
  have Hx:=hh_ hx;clear hx h0 hlen hR h htl hta
  go_enter func188,ntmps188
  go_wp2_with (refine Au_ rfl _ rfl c rfl ?_;intro w1 B1 G1 z1)
  go_ret
  exact Bs_ Hx.out (Ad_ G1 _)
 ·have hx:sEstF c t ⟨tot,.slice a1 es.length k1,un,.slice a2 vs.length k2,es,vs,rows⟩ k=estF t c.Seed k rows:=by unfold sEstF;rw[if_neg h0]
  have hz :((vs.length:Int)==0)=false:=bf_ (by omega);have Hx:=hh_ hx;have Hlen:=hh_ hlen;have Htl:=hh_ htl;clear hx hlen hR h htl hta
  go_enter func188,ntmps188
  go_wp2_with (first |(refine Au_ rfl _ rfl c rfl ?_;intro w1 B1 G1 z1;have b2:=fun o=>(B1.same (ga_ w1 o none)).cell) |(go_at_call 199;refine(ab_ _ vs rows c.Table t c.Seed k _ (HR.out.same (Ad_ G1 _)) ho (by omega) hn (H.out.same (Ad_ G1 _)).table Htl.out hs hk).mono ?_;rintro e w3 ⟨rfl,G3⟩))
  go_ret
  exact Bs_ Hx.out (Aa_ (Ad_ G1 _) G3)
end
section
open Go.RowKit
attribute [local go_sem ↓] Ag_
attribute [local go_sem] Ah_
def Hh_ (k:ByteArray) (e:Ent):Bool:=e.key.toList==k.toList
theorem Yr_ {es:List Ent} {k:ByteArray} (h:∀j,(hj:j<es.length)→Hh_ k es[j]=false):es.find? (Hh_ k)=none:=by
 rw[List.find?_eq_none];intro x hx;obtain⟨j,hj,rfl⟩:=List.mem_iff_getElem.1 hx
 simp[h j hj]
theorem Yc_ {es:List Ent} {k:ByteArray} {n:Nat} (hn:n<es.length) (h:∀j,(hj:j<n)→Hh_ k (es[j]'(by omega))=false) (hk:Hh_ k es[n]=true):es.find? (Hh_ k)=some es[n]:=by
 rw[List.find?_eq_some_iff_getElem];exact⟨hk,n,hn,rfl,fun j hj=>by simp[h j hj]⟩
theorem RdL.ent {w:World} {v:Value} {l:List Ent} (h:RdL entF 3 w v l) {k:Nat} (hk:k<l.length):∃g off cap,v=.slice (some ⟨g,off,none⟩) l.length cap∧g<w.heap.size ∧
  w.cell? ⟨g,off+k*3,none⟩=some (.string l[k].key)∧w.cell? ⟨g,off+k*3+1,none⟩=some (.int .u64 l[k].own)∧w.cell? ⟨g,off+k*3+2,none⟩=some (.int .u64 l[k].slack):=by
 obtain⟨g,off,cap,hv,hg,hc⟩:=h.at_ Az_ hk;exact⟨g,off,cap,hv,hg,hc 0 _ rfl,hc 1 _ rfl,hc 2 _ rfl⟩
def bndE (es:List Ent) (un:Int) (k:ByteArray):Int×Int:=match es.find? (Hh_ k) with
 | some e=>(e.own,satA e.own e.slack)
 | none=>(0,un)
def Ip_ (es:List Ent) (k:ByteArray):Bool:=(es.find? (Hh_ k)).isSome
def M1_ (c:Cfg) (t:List Int) (s:Summ) (k:ByteArray):Value:=
 .tuple #[bndV (min (bndE s.es s.untr k).1 (sEstF c t s k)) (min (bndE s.es s.untr k).2 (sEstF c t s k)),.bool (Ip_ s.es k)]
theorem dm_ {es:List Ent} {k:ByteArray} {e:Ent} (un:Int) (h:es.find? (Hh_ k)=some e):bndE es un k =(e.own,satA e.own e.slack)∧Ip_ es k=true:=by
 unfold bndE Ip_;rw[h];exact⟨rfl,rfl⟩
theorem Yq_ {es:List Ent} {k:ByteArray} (un:Int) (h:es.find? (Hh_ k)=none):bndE es un k =(0,un)∧Ip_ es k=false:=by
 unfold bndE Ip_;rw[h];exact⟨rfl,rfl⟩
theorem V3_ (c:Cfg) (t:List Int) (s:Summ) (k:ByteArray) (w:World) (h:RCfg w c t) (hR:SumRd w s) (hW:SumW s) (ho:RowsOk s.rows) (hn:s.rows.length≤1000) (hk:k.size≤9223372036854775807) :
  Calls Tryz.prog 167 #[c.val,sumV s.total s.ve s.untr s.vr,.string k] w (B8_ (M1_ c t s k) w):=by
 have Hest:=hh_ fun w' hg=>dp_ c t s k w' (h.same hg) (hR.same hg) ho hn hk
 have hwe:=Op_ (c:=c) (t:=t) hW.total ho k;unfold M1_;generalize sEstF c t s k=est at *;obtain⟨tot,ve,un,vr,es,vs,rows⟩:=s;obtain⟨a1,k1,e1⟩:=hR.es.shape;obtain⟨a2,k2,e2⟩:=hR.vs.shape
 simp only at e1 e2 hn ho Hest ⊢
 subst e1;subst e2;have HE:=hh_ hR.es;have HW:=hh_ hW.es;have hwu:=hW.untr;have hm:=hR.es.2.1;clear hR hW ho hn h
 go_enter func167,ntmps167
 go_upto_region 2 with(refine Au_ rfl _ rfl c rfl ?_;intro w1 B1 G1 z1)
 have BS:Blk (((w1.alloc (.cells #[.int .u64 tot,.slice a1 es.length k1,.int .u64 un,.slice a2 vs.length k2] 129)).alloc (.cells #[.int .u64 0,.int .u64 0] 84))) w1.heap.size #[.int .u64 tot,.slice a1 es.length k1,.int .u64 un,.slice a2 vs.length k2]:=bk_;have BR:Blk (((w1.alloc (.cells #[.int .u64 tot,.slice a1 es.length k1,.int .u64 un,.slice a2 vs.length k2] 129)).alloc (.cells #[.int .u64 0,.int .u64 0] 84))) (w1.heap.size+1) #[.int .u64 0,.int .u64 0]:=bk_;have K2:w.grownBy (((w1.alloc (.cells #[.int .u64 tot,.slice a1 es.length k1,.int .u64 un,.slice a2 vs.length k2] 129)).alloc (.cells #[.int .u64 0,.int .u64 0] 84))) none:=gw_;have B2:BoxAt (((w1.alloc (.cells #[.int .u64 tot,.slice a1 es.length k1,.int .u64 un,.slice a2 vs.length k2] 129)).alloc (.cells #[.int .u64 0,.int .u64 0] 84))) w.heap.size c:=(B1.same (ga_ _ _ _)).same (ga_ _ _ _);clear B1 G1;generalize (w1.alloc (.cells #[.int .u64 tot,.slice a1 es.length k1,.int .u64 un,.slice a2 vs.length k2] 129)).alloc (.cells #[.int .u64 0,.int .u64 0] 84)=w2 at *;generalize w1.heap.size=b at *
 go_loopw [13] (fun s13 wr=>∃j:Nat,j≤es.length∧s13=.int .i64 j∧(∀i,(hi:i<es.length)→i<j→Hh_ k es[i]=false)∧Blk wr b #[.int .u64 tot,.slice a1 es.length k1,.int .u64 un,.slice a2 vs.length k2]∧Blk wr (b+1) #[.int .u64 0,.int .u64 0]∧BoxAt wr w.heap.size c∧w.grownBy wr none) (fun s13 _=>es.length-(RowKit.intOf s13).toNat)
 case atStart=>exact⟨0,zl_ _,rfl,by intro i _ h;omega,BS,BR,B2,K2⟩
 case round=>
  clear BS BR B2 K2;obtain⟨j,hj,rfl,hall,BS,BR,B2,K2⟩:=hrel;have Hall:=hh_ hall;clear hall
  by_cases hjl:j<es.length
  ·obtain⟨g,off,cap,hv,hgl,c0,c1,c2⟩:=(HE.out.same K2).ent hjl
   cases hv;obtain⟨hw1,hw2⟩:=HW.out _ (mg_ hjl);cases hq:Hh_ k es[j]
   ·have Hq:=hh_ hq
    have hq2 :(es[j].key.toList==k.toList)=false:=hq;clear hq;generalize hee:es[j]=en at hq2 c0 c1 c2;clear hee
    go_wp2_with fail
    refine⟨⟨j+1,by omega,by go_num,?_,BS.same (ga_ _ _ _),BR.same (ga_ _ _ _),B2.same (ga_ _ _ _),Ad_ K2 _⟩,by simp[RowKit.intOf];omega⟩;intro i hi hij
    by_cases e:i=j
    ·subst e;exact Hq.out
    ·exact Hall.out i hi (by omega)
   ·have Hq:=hh_ (dm_ un (Yc_ hjl (fun i hi=>Hall.out i (by omega) hi) hq))
    have hq2 :(es[j].key.toList==k.toList)=true:=hq;clear hq;generalize hee:es[j]=en at *;clear hee
    go_upto_region 5 with fail
    have BE:Blk (wr.alloc (.cells #[.string en.key,.int .u64 en.own,.int .u64 en.slack] 224)) wr.heap.size #[.string en.key,.int .u64 en.own,.int .u64 en.slack]:=bk_;replace BS:=BS.same (ga_ wr (.cells #[.string en.key,.int .u64 en.own,.int .u64 en.slack] 224) none);replace BR:=BR.same (ga_ wr (.cells #[.string en.key,.int .u64 en.own,.int .u64 en.slack] 224) none);replace B2:=B2.same (ga_ wr (.cells #[.string en.key,.int .u64 en.own,.int .u64 en.slack] 224) none);replace K2:=Ad_ K2 (.cells #[.string en.key,.int .u64 en.own,.int .u64 en.slack] 224);clear c0 c1 c2 hgl;generalize wr.alloc _=wc at *;generalize wr.heap.size=be at *;obtain⟨r1,r2,r3⟩:=B2.re;have q1:=BE.re;have q2:=BS.re
    have r4:=Bi_ (w:=wc) fun w' hg=>Hest.out w' (Aa_ K2 hg)
    have r5:=Bi_ (w:=wc) fun w' hg=>aj_ en.own (satA en.own en.slack) est w'
    have r6:=Bi_ (w:=wc) fun w' hg=>f6_ en.key en.own en.slack w' hw1 hw2
    (refine Tail.wp_region_tail_grown 7 (by kernel_rfl) (by kernel_rfl) ?_;simp only[List.take,List.drop];(repeat(go_big_quiet_step (first |(with_reducible exact r4 _ _) |(with_reducible exact r5 _ _) |(with_reducible exact r6 _ _))));refine wn_ ?_;rintro _ ⟨⟨d5,os5⟩,rfl⟩)
    have BR5:=BR.same (A1_ wc d5 os5);have K5:=Aa_ K2 (A1_ wc d5 os5);have br:=BR5.cell;have fr:=BR5.free;clear r1 r2 r3 r4 r5 r6 q1 q2;generalize Go.Sort.grow (redrawn wc d5) os5=w5 at *
    go_wp2_with fail
    have BZ:=(BR5.set_ 0 (.int .u64 (min en.own est)) rfl).set_ 1 (.int .u64 (min (satA en.own en.slack) est)) rfl;have bz:=BZ.cell;refine bodyPost_ret (v:=.tuple #[bndV (min en.own est) (min (satA en.own en.slack) est),.bool true]) (by simp[results,results167,go_sem,bz]) rfl ?_;refine⟨by rw[Hq.out.1,Hq.out.2],?_⟩;exact Aj_ (Aj_ K5 (by simp;omega) _) (by simp;omega) _
  ·have Hq:=hh_ (Yq_ un (Yr_ (k:=k) fun i hi=>Hall.out i hi (by omega)))
   go_upto_region 7 with fail
   obtain⟨r1,r2,r3⟩:=B2.re;have q2:=BS.re
   have r4:=Bi_ (w:=wr) fun w' hg=>Hest.out w' (Aa_ K2 hg)
   have r5:=Bi_ (w:=wr) fun w' hg=>aj_ 0 un est w'
   (refine Tail.wp_region_tail_grown 8 (by kernel_rfl) (by kernel_rfl) ?_;simp only[List.take,List.drop];(repeat(go_big_quiet_step (first |(with_reducible exact r4 _ _) |(with_reducible exact r5 _ _))));refine wn_ ?_;rintro _ ⟨⟨d5,os5⟩,rfl⟩)
   have BR5:=BR.same (A1_ wr d5 os5);have K5:=Aa_ K2 (A1_ wr d5 os5);have br:=BR5.cell;have fr:=BR5.free;clear r1 r2 r3 r4 r5 q2;generalize Go.Sort.grow (redrawn wr d5) os5=w5 at *
   go_wp2_with fail
   have BZ:=(BR5.set_ 0 (.int .u64 (min 0 est)) rfl).set_ 1 (.int .u64 (min un est)) rfl;have bz:=BZ.cell;refine bodyPost_ret (v:=.tuple #[bndV (min 0 est) (min un est),.bool false]) (by simp[results,results167,go_sem,bz]) rfl ?_;refine⟨by rw[Hq.out.1,Hq.out.2],?_⟩;exact Aj_ (Aj_ K5 (by simp;omega) _) (by simp;omega) _
end
section
open Go.RowKit
attribute [local go_sem ↓] Ag_
attribute [local go_sem] Ah_
def leB (a b:ByteArray):Bool:=Op.bytesLess a.toList b.toList||a.toList==b.toList
def entErr (tot:Int) (prev:Option ByteArray) (e:Ent):Int:=
 if e.key.size=0 then 3 else if 255<e.key.size then 4 else if (prev.map (leB e.key)).getD false then 6 else if e.own=0∨tot<e.own+e.slack then 1 else 0
theorem isE {k:ByteArray} (h:k.toList.isEmpty=true):k.size=0:=by
 rw[ByteArray.size,←Array.length_toList,←ByteArray.toList_eq];simpa using h
theorem isN {k:ByteArray} (h:k.toList.isEmpty=false):k.size≠0:=by
 rw[ByteArray.size,←Array.length_toList,←ByteArray.toList_eq];intro e;rw[List.length_eq_zero_iff.1 e] at h;cases h
theorem Vm_ {tot:Int} {p:Option ByteArray} {e:Ent} (h:e.key.toList.isEmpty=true):entErr tot p e=3:=by unfold entErr;rw[if_pos (isE h)]
theorem Xv_ {tot:Int} {p:Option ByteArray} {e:Ent} (h:e.key.toList.isEmpty=false) (h2:255<(e.key.size:Int)):entErr tot p e=4:=by unfold entErr;rw[if_neg (isN h),if_pos (by omega)]
theorem Vh_ {tot:Int} {p:Option ByteArray} {e:Ent} (h:e.key.toList.isEmpty=false) (h2 :(e.key.size:Int)≤255) (h3 :(p.map (leB e.key)).getD false=true):entErr tot p e=6:=by unfold entErr;rw[if_neg (isN h),if_neg (by omega),if_pos h3]
theorem Fh_ {tot:Int} {p:Option ByteArray} {e:Ent} (h:e.key.toList.isEmpty=false) (h2 :(e.key.size:Int)≤255) (h3 :(p.map (leB e.key)).getD false=false) (h4:e.own=0∨tot<e.own+e.slack):entErr tot p e=1:=by
 unfold entErr;rw[if_neg (isN h),if_neg (by omega),if_neg (by rw[h3];decide),if_pos h4]
theorem aa_ {tot:Int} {p:Option ByteArray} {e:Ent} (h:e.key.toList.isEmpty=false) (h2 :(e.key.size:Int)≤255) (h3 :(p.map (leB e.key)).getD false=false) (h4:e.own≠0) (h5:e.own+e.slack≤tot):entErr tot p e=0:=by
 unfold entErr;rw[if_neg (isN h),if_neg (by omega),if_neg (by rw[h3];decide),if_neg (by omega)]
end
section
open Go.RowKit
attribute [local go_sem ↓] Ag_
attribute [local go_sem] Ah_
def gtF (t:Int) (row:List Int):Bool:=row.any fun n=>decide (t<n)
theorem gtF_no {t:Int} {row:List Int} (h:∀j,(hj:j<row.length)→decide (t<row[j])=false):gtF t row=false:=by
 unfold gtF;rw[List.any_eq_false];intro x hx;obtain⟨j,hj,rfl⟩:=List.mem_iff_getElem.1 hx
 simpa using h j hj
theorem dn_ {t:Int} {row:List Int} {j:Nat} (hj:j<row.length) (h:decide (t<row[j])=true):gtF t row=true:=by
 unfold gtF;rw[List.any_eq_true];exact⟨_,mg_ hj,h⟩
def Mb_ (n:Int) (rows:List (List Int)):Bool:=rows.any fun r=>decide ((r.length:Int)≠n)
def Je_ (t:Int) (rows:List (List Int)):Bool:=rows.any (gtF t)
def Cs_ (d n t:Int) (rows:List (List Int)):Int:=if rows.length=0 then 0 else if (rows.length:Int)≠d then 3 else if Mb_ n rows then 3 else if Je_ t rows then 1 else 0
theorem e0_ {d n t:Int} {rows:List (List Int)} {m:Nat} (e:m=rows.length) (h :((m:Int)==0)=false) (h2 :((m:Int) != d)=true):Cs_ d n t rows=3:=by
 have:=beq_eq_false_iff_ne.1 h
 have:=bne_iff_ne.1 h2
 unfold Cs_;rw[if_neg (by omega),if_pos (by omega)]
theorem b3_ {d n t:Int} {rows:List (List Int)} {m:Nat} (e:m=rows.length) (h :((m:Int)==0)=false) (h2 :((m:Int) != d)=false):Cs_ d n t rows=if Mb_ n rows then 3 else if Je_ t rows then 1 else 0:=by
 have:=beq_eq_false_iff_ne.1 h
 have:=bne_eq_false_iff_eq.1 h2
 unfold Cs_;rw[if_neg (by omega),if_neg (by omega)]
theorem a6_ {α:Type} {p:α→Bool} {l:List α} (h:∀j,(hj:j<l.length)→p l[j]=false):l.any p=false:=by
 rw[List.any_eq_false];intro x hx;obtain⟨j,hj,rfl⟩:=List.mem_iff_getElem.1 hx
 simpa using h j hj
theorem Uw_ {α:Type} {p:α→Bool} {l:List α} {j:Nat} (hj:j<l.length) (h:p l[j]=true):l.any p=true:=by
 rw[List.any_eq_true];exact⟨_,mg_ hj,h⟩
end
section
open Go.RowKit
attribute [local go_sem ↓] Ag_
attribute [local go_sem] Ah_
def fstN (l:List Int):Int:=(l.find? (fun x=>decide (x≠0))).getD 0
theorem Oc_ {l:List Int} {j:Nat} (hj:j<l.length) (h:∀i,(hi:i<l.length)→i<j→l[i]=0) (h2:l[j]≠0):fstN l=l[j]:=by
 unfold fstN;rw[(List.find?_eq_some_iff_getElem (p:=fun x=>decide (x≠0)) (b:=l[j])).2 ⟨by simpa using h2,j,hj,rfl,fun i hi=>by simp[h i (by omega) hi]⟩]
 rfl
theorem N0_ {l:List Int} (h:∀i,(hi:i<l.length)→l[i]=0):fstN l=0:=by
 unfold fstN;rw[List.find?_eq_none.2]
 ·rfl
 ·intro x hx
  obtain⟨i,hi,rfl⟩:=List.mem_iff_getElem.1 hx
  simp[h i hi]
def prevK (es:List Ent):Nat→Option ByteArray
 | 0=>none
 | m+1=>es[m]?.map (·.key)
def errAt (tot:Int) (es:List Ent) (i:Nat):Int:=match es[i]? with
 | some e=>entErr tot (prevK es i) e
 | none=>0
def Ct_ (tot:Int) (es:List Ent):Int:=fstN ((List.range es.length).map (errAt tot es))
theorem dk_ {tot:Int} {es:List Ent} {j:Nat} (hj:j<es.length) (h:∀i,i<j→errAt tot es i=0) (h2:errAt tot es j≠0):Ct_ tot es=errAt tot es j:=by
 unfold Ct_;rw[Oc_ (j:=j) (by simpa using hj) (fun i hi hij=>by simpa using h i hij) (by simpa using h2)]
 simp
theorem ba_ {tot:Int} {es:List Ent} (h:∀i,i<es.length→errAt tot es i=0):Ct_ tot es=0:=N0_ fun i hi=>by simpa using h i (by simpa using hi)
def ownE (es:List Ent):Int:=es.foldl (fun n e=>satA n e.own) 0
theorem Ut_ (es:List Ent) (e:Ent):ownE (es++[e])=satA (ownE es) e.own:=by simp[ownE]
def sumErr (d n:Int) (s:Summ):Int:=if 9223372036854775808<s.total∨s.total<s.untr then 1 else if 96<s.es.length then 7 else if Ct_ s.total s.es≠0 then Ct_ s.total s.es else if s.total<ownE s.es then 12 else Cs_ d n s.total s.rows
structure SumSmall (s:Summ):Prop where
 key:∀e∈s.es,e.key.size≤9223372036854775807
 rows:s.rows.length≤1000
 row:∀r∈s.rows,r.length≤9223372036854775807
theorem f4_ {d n:Int} {s:Summ} (h:9223372036854775808<s.total∨s.total<s.untr):sumErr d n s=1:=by unfold sumErr;rw[if_pos h]
theorem gj_ {d n:Int} {s:Summ} (h:¬(9223372036854775808<s.total∨s.total<s.untr)) (h2 :(96:Int)<s.es.length):sumErr d n s=7:=by unfold sumErr;rw[if_neg h,if_pos (by omega)]
theorem e9_ {d n:Int} {s:Summ} (h:¬(9223372036854775808<s.total∨s.total<s.untr)) (h2 :(s.es.length:Int)≤96) :
  sumErr d n s=if Ct_ s.total s.es≠0 then Ct_ s.total s.es else if s.total<ownE s.es then 12 else Cs_ d n s.total s.rows:=by unfold sumErr;rw[if_neg h,if_neg (by omega)]
end
section
open Go.RowKit
structure GrownS (S:Nat→Prop) (w w':World):Prop where
 os:w'.os=w.os
 tape:w'.tape=w.tape
 output:w'.output=w.output
 size:w.heap.size≤w'.heap.size
 block:∀i,i<w.heap.size→¬S i→w'.heap[i]?=w.heap[i]?
theorem GrownS.refl (S:Nat→Prop) (w:World):GrownS S w w:=⟨rfl,rfl,rfl,le_ _,fun _ _ _=>rfl⟩
theorem GrownS.trans {S T:Nat→Prop} {a b c:World} (h:GrownS S a b) (k:GrownS T b c) (hT:∀i,T i→i<a.heap.size→S i):GrownS S a c:=
 ⟨k.os.trans h.os,k.tape.trans h.tape,k.output.trans h.output,lt_ h.size k.size,fun i hi hn=>(k.block i (ll_ hi h.size) (fun ht=>hn (hT i ht hi))).trans (h.block i hi hn)⟩
theorem GrownS.mono {S T:Nat→Prop} {a b:World} (h:GrownS S a b) (hT:∀i,S i→i<a.heap.size→T i):GrownS T a b:=⟨h.os,h.tape,h.output,h.size,fun i hi hn=>h.block i hi (fun hs=>hn (hT i hs hi))⟩
theorem GrownS.of {S:Nat→Prop} {w w':World} {r:Option Nat} (h:w.grownBy w' r) (hr:∀k,r=some k→S k):GrownS S w w':=
 ⟨h.os,h.tape,h.output,h.size,fun i hi hn=>h.block i hi (fun e=>hn (hr i e.symm))⟩
theorem GrownS.none_ {S:Nat→Prop} {w w':World} (h:w.grownBy w' none):GrownS S w w':=GrownS.of h (by simp)
theorem GrownS.base {S:Nat→Prop} {w0 w w':World} (h:w0.grownBy w none) (k:GrownS S w w') (hS:∀i,S i→w0.heap.size≤i):w0.grownBy w' none:=
 ⟨k.os.trans h.os,k.tape.trans h.tape,k.output.trans h.output,lt_ h.size k.size,fun i hi hn=>(k.block i (ll_ hi h.size) (fun hs=>by have:=hS i hs;omega)).trans (h.block i hi hn)⟩
theorem GrownS.back {S:Nat→Prop} {w w':World} (k:GrownS S w w') (hS:∀i,i<w.heap.size→¬S i):w.grownBy w' none:=⟨k.os,k.tape,k.output,k.size,fun i hi _=>k.block i hi (hS i hi)⟩
theorem Blk.keptS {S:Nat→Prop} {w w':World} {g:Nat} {cs:Array Value} (h:Blk w g cs) (k:GrownS S w w') (hS:¬S g):Blk w' g cs:=by
 have hl:=h.lt;obtain⟨t,h⟩:=h.blk;exact⟨t,(k.block g hl hS).trans h⟩
theorem Own.keptS {α:Type} {f:α→List Value} {s:Nat} {e:TypeId} {B:Nat} {w w':World} {v:Value} {l:List α} {S:Nat→Prop} (h:Own f s e B w v l) (k:GrownS S w w') (hS:∀g,v.ownBlock=some g→¬S g):Own f s e B w' v l:=by
 refine⟨h.1,?_⟩
 rcases h.2 with h0 |⟨g,cap,cur,rfl,h1,h2,h3⟩
 ·exact .inl h0
 ·exact .inr ⟨g,cap,cur,rfl,h1,(k.block g (Array.getElem?_eq_some_iff.1 h2).1 (hS g rfl)).trans h2,h3⟩
theorem Rd.keptS {w w':World} {size:Nat} {v:Value} {n:Nat} {xs:List Value} {S:Nat→Prop} (h:Rd w size v n xs) (k:GrownS S w w') (hS:0<n→∀a n' c,v=.slice (some a) n' c→¬S a.block):Rd w' size v n xs:=by
 obtain⟨h1,h0,h2⟩:=h;refine⟨h1,h0,?_⟩
 rcases h2 with h2 |⟨g,off,cap,hv,hlt,hc⟩
 ·exact .inl h2
 ·rcases Nat.eq_zero_or_pos n with hn|hn
  ·exact .inl ⟨hn,some ⟨g,off,none⟩,cap,by rw[hv,hn]⟩
  ·refine .inr ⟨g,off,cap,hv,ll_ hlt k.size,fun j u hu=>?_⟩
   rw[World.cell?_of_block (a:=⟨g,off+j,none⟩) (k.block g hlt (hS hn _ _ _ hv))];exact hc j u hu
theorem RdL.keptS {α:Type} {f:α→List Value} {s:Nat} {w w':World} {v:Value} {l:List α} {S:Nat→Prop} (h:RdL f s w v l) (k:GrownS S w w') (hS:0<l.length→∀a n' c,v=.slice (some a) n' c→¬S a.block):RdL f s w' v l:=Rd.keptS h k hS
end
section
open Go.RowKit Go.Maps
def ldAt:List (Int×Int)→Int→Int
 | [],_=>0
 | p::L,w=>if p.1=w then p.2 else ldAt L w
def ldHas:List (Int×Int)→Int→Bool
 | [],_=>false
 | p::L,w=>decide (p.1=w)||ldHas L w
def ldK:List (Int×Int)→Int→Nat
 | [],_=>0
 | p::L,w=>if p.1<w then ldK L w+1 else 0
def ldPut:List (Int×Int)→Int→Int→List (Int×Int)
 | [],w,n=>[(w,n)]
 | p::L,w,n=>if p.1<w then p::ldPut L w n else if p.1=w then (w,p.2+n)::L else (w,n)::p::L
def ldDel:List (Int×Int)→Int→List (Int×Int)
 | [],_=>[]
 | p::L,w=>if p.1=w then L else p::ldDel L w
def Asc (L:List (Int×Int)):Prop:=L.Pairwise (fun p q=>p.1<q.1)
theorem Ef_ {w:Int}:∀{L:List (Int×Int)},(∀q∈L,w<q.1)→ldHas L w=false
 | [],_=>rfl
 | p::L,h=>by
  have:=h p (by simp)
  simp only[ldHas,Ef_ fun q hq=>h q (List.mem_cons_of_mem p hq),Bool.or_false,decide_eq_false_iff_not];omega
theorem Kb_ {w:Int}:∀{L:List (Int×Int)},ldHas L w=false→ldAt L w=0
 | [],_=>rfl
 | p::L,h=>by
  simp only[ldHas,Bool.or_eq_false_iff,decide_eq_false_iff_not] at h;simp only[ldAt];rw[if_neg h.1];exact Kb_ h.2
theorem Hu_ {w:Int}:∀{L:List (Int×Int)},ldHas L w=true↔w∈L.map (·.1)
 | []=>by simp[ldHas]
 | p::L=>by simp only[ldHas,Bool.or_eq_true,decide_eq_true_eq,Hu_ (L:=L),List.map_cons,List.mem_cons];constructor <;> (rintro(h|h) <;> simp_all)
theorem Vg_ {w:Int} {L:List (Int×Int)} (h:∀q∈L,w<q.1):ldAt L w=0:=Kb_ (Ef_ h)
theorem B0_ {p:Int×Int} {L:List (Int×Int)} (h:Asc (p::L)) :(∀q∈L,p.1<q.1)∧Asc L:=List.pairwise_cons.1 h
theorem Wd_ {w n v:Int}:∀{L:List (Int×Int)},Asc L→ldAt (ldPut L w n) v=if v=w then ldAt L w+n else ldAt L v
 | [],_=>by
  simp only[ldPut,ldAt]
  by_cases h:v=w
  ·rw[if_pos h,if_pos h.symm];omega
  ·rw[if_neg h,if_neg fun e=>h e.symm]
 | p::L,hA=>by
  obtain⟨h1,h2⟩:=B0_ hA;simp only[ldPut]
  by_cases a:p.1<w
  ·rw[if_pos a]
   simp only[ldAt];rw[Wd_ h2]
   by_cases b:v=w
   ·rw[if_pos b,if_pos b,if_neg (by omega),if_neg (by omega)]
   ·rw[if_neg b,if_neg b]
  ·rw[if_neg a]
   by_cases c:p.1=w
   ·rw[if_pos c]
    simp only[ldAt]
    by_cases b:v=w
    ·rw[if_pos b,if_pos b.symm,if_pos c]
    ·rw[if_neg b,if_neg fun e=>b e.symm,if_neg fun e=>b (e.symm.trans c)]
   ·rw[if_neg c]
    have hz:ldAt (p::L) w=0:=Vg_ fun q hq=>by
     rcases List.mem_cons.1 hq with rfl|hq
     ·omega
     ·have:=h1 q hq;omega
    by_cases b:v=w
    ·rw[if_pos b,hz];simp only[ldAt];rw[if_pos b.symm];omega
    ·rw[if_neg b]
     show(if w=v then n else ldAt (p::L) v)=_
     rw[if_neg fun e=>b e.symm]
theorem mem_ldPut {w n:Int} {q:Int×Int}:∀{L:List (Int×Int)},q∈ldPut L w n→q.1=w∨q∈L
 | [],h=>by simp[ldPut] at h;exact .inl (by rw[h])
 | p::L,h=>by
  simp only[ldPut] at h
  by_cases a:p.1<w
  ·rw[if_pos a] at h
   rcases List.mem_cons.1 h with rfl|h
   ·exact .inr (by simp)
   ·exact(mem_ldPut h).imp id fun h=>List.mem_cons_of_mem p h
  ·rw[if_neg a] at h
   by_cases c:p.1=w
   ·rw[if_pos c] at h
    rcases List.mem_cons.1 h with rfl|h
    ·exact .inl rfl
    ·exact .inr (List.mem_cons_of_mem p h)
   ·rw[if_neg c] at h
    rcases List.mem_cons.1 h with rfl|h
    ·exact .inl rfl
    ·exact .inr h
theorem My_ {w n:Int}:∀{L:List (Int×Int)},Asc L→Asc (ldPut L w n)
 | [],_=>by simp[ldPut,Asc]
 | p::L,hA=>by
  obtain⟨h1,h2⟩:=B0_ hA;simp only[ldPut]
  by_cases a:p.1<w
  ·rw[if_pos a]
   refine List.pairwise_cons.2 ⟨fun q hq=>?_,My_ h2⟩
   rcases mem_ldPut hq with h|h
   ·omega
   ·exact h1 q h
  ·rw[if_neg a]
   by_cases c:p.1=w
   ·rw[if_pos c]
    exact List.pairwise_cons.2 ⟨fun q hq=>by have:=h1 q hq;simp only;omega,h2⟩
   ·rw[if_neg c]
    refine List.pairwise_cons.2 ⟨fun q hq=>?_,hA⟩
    rcases List.mem_cons.1 hq with rfl|hq
    ·simp only;omega
    ·have:=h1 q hq;simp only;omega
theorem E0_ {w:Int} {q:Int×Int}:∀{L:List (Int×Int)},q∈ldDel L w→q∈L
 | [],h=>by simp[ldDel] at h
 | p::L,h=>by
  simp only[ldDel] at h
  split at h
  ·exact List.mem_cons_of_mem p h
  ·rcases List.mem_cons.1 h with rfl|h
   ·simp
   ·exact List.mem_cons_of_mem p (E0_ h)
theorem J6_ {w:Int}:∀{L:List (Int×Int)},Asc L→Asc (ldDel L w)
 | [],_=>by simp[ldDel,Asc]
 | p::L,hA=>by
  obtain⟨h1,h2⟩:=B0_ hA;simp only[ldDel]
  split
  ·exact h2
  ·exact List.pairwise_cons.2 ⟨fun q hq=>h1 q (E0_ hq),J6_ h2⟩
theorem L9_ {w v:Int}:∀{L:List (Int×Int)},Asc L→ldHas (ldDel L w) v =(!decide (v=w)&&ldHas L v)
 | [],_=>by simp[ldDel,ldHas]
 | p::L,hA=>by
  obtain⟨h1,h2⟩:=B0_ hA;simp only[ldDel]
  by_cases a:p.1=w
  ·rw[if_pos a]
   simp only[ldHas]
   by_cases b:v=w
   ·subst b
    rw[Ef_ fun q hq=>by have:=h1 q hq;omega];simp
   ·simp only[b,decide_false,Bool.not_false,Bool.true_and]
    rw[show decide (p.1=v)=false from df_ fun e=>b (e.symm.trans a)];simp
  ·rw[if_neg a]
   simp only[ldHas,L9_ h2]
   by_cases b:v=w
   ·subst b
    simp[a]
   ·simp[b]
theorem O2_ {w:Int}:∀{L:List (Int×Int)},ldHas L w=false→ldDel L w=L
 | [],_=>rfl
 | p::L,h=>by
  simp only[ldHas,Bool.or_eq_false_iff,decide_eq_false_iff_not] at h;simp only[ldDel];rw[if_neg h.1,O2_ h.2]
theorem Ur_ {w:Int}:∀{L:List (Int×Int)},ldK L w≤L.length
 | []=>le_ _
 | p::L=>by
  simp only[ldK];split
  ·have:=Ur_ (w:=w) (L:=L);simp;exact this
  ·simp
theorem al_ {w:Int}:∀{L:List (Int×Int)} {j:Nat} {p:Int×Int},j<ldK L w→L[j]?=some p→p.1<w
 | [],j,p,h,_=>by simp[ldK] at h
 | q::L,0,p,h,hp=>by
  simp at hp;subst hp
  simp only[ldK] at h;split at h
  ·assumption
  ·omega
 | q::L,j+1,p,h,hp=>by
  simp only[ldK] at h;split at h
  ·exact al_ (L:=L) (j:=j) (by omega) (by simpa using hp)
  ·omega
theorem Gr_ {w:Int}:∀{L:List (Int×Int)},Asc L→(ldHas L w=true↔L[ldK L w]?=some (w,ldAt L w))
 | [],_=>by simp[ldHas]
 | p::L,hA=>by
  obtain⟨h1,h2⟩:=B0_ hA;simp only[ldHas,ldK,ldAt]
  by_cases a:p.1<w
  ·rw[if_pos a,if_neg (by omega)]
   simp only[List.getElem?_cons_succ,←Gr_ h2,Bool.or_eq_true,decide_eq_true_eq]
   constructor
   ·rintro(h|h)
    ·omega
    ·exact h
   ·exact .inr
  ·rw[if_neg a]
   by_cases c:p.1=w
   ·rw[if_pos c]
    simp only[c,decide_true,Bool.true_or,List.getElem?_cons_zero,true_iff,Option.some.injEq];rw[←c]
   ·rw[if_neg c]
    rw[show decide (p.1=w)=false from df_ c,Ef_ fun q hq=>by have:=h1 q hq;omega];simp only[Bool.or_self,Bool.false_eq_true,List.getElem?_cons_zero,Option.some.injEq,false_iff];intro e;exact c (by rw[e])
theorem Xj_ {w:Int} {L:List (Int×Int)} (hA:Asc L) {p:Int×Int} (hp:L[ldK L w]?=some p) (hne:p.1≠w):ldHas L w=false:=by
 cases h:ldHas L w with
 | false=>rfl
 | true=>
  rw[(Gr_ hA).1 h] at hp;cases hp;exact absurd rfl hne
theorem Wc_ {w:Int} {L:List (Int×Int)} (hA:Asc L) (hk:ldK L w=L.length):ldHas L w=false:=by
 cases h:ldHas L w with
 | false=>rfl
 | true=>
  have:=(Gr_ hA).1 h
  rw[hk] at this;simp at this
theorem Rv_ {w:Int}:∀{L:List (Int×Int)} {k:Nat} {p:Int×Int},L[k]?=some p→p.1=w→ldHas L w=true:=by
 intro L k p h e;rw[Hu_];exact List.mem_map.2 ⟨p,mo_ h,e⟩
theorem P1_ {w n:Int}:∀{L:List (Int×Int)},Asc L→ldHas L w=false→ldPut L w n=L.take (ldK L w)++[(w,n)]++L.drop (ldK L w)
 | [],_,_=>rfl
 | p::L,hA,h=>by
  obtain⟨h1,h2⟩:=B0_ hA;simp only[ldHas,Bool.or_eq_false_iff,decide_eq_false_iff_not] at h;simp only[ldPut,ldK]
  by_cases a:p.1<w
  ·rw[if_pos a,if_pos a,P1_ h2 h.2];rfl
  ·rw[if_neg a,if_neg a,if_neg h.1];rfl
theorem Ll_ {w n:Int}:∀{L:List (Int×Int)},Asc L→ldHas L w=true→ldPut L w n=L.set (ldK L w) (w,ldAt L w+n)
 | [],_,h=>by simp[ldHas] at h
 | p::L,hA,h=>by
  obtain⟨h1,h2⟩:=B0_ hA;simp only[ldPut,ldK,ldAt]
  by_cases a:p.1<w
  ·simp only[ldHas,show decide (p.1=w)=false from df_ (by omega),Bool.false_or] at h
   rw[if_pos a,if_pos a,if_neg (by omega),Ll_ h2 h];rfl
  ·rw[if_neg a,if_neg a]
   by_cases c:p.1=w
   ·rw[if_pos c,if_pos c];rfl
   ·exfalso
    rw[Ef_] at h
    ·cases h
    ·intro q hq
     rcases List.mem_cons.1 hq with rfl|hq
     ·omega
     ·have:=h1 q hq;omega
theorem Mn_ {w:Int}:∀{L:List (Int×Int)},Asc L→ldHas L w=true→ldDel L w=L.take (ldK L w)++L.drop (ldK L w+1)
 | [],_,h=>by simp[ldHas] at h
 | p::L,hA,h=>by
  obtain⟨h1,h2⟩:=B0_ hA;simp only[ldDel,ldK]
  by_cases a:p.1<w
  ·simp only[ldHas,show decide (p.1=w)=false from df_ (by omega),Bool.false_or] at h
   rw[if_pos a,if_neg (by omega),Mn_ h2 h];rfl
  ·rw[if_neg a]
   by_cases c:p.1=w
   ·rw[if_pos c];rfl
   ·exfalso
    rw[Ef_] at h
    ·cases h
    ·intro q hq
     rcases List.mem_cons.1 hq with rfl|hq
     ·omega
     ·have:=h1 q hq;omega
variable {H:Type} {D:DataW H} {L:List (Int×Int)}
theorem Vi_:∀{L:List (Int×Int)},Asc L→(L.map (·.1)).Nodup:=by
 intro L h;unfold List.Nodup;rw[List.pairwise_map]
 exact h.imp fun h e=>by omega
end
section
open Go.RowKit
def fitsB (a b:Int):Bool:=decide (a+b≤9223372036854775808)
theorem Dd_ (a b:Int) (w:World) (ha:W64 a) (hb:W64 b):Calls Tryz.prog 118 #[.int .u64 a,.int .u64 b] w (fun e w'=>e=.returned (.bool (fitsB a b))∧w=w'):=by
 have h3:=hh_ (show fitsB a b=decide (a+b≤9223372036854775808) from rfl);unfold W64 at ha hb;generalize fitsB a b=F at *
 by_cases h:a≤9223372036854775808
 ·have hwr:IntKind.u64.wrap (9223372036854775808-a)=9223372036854775808-a:=IntWalk.u64_in _ (by omega)
  have h4:=hh_ (show F=decide (b≤9223372036854775808-a) by rw[h3.out];exact decide_eq_decide.2 (by omega));clear h3
  go_enter func118,ntmps118
  go_wp2
  all_goals
   go_ret
   exact⟨by rw[h4.out];rfl,rfl⟩
 ·have h4:=hh_ (show F=false by rw[h3.out];exact df_ (by omega))
  clear h3
  go_enter func118,ntmps118
  go_wp2
  go_ret
  exact⟨by rw[h4.out];rfl,rfl⟩
end
section
open Go.RowKit Go.Maps
def I64 (n:Int):Prop:=-9223372036854775808≤n∧n≤9223372036854775807
theorem aw_ {L:List (Int×Int)} (h:∀p∈L,W64 p.2) (w:Int):W64 (ldAt L w):=by
 induction L with
 | nil=>exact⟨by simp[ldAt],by simp[ldAt]⟩
 | cons p L ih=>
  simp only[ldAt];split
  ·exact h p (by simp)
  ·exact ih fun q hq=>h q (List.mem_cons_of_mem p hq)
theorem X4_ {L:List (Int×Int)} (h:∀p∈L,I64 p.1) {win n:Int} (hw:I64 win):∀p∈ldPut L win n,I64 p.1:=fun p hp=>by
 rcases mem_ldPut hp with h1|h1
 ·rw[h1];exact hw
 ·exact h p h1
theorem O9_ {win n:Int}:∀{L:List (Int×Int)},(∀p∈L,W64 p.2)→Asc L→W64 (ldAt L win+n)→∀p∈ldPut L win n,W64 p.2
 | [],_,_,hs,p,hp=>by simp[ldPut] at hp;subst hp;simpa [ldAt] using hs
 | q::L,h,hA,hs,p,hp=>by
  simp only[ldPut] at hp;simp only[ldAt] at hs
  by_cases a:q.1<win
  ·rw[if_pos a] at hp
   rw[if_neg (by omega)] at hs
   rcases List.mem_cons.1 hp with rfl|hp
   ·exact h p (by simp)
   ·exact O9_ (fun x hx=>h x (List.mem_cons_of_mem q hx)) (B0_ hA).2 hs p hp
  ·rw[if_neg a] at hp
   by_cases c:q.1=win
   ·rw[if_pos c] at hp hs
    rcases List.mem_cons.1 hp with rfl|hp
    ·exact hs
    ·exact h p (List.mem_cons_of_mem q hp)
   ·rw[if_neg c] at hp hs
    rw[Vg_ fun x hx=>by have:=(B0_ hA).1 x hx;omega] at hs
    rcases List.mem_cons.1 hp with rfl|hp
    ·simpa using hs
    ·exact h p hp
def accL (L:List (Int×Int)) (win x:Int):List (Int×Int):=if fitsB (ldAt L win) x then ldPut L win x else L
def accN (L:List (Int×Int)) (win x acc:Int):Int:=if fitsB (ldAt L win) x then acc+1 else acc
end
section
open Go.RowKit
structure Rep where
 (win tot:Int) (vl:Value) (over trk rest:Int) (vr:Value) (lines:List Ln) (rej:List Int)
def repF (r:Rep):List Value:=[.int .i64 r.win,.int .u64 r.tot,r.vl,.int .u64 r.over,.int .i64 r.trk,.int .u64 r.rest,r.vr]
abbrev repV (win tot:Int) (vl:Value) (over trk rest:Int) (vr:Value):Value:=.agg #[.int .i64 win,.int .u64 tot,vl,.int .u64 over,.int .i64 trk,.int .u64 rest,vr]
structure RepRd (w:World) (r:Rep):Prop where
 lines:RdL lnF 3 w r.vl r.lines
 rej:RdL wordF 1 w r.vr r.rej
 lcap:∀a n c,r.vl=.slice a n c→n≤c
 rcap:∀a n c,r.vr=.slice a n c→n≤c
theorem RepRd.same {w w':World} {r:Rep} (h:RepRd w r) (hg:w.grownBy w' none):RepRd w' r:=⟨h.lines.same hg,h.rej.same hg,h.lcap,h.rcap⟩
structure LnW (x:Ln):Prop where
 lo:W64 x.lo
 hi:W64 x.hi
 key:x.key.size≤9223372036854775807
structure RepW (r:Rep):Prop where
 win:I64 r.win
 tot:W64 r.tot
 over:W64 r.over
 trk:I64 r.trk
 rest:W64 r.rest
 lines:∀x∈r.lines,LnW x
 rej:∀n∈r.rej,W64 n
def Cy_ (tot:Int) (prev:Option Ln) (x:Ln):Int:=
 if x.key.size=0 then 3 else if 255<x.key.size then 4 else if x.hi<x.lo∨tot<x.hi then 1 else if (prev.map fun p=>!befB p x).getD false then 6 else 0
def M2_ (ls:List Ln):Nat→Option Ln
 | 0=>none
 | i+1=>ls[i]?
def lnErrAt (tot:Int) (ls:List Ln) (i:Nat):Int:=match ls[i]? with
 | some x=>Cy_ tot (M2_ ls i) x
 | none=>0
def Cc_ (tot:Int) (ls:List Ln):Int:=fstN ((List.range ls.length).map (lnErrAt tot ls))
theorem Pw_ {tot:Int} {ls:List Ln} {j:Nat} (hj:j<ls.length) (h:∀i,i<j→lnErrAt tot ls i=0) (h2:lnErrAt tot ls j≠0):Cc_ tot ls=lnErrAt tot ls j:=by
 unfold Cc_;rw[Oc_ (j:=j) (by simpa using hj) (fun i hi hij=>by simpa using h i hij) (by simpa using h2)]
 simp
theorem O3_ {tot:Int} {ls:List Ln} (h:∀i,i<ls.length→lnErrAt tot ls i=0):Cc_ tot ls=0:=N0_ fun i hi=>by simpa using h i (by simpa using hi)
theorem Qq_ {tot:Int} {ls:List Ln} (h:Cc_ tot ls=0):∀i,i<ls.length→lnErrAt tot ls i=0:=by
 intro i hi
 induction i using Nat.strongRecOn with
 | _ i ih=>
  by_cases e:lnErrAt tot ls i=0
  ·exact e
  ·rw[Pw_ hi (fun j hj=>ih j hj (by omega)) e] at h
   exact h
def loSum (ls:List Ln):Int:=ls.foldl (fun a x=>a+x.lo) 0
theorem D6_ (ls:List Ln) (x:Ln):loSum (ls++[x])=loSum ls+x.lo:=by simp[loSum]
theorem Fn_:∀(ls:List Ln) (a:Int),ls.foldl (fun a x=>a+x.lo) a=a+loSum ls
 | [],a=>by simp[loSum]
 | x::ls,a=>by
  unfold loSum;simp only[List.foldl_cons];rw[Fn_ ls (a+x.lo),Fn_ ls (0+x.lo)]
  omega
theorem Q6_ (x:Ln) (ls:List Ln):loSum (x::ls)=x.lo+loSum ls:=by
 show(x::ls).foldl (fun a x=>a+x.lo) 0=_
 simp only[List.foldl_cons];rw[Fn_];omega
theorem loSum_pos:∀{ls:List Ln},(∀x∈ls,0≤x.lo)→0≤loSum ls
 | [],_=>by simp[loSum]
 | x::ls,h=>by
  rw[Q6_]
  have:=loSum_pos fun y hy=>h y (List.mem_cons_of_mem x hy)
  have:=h x (by simp)
  omega
def keysN (ls:List Ln):List (List UInt8):=ls.map fun x=>x.key.data.toList
def repErr (r:Rep):Int:=
 if r.win<0∨1099511627776<r.win∨9223372036854775808<r.tot∨r.tot<r.rest then 1
 else if 64<r.lines.length∨r.trk<r.lines.length∨768<r.trk then 7
 else if Cc_ r.tot r.lines≠0 then Cc_ r.tot r.lines
 else if ¬(keysN r.lines).Nodup then 10
 else if 18446744073709551615<r.over+loSum r.lines∨r.over+loSum r.lines≠r.tot then 13
 else if r.rej.length≠7∨r.rej[0]?≠some 0 then 3
 else 0
structure Zf_ (r:Rep):Prop where
 win:0≤r.win∧r.win≤1099511627776
 tot:r.tot≤9223372036854775808
 rest:r.rest≤r.tot
 few:r.lines.length≤64
 trk :(r.lines.length:Int)≤r.trk∧r.trk≤768
 lines:∀i,i<r.lines.length→lnErrAt r.tot r.lines i=0
 keys :(keysN r.lines).Nodup
 sum:r.over+loSum r.lines=r.tot
 fits:r.over+loSum r.lines≤18446744073709551615
 rej:r.rej.length=7
 rej0:r.rej[0]?=some 0
theorem Up_ {r:Rep} (h:repErr r=0):Zf_ r:=by
 unfold repErr at h
 by_cases h1:r.win<0∨1099511627776<r.win∨9223372036854775808<r.tot∨r.tot<r.rest
 ·rw[if_pos h1] at h;cases h
 rw[if_neg h1] at h
 by_cases h2:64<r.lines.length∨r.trk<r.lines.length∨768<r.trk
 ·rw[if_pos h2] at h;cases h
 rw[if_neg h2] at h
 by_cases h3:Cc_ r.tot r.lines≠0
 ·rw[if_pos h3] at h;exact absurd h h3
 rw[if_neg h3] at h
 by_cases h4:¬(keysN r.lines).Nodup
 ·rw[if_pos h4] at h;cases h
 rw[if_neg h4] at h
 by_cases h5:18446744073709551615<r.over+loSum r.lines∨r.over+loSum r.lines≠r.tot
 ·rw[if_pos h5] at h;cases h
 rw[if_neg h5] at h
 by_cases h6:r.rej.length≠7∨r.rej[0]?≠some 0
 ·rw[if_pos h6] at h;cases h
 have h7:r.rej.length=7∧r.rej[0]?=some 0:=by
  constructor
  ·exact Decidable.byContradiction fun e=>h6 (.inl e)
  ·exact Decidable.byContradiction fun e=>h6 (.inr e)
 exact⟨by omega,by omega,by omega,by omega,by omega,Qq_ (Decidable.byContradiction h3),Decidable.byContradiction h4,by omega,by omega,h7.1,h7.2⟩
theorem gk_ {tot:Int} {p:Option Ln} {x:Ln} (h:Cy_ tot p x=0):x.key.size≠0∧x.key.size≤255∧x.lo≤x.hi∧x.hi≤tot∧(p.map fun p=>!befB p x).getD false=false:=by
 unfold Cy_ at h
 by_cases h1:x.key.size=0
 ·rw[if_pos h1] at h;cases h
 rw[if_neg h1] at h
 by_cases h2:255<x.key.size
 ·rw[if_pos h2] at h;cases h
 rw[if_neg h2] at h
 by_cases h3:x.hi<x.lo∨tot<x.hi
 ·rw[if_pos h3] at h;cases h
 rw[if_neg h3] at h
 by_cases h4 :(p.map fun p=>!befB p x).getD false=true
 ·rw[if_pos h4] at h;cases h
 exact⟨h1,by omega,by omega,by omega,by simpa using h4⟩
theorem Zf_.ln {r:Rep} (h:Zf_ r) {i:Nat} (hi:i<r.lines.length):r.lines[i].key.size≠0∧r.lines[i].key.size≤255∧r.lines[i].lo≤r.lines[i].hi∧r.lines[i].hi≤r.tot:=by
 have:=h.lines i hi
 unfold lnErrAt at this;rw[gq_ hi] at this;obtain⟨a,b,c,d,_⟩:=gk_ this;exact⟨a,b,c,d⟩
end
section
open Go.RowKit Go.Maps Go.WideMaps
theorem d8_ (b:List UInt8):WideAt.IsKeyLit (.string b):=by unfold WideAt.IsKeyLit;trivial
theorem Ej_:∀(xs acc:List Lit),(∀x∈xs,WideAt.IsKeyLit x) →
  (xs.foldl addKey acc).length≤acc.length+xs.length∧((xs.foldl addKey acc).length=acc.length+xs.length↔xs.Nodup∧∀x∈xs,acc.any (fun y=>y.sameKey x)=false)
 | [],acc,_=>by simp
 | x::xs,acc,h=>by
  have hx:=h x (by simp);simp only[List.foldl_cons,lc_];unfold addKey
  by_cases ha:acc.any (fun y=>y.sameKey x)=true
  ·rw[if_pos ha]
   obtain⟨h1,_⟩:=Ej_ xs acc fun y hy=>h y (List.mem_cons_of_mem _ hy);unfold addKey at h1;refine⟨by omega,fun e=>by omega,fun⟨_,h3⟩=>?_⟩
   have:=h3 x (by simp)
   rw[ha] at this;cases this
  ·rw[if_neg ha]
   obtain⟨h1,h2⟩:=Ej_ xs (acc++[x]) fun y hy=>h y (List.mem_cons_of_mem _ hy);unfold addKey at h1 h2;rw[la_,ls_] at h1 h2;refine⟨by omega,?_⟩;rw[show acc.length+(xs.length+1)=acc.length+1+xs.length by omega,h2]
   have ha':acc.any (fun y=>y.sameKey x)=false:=by simpa using ha
   constructor
   ·rintro⟨h3,h4⟩
    have hne:x∉xs:=fun hm=>by
     have:=h4 x hm
     rw[List.any_append,Bool.or_eq_false_iff] at this;have e:=this.2
     simp[WideAt.sameKey_self hx] at e
    refine⟨List.nodup_cons.2 ⟨hne,h3⟩,fun y hy=>?_⟩
    rcases List.mem_cons.1 hy with e|e
    ·rw[e];exact ha'
    ·have:=h4 y e
     rw[List.any_append,Bool.or_eq_false_iff] at this;exact this.1
   ·rintro⟨h3,h4⟩
    obtain⟨h5,h6⟩:=List.nodup_cons.1 h3;refine⟨h6,fun y hy=>?_⟩;rw[List.any_append,Bool.or_eq_false_iff];refine⟨h4 y (List.mem_cons_of_mem _ hy),?_⟩
    have hxy:x≠y:=fun e=>h5 (e▸hy)
    simp[sameKey_ne hxy]
def setS (L:List (List UInt8)):DataW Unit:=setOf (.lit (.bool true)) (L.map fun b=>.string b)
theorem Tw_ (L:List (List UInt8)) (b:List UInt8):setS (L++[b]) =(setS L).put (.string b) (.lit (.bool true)):=by
 unfold setS;rw[List.map_append];exact setOf_snoc _ _ _
theorem Lk_ (L:List (List UInt8)):∀x∈L.map (fun b=>(Lit.string b)),WideAt.IsKeyLit x:=by
 intro x hx;obtain⟨b,_,rfl⟩:=List.mem_map.1 hx;exact d8_ b
theorem Rp_ (L:List (List UInt8)):Maps.size (setS L)≤L.length∧(Maps.size (setS L)=L.length↔L.Nodup):=by
 have h:=Ej_ (L.map fun b=>(Lit.string b)) [] (Lk_ L);unfold setS;rw[size_setOf _ _ (Lk_ L)];simp only[List.length_nil,Nat.zero_add,List.length_map,List.any_nil,implies_true,and_true] at h;refine⟨h.1,h.2.trans ?_⟩;rw[List.nodup_iff_pairwise_ne,List.nodup_iff_pairwise_ne,List.pairwise_map];exact⟨fun h=>h.imp fun hne e=>hne (by rw[e]),fun h=>h.imp fun hne e=>hne (by cases e;rfl)⟩
end
end Go.Proofs.YtckmgjmeanloaaaGreat
