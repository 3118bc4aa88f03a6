/- Several texts in one file: contracts of functions of the given program, and plain laws, for the proof of a statement. -/
import Derived.Test.YtckmgjmeanloaaaGreatBsae
import Derived.Test.YtckmgjmeanloaaaGreatBsab
import Derived.Test.YtckmgjmeanloaaaGreatBsac
import Derived.Test.YtckmgjmeanloaaaGreatBsaa
set_option maxHeartbeats 8000000
set_option maxRecDepth 100000
namespace Go.Proofs.YtckmgjmeanloaaaGreat
section
abbrev AscE (L:List Ent):Prop:=L.Pairwise fun x y=>x.key.data.toList<y.key.data.toList
theorem Tq_ {a b:ByteArray}:ltK a b=true↔a.data.toList<b.data.toList:=by simp[ltK]
theorem L0_ {a b:ByteArray} (h:a.data.toList=b.data.toList):a=b:=by
 cases a;cases b;simp only[ByteArray.mk.injEq];exact Array.ext' h
theorem Bj_ (L:List Ent) (e:Ent) :(insE L e).Perm (e::L):=by
 unfold insE;refine List.perm_middle.trans (List.Perm.cons e ?_);rw[List.takeWhile_append_dropWhile]
theorem Jd_ {L:List Ent} {e:Ent} (h:AscE L) (hn:e.key∉keysE L):AscE (insE L e):=by
 induction L with
 | nil=>simp[insE,AscE]
 | cons a L ih=>
  obtain⟨h1,h2⟩:=List.pairwise_cons.1 h;simp only[keysE,List.map_cons,List.mem_cons,not_or] at hn
  by_cases ha:ltK a.key e.key=true
  ·have e1:insE (a::L) e=a::insE L e:=by simp[insE,ha]
   rw[e1];refine List.pairwise_cons.2 ⟨fun x hx=>?_,ih h2 hn.2⟩
   rcases List.mem_cons.1 ((Bj_ L e).mem_iff.1 hx) with rfl|hx
   ·exact Tq_.1 ha
   ·exact h1 x hx
  ·have e1:insE (a::L) e=e::a::L:=by simp[insE,ha]
   rw[e1]
   have hlt:e.key.data.toList<a.key.data.toList:=by
    refine b_lt (b_le.2 fun h'=>ha (Tq_.2 h')) fun h'=>hn.1 (L0_ h')
   refine List.pairwise_cons.2 ⟨fun x hx=>?_,h⟩
   rcases List.mem_cons.1 hx with rfl|hx
   ·exact hlt
   ·exact Ec_ hlt (h1 x hx)
theorem G1_ (L:List Ent) (e:Ent):sortEn (L++[e])=insE (sortEn L) e:=by simp[sortEn]
theorem Z3_ (L:List Ent):∀A:List Ent,AscE A→(keysE (A++L)).Nodup→AscE (L.foldl insE A)∧(L.foldl insE A).Perm (A++L):=by
 induction L with
 | nil=>intro A h _;exact⟨h,by simp⟩
 | cons e L ih=>
  intro A h hn
  have hn1:e.key∉keysE A:=by
   simp only[keysE,List.map_append,List.map_cons] at hn;intro he;exact(List.nodup_append.1 hn).2.2 _ he _ (by simp) rfl
  have hp :(insE A e++L).Perm (A++e::L):=((Bj_ A e).append_right L).trans (by simpa using List.perm_middle.symm);obtain⟨h1,h2⟩:=ih (insE A e) (Jd_ h hn1) ((hp.map _).nodup_iff.2 hn);exact⟨h1,h2.trans hp⟩
theorem Dv_ {L:List Ent} (h :(keysE L).Nodup):AscE (sortEn L)∧(sortEn L).Perm L:=by
 have:=Z3_ L [] (by simp[AscE]) (by simpa using h)
 simpa [sortEn] using this
theorem Ed_:∀{L M:List Ent},AscE L→AscE M→L.Perm M→L=M
 | [],M,_,_,h=>(List.nil_perm.1 h).symm
 | a::L,[],_,_,h=>by have:=h.length_eq;simp at this
 | a::L,b::M,h1,h2,h=>by
  obtain⟨h3,h4⟩:=List.pairwise_cons.1 h1;obtain⟨h5,h6⟩:=List.pairwise_cons.1 h2
  have hab:a=b:=by
   rcases List.mem_cons.1 (h.mem_iff.1 (List.mem_cons_self)) with e|e
   ·exact e
   ·rcases List.mem_cons.1 (h.mem_iff.2 (List.mem_cons_self)) with e'|e'
    ·exact e'.symm
    ·exact absurd (Ec_ (h3 b e') (h5 a e)) (Ch_ _)
  subst hab;rw[Ed_ h4 h6 (List.Perm.cons_inv h)]
theorem Q1_ {L M:List Ent} (h :(keysE L).Nodup) (hM:AscE M) (hp:M.Perm L):sortEn L=M:=
 Ed_ (Dv_ h).1 hM ((Dv_ h).2.trans hp.symm)
theorem Qe_ {L:List Ent} (h:AscE L) :(keysE L).Nodup:=by
 unfold keysE;refine List.pairwise_map.2 (h.imp fun {x y} hxy e=>?_);rw[e] at hxy;exact Ch_ _ hxy
theorem Qi_ {L:List Ent} (h:AscE L):sortEn L=L:=Q1_ (Qe_ h) h (List.Perm.refl _)
theorem Ents.perm {L M:List Ent} (h:Ents L) (hp:L.Perm M):Ents M:=
 ⟨(hp.map _).nodup_iff.1 h.nodup,fun e he=>h.key e (hp.mem_iff.2 he),fun e he=>h.own e (hp.mem_iff.2 he),fun e he=>h.slack e (hp.mem_iff.2 he)⟩
def lastMin:List Ent→Option Ent
 | []=>none
 | e::L=>match lastMin L with
  | none=>some e
  | some x=>if x.cnt≤e.cnt then some x else some e
theorem Cc_:∀{L:List Ent} {e:Ent},lastMin L=some e→e∈L
 | [],e,h=>by simp[lastMin] at h
 | a::L,e,h=>by
  unfold lastMin at h
  cases hm:lastMin L with
  | none=>rw[hm] at h;cases h;simp
  | some x=>
   rw[hm] at h;dsimp only at h
   split at h
   ·cases h;exact List.mem_cons_of_mem _ (Cc_ hm)
   ·cases h;simp
theorem Kj_ {L:List Ent}:lastMin L=none↔L=[]:=by
 cases L with
 | nil=>simp[lastMin]
 | cons a L=>unfold lastMin;cases lastMin L <;> simp;split <;> simp
def G0_ (S:List Ent) (k:ByteArray) (w:Int):List Ent:=S.map fun e=>if e.key=k then ⟨e.key,e.own+w,e.slack⟩ else e
theorem E6_ (S:List Ent) (k:ByteArray) (w:Int):keysE (G0_ S k w)=keysE S:=by
 unfold keysE G0_;rw[List.map_map]
 refine List.map_congr_left fun e _=>?_
 simp only[Function.comp]
 split <;> rfl
theorem Li_ (S:List Ent) (k:ByteArray) (w:Int) :(G0_ S k w).length=S.length:=by simp[G0_]
theorem Di_ {S:List Ent} {k:ByteArray} {w:Int} {e:Ent} (h:e∈G0_ S k w):∃x∈S,(x.key=k∧e =⟨x.key,x.own+w,x.slack⟩)∨(x.key≠k∧e=x):=by
 obtain⟨x,hx,rfl⟩:=List.mem_map.1 h;refine⟨x,hx,?_⟩
 by_cases hk:x.key=k
 ·exact .inl ⟨hk,by rw[if_pos hk]⟩
 ·exact .inr ⟨hk,by rw[if_neg hk]⟩
theorem Wq_ {L M:List Ent} (h:AscE L) (hk:keysE L=keysE M):AscE M:=by
 have h1 :(keysE L).Pairwise fun x y=>x.data.toList<y.data.toList:=List.pairwise_map.2 h
 rw[hk] at h1;exact(List.pairwise_map (f:=fun e:Ent=>e.key) (R:=fun x y:ByteArray=>x.data.toList<y.data.toList)).1 h1
def slotR (t:List Int) (s:Int) (k:ByteArray) (i:Nat) (row:List Int):Nat:=(slotF (hashF t (seedF s i) k) row.length).toNat
def putRow (row:List Int) (j:Nat) (n:Int):List Int:=row.set j (max (row.getD j 0) n)
def Bd_ (t:List Int) (s:Int) (k:ByteArray) (n:Int) (rows:List (List Int)):List (List Int):=rows.mapIdx fun i row=>putRow row (slotR t s k i row) n
structure Grid (d w:Int) (sum:Int) (rows:List (List Int)):Prop where
 depth :(rows.length:Int)=d
 width:∀row∈rows,(row.length:Int)=w
 num:∀row∈rows,∀x∈row,0≤x∧x≤sum
theorem Grid.mono {d w s s':Int} {rows:List (List Int)} (h:Grid d w s rows) (hs:s≤s'):Grid d w s' rows:=
 ⟨h.depth,h.width,fun row hr x hx=>by have:=h.num row hr x hx;omega⟩
theorem Pt_ (row:List Int) (j:Nat) (n:Int) :(putRow row j n).length=row.length:=by simp[putRow]
theorem mem_putRow {row:List Int} {j:Nat} {n x:Int} (h:x∈putRow row j n):x∈row∨(x=max (row.getD j 0) n):=by
 unfold putRow at h;exact List.mem_or_eq_of_mem_set h
theorem getD_mem {l:List Int} {j:Nat}:l.getD j 0=0∨l.getD j 0∈l:=by
 rw[List.getD_eq_getElem?_getD]
 cases h:l[j]? with
 | none=>exact .inl rfl
 | some x=>exact .inr (mo_ h)
theorem Grid.add {d w s:Int} {rows:List (List Int)} (h:Grid d w s rows) (t:List Int) (sd:Int) (k:ByteArray) {n:Int} (h0:0≤n) (h1:n≤s):Grid d w s (Bd_ t sd k n rows):=by
 unfold Bd_;refine⟨by rw[List.length_mapIdx];exact h.depth,fun row hr=>?_,fun row hr x hx=>?_⟩
 ·obtain⟨i,hi,rfl⟩:=List.mem_mapIdx.1 hr
  rw[Pt_];exact h.width _ (mg_ hi)
 ·obtain⟨i,hi,rfl⟩:=List.mem_mapIdx.1 hr
  rcases mem_putRow hx with hx|rfl
  ·exact h.num _ (mg_ hi) x hx
  ·rcases getD_mem (l:=rows[i]) (j:=slotR t sd k i rows[i]) with e|e
   ·rw[e];omega
   ·have:=h.num _ (mg_ hi) _ e;omega
theorem Grid.rowsOk {d w s:Int} {rows:List (List Int)} (h:Grid d w s rows) (hw:1≤w∧w≤256) (hs:s≤mostW):RowsOk rows:=fun row hr=>by
 have h1:=h.width row hr;refine⟨by omega,fun x hx=>?_⟩;have h2:=h.num row hr x hx;unfold mostW at hs;exact⟨h2.1,by omega⟩
theorem Ux_ {d w sum:Int} {t:List Int} {s:Int} {k:ByteArray} {rows:List (List Int)} (h:Grid d w sum rows):∀n,0≤estI t s k rows n
 | 0=>by simp[estI]
 | n+1=>by
  have ih:=Ux_ (t:=t) (s:=s) (k:=k) h n
  have hc:0≤J4_ t s k n (rows.getD n []):=by
   unfold J4_
   rcases getD_mem (l:=rows.getD n []) (j:=(slotF (hashF t (seedF s n) k) (rows.getD n []).length).toNat) with e|e
   ·rw[e];exact Int.le_refl _
   ·rw[List.getD_eq_getElem?_getD (l:=rows)] at e ⊢
    cases hr:rows[n]? with
    | none=>rw[hr] at e;simp at e
    | some row=>rw[hr] at e;exact(h.num row (mo_ hr) _ e).1
  show 0≤min _ _
  omega
theorem bx_ {d w sum:Int} {t:List Int} {s:Int} {k:ByteArray} {rows:List (List Int)} (h:Grid d w sum rows) (h0:0≤sum):∀n,0<n→n≤rows.length→estI t s k rows n≤sum
 | n+1,_,hl=>by
  have hc:J4_ t s k n (rows.getD n [])≤sum:=by
   unfold J4_
   rcases getD_mem (l:=rows.getD n []) (j:=(slotF (hashF t (seedF s n) k) (rows.getD n []).length).toNat) with e|e
   ·rw[e];exact h0
   ·rw[List.getD_eq_getElem?_getD (l:=rows)] at e ⊢
    cases hr:rows[n]? with
    | none=>rw[hr] at e;simp at e
    | some row=>rw[hr] at e;exact(h.num row (mo_ hr) _ e).2
  show min _ _≤_
  omega
theorem Q9_ {d w sum:Int} {t:List Int} {s:Int} {k:ByteArray} {rows:List (List Int)} (h:Grid d w sum rows) (h0:0≤sum) (hd:1≤d):0≤estF t s k rows∧estF t s k rows≤sum:=by
 have:=h.depth
 exact⟨Ux_ h _,bx_ h h0 _ (by omega) (Nat.le_refl _)⟩
structure Aq_ where
 (T:TabM) (S:List Ent) (rows:List (List Int)) (sum:Int)
def Aq_.err (X:Aq_) (k:ByteArray) (w:Int):Int:=if k.size=0 then 3 else if 255<k.size then 4 else if w=0 then 1 else if mostW<X.sum+w then 12 else 0
def promo (ex pr:Int) (T:TabM) (S:List Ent) (k:ByteArray):TabM×List Ent:=
 match T.get k with
 | none=>(T,S)
 | some e=>
  if ex=0∨e.own<pr then (T,S)
  else if (S.length:Int)≠ex then (T.take k,insE S e)
  else match lastMin S with
   | none=>(T,S)
   | some x=>if e.own≤x.cnt then (T,S) else (T.swap k x,insE (delE S x.key) e)
def Aq_.add (c:Cfg) (t:List Int) (X:Aq_) (k:ByteArray) (w:Int):Aq_:=
 let rows:=Bd_ t c.Seed k (estF t c.Seed k X.rows+w) X.rows
 match getE X.S k with
 | some _=>⟨X.T,G0_ X.S k w,rows,X.sum+w⟩
 | none=>let p:=promo c.Exact c.Promote (X.T.add k w) X.S k;⟨p.1,p.2,rows,X.sum+w⟩
structure TierOk (c:Cfg) (X:Aq_):Prop where
 tab:Bu_ X.T
 mode:X.T.mode=c.Mode∧X.T.m=c.Slots
 sums:X.T.sum≤X.sum∧X.sum≤mostW
 ents:Ents X.S
 asc:AscE X.S
 len :(X.S.length:Int)≤c.Exact
 apart:∀k∈keysE X.S,k∉keysE X.T.L
 cnt:∀e∈X.S,e.cnt≤X.sum
 low:X.T.mode=2→∀e∈X.S,e.slack≤X.T.base
 rows:Grid c.Depth c.Width X.sum X.rows
structure Ks_ (ex:Int) (T:TabM) (S:List Ent) (sum:Int):Prop where
 tab:Bu_ T
 sums:T.sum≤sum
 ents:Ents S
 asc:AscE S
 len :(S.length:Int)≤ex
 apart:∀k∈keysE S,k∉keysE T.L
 cnt:∀e∈S,e.cnt≤sum
 low:T.mode=2→∀e∈S,e.slack≤T.base
theorem El_ {T:TabM} {k:ByteArray} {e:Ent} (h:T.get k=some e):∃x,getE T.L k=some x∧e=T.fix x∧e.key=k:=by
 unfold TabM.get at h
 cases hx:getE T.L k with
 | none=>rw[hx] at h;simp at h
 | some x=>rw[hx] at h;cases h;exact⟨x,rfl,rfl,by rw[Eh_];exact(A4_ hx).2⟩
theorem C1_ {T:TabM} (h:Bu_ T) {x:Ent} (hx:x∈T.L):0≤(T.fix x).slack∧(T.mode=2→(T.fix x).slack=T.base):=by
 have:=h.ents.slack x hx
 have:=h.base
 unfold TabM.fix
 split
 ·exact⟨by dsimp only;omega,fun _=>rfl⟩
 ·exact⟨by omega,fun h2=>by omega⟩
inductive Yg_ (ex pr:Int) (T:TabM) (S:List Ent) (k:ByteArray):TabM×List Ent→Prop
 | no:Yg_ ex pr T S k (T,S)
 | take (e:Ent) (he:T.get k=some e) (hx:ex≠0) (hp:pr≤e.own) (hl :(S.length:Int)≠ex):Yg_ ex pr T S k (T.take k,insE S e)
 | swap (e x:Ent) (he:T.get k=some e) (hx:ex≠0) (hp:pr≤e.own) (hl :(S.length:Int)=ex) (hm:lastMin S=some x) (hlt:x.cnt<e.own):Yg_ ex pr T S k (T.swap k x,insE (delE S x.key) e)
theorem Ot_ (ex pr:Int) (T:TabM) (S:List Ent) (k:ByteArray):Yg_ ex pr T S k (promo ex pr T S k):=by
 unfold promo
 cases he:T.get k with
 | none=>exact .no
 | some e=>
  dsimp only
  split
  ·exact .no
  ·rename_i h
   split
   ·exact .take e he (by omega) (by omega) (by assumption)
   ·cases hm:lastMin S with
    | none=>exact .no
    | some x=>
     dsimp only
     split
     ·exact .no
     ·exact .swap e x he (by omega) (by omega) (by omega) hm (by omega)
theorem U1_ {ex:Int} {T:TabM} {S:List Ent} {sum:Int} (h:Ks_ ex T S sum) {k:ByteArray} {e x:Ent} (he:T.get k=some e) (hm:lastMin S=some x) (hlt:x.cnt<e.own):T.swapOk e x:=by
 obtain⟨y,hy,rfl,hk⟩:=El_ he;have hxm:=Cc_ hm;have h1:=h.ents.own x hxm;have h2:=h.ents.slack x hxm;have h3:=C1_ h.tab (A4_ hy).1;unfold TabM.swapOk;unfold Ent.cnt at hlt
 split
 ·rename_i hm2
  exact⟨h1,by omega,h.low hm2 x hxm⟩
 ·unfold Ent.cnt;omega
theorem keys_insE {S:List Ent} {e:Ent} {k:ByteArray}:k∈keysE (insE S e)↔k=e.key∨k∈keysE S:=by
 have:=((Bj_ S e).map (·.key)).mem_iff (a:=k)
 simpa [keysE] using this
theorem Lv_ {S:List Ent} (h:Ents S) {e:Ent} (hk:e.key∉keysE S) (h1:0<e.key.size∧e.key.size≤255) (h2:1≤e.own) (h3:0≤e.slack):Ents (insE S e):=
 (h.snoc hk h1 h2 h3).perm ((List.perm_append_singleton e S).trans (Bj_ S e).symm)
theorem Ez_ (S:List Ent) (e:Ent) :(insE S e).length=S.length+1:=by simpa using (Bj_ S e).length_eq
theorem Ks_.step {ex pr:Int} {T:TabM} {S:List Ent} {sum:Int} (h:Ks_ ex T S sum) (k:ByteArray):Ks_ ex (promo ex pr T S k).1 (promo ex pr T S k).2 sum:=by
 have hlen:=h.len;have hP:=Ot_ ex pr T S k;generalize promo ex pr T S k=p at *
 rcases hP with _ |⟨e,he,hx,hp,hl⟩ |⟨e,x,he,hx,hp,hl,hm,hlt⟩
 ·exact h
 ·obtain⟨y,hy,rfl,hk⟩:=El_ he
  have hym:=(A4_ hy).1;have hs:=C1_ h.tab hym;have hkT:k∈keysE T.L:=(A4_ hy).2▸Dz_ hym
  have hkS:k∉keysE S:=fun hx=>h.apart k hx hkT
  have hc:=h.tab.cnt y hym;have hsum:=h.sums;refine⟨h.tab.take k,h.sums,Lv_ h.ents (by rw[hk];exact hkS) (by rw[Eh_];exact h.tab.ents.key y hym) (by rw[Dt_];exact h.tab.ents.own y hym) hs.1,Jd_ h.asc (by rw[hk];exact hkS),by rw[Ez_];omega,?_,?_,?_⟩
  ·intro z hz hz2
   have hz3:=(Bq_ h.tab.ents.nodup).1 (show z∈keysE (delE T.L k) from hz2)
   rcases keys_insE.1 hz with rfl|hz
   ·exact hz3.2 hk
   ·exact h.apart z hz hz3.1
  ·intro z hz
   rcases List.mem_cons.1 ((Bj_ S _).mem_iff.1 hz) with rfl|hz
   ·omega
   ·exact h.cnt z hz
  ·intro hm2 z hz
   rcases List.mem_cons.1 ((Bj_ S _).mem_iff.1 hz) with rfl|hz
   ·exact Int.le_of_eq (hs.2 hm2)
   ·exact h.low hm2 z hz
 ·have hsw:=U1_ h he hm hlt
  obtain⟨y,hy,rfl,hk⟩:=El_ he;have hym:=(A4_ hy).1;have hs:=C1_ h.tab hym;have hkT:k∈keysE T.L:=(A4_ hy).2▸Dz_ hym
  have hkS:k∉keysE S:=fun hx=>h.apart k hx hkT
  have hc:=h.tab.cnt y hym;have hsum:=h.sums;have hxm:=Cc_ hm;have hxk:x.key∈keysE S:=Dz_ hxm;have hxT:x.key∉keysE T.L:=h.apart _ hxk;have hdl:=C7_ (Ga_ h.ents.nodup hxm)
  have hsw':T.swapOk y x:=by
   unfold TabM.swapOk at hsw ⊢;unfold TabM.fix at hsw
   by_cases h2:T.mode=2
   ·simp only[if_pos h2] at hsw ⊢;exact hsw
   ·simp only[if_neg h2] at hsw ⊢;exact hsw
  have hkd:k∉keysE (delE S x.key):=fun hz=>hkS ((Bq_ h.ents.nodup).1 hz).1
  refine⟨h.tab.swap hy hsw' (h.ents.key x hxm) (h.ents.own x hxm) (h.ents.slack x hxm) hxT,h.sums,Lv_ (h.ents.del _) (by rw[hk];exact hkd) (by rw[Eh_];exact h.tab.ents.key y hym) (by rw[Dt_];exact h.tab.ents.own y hym) hs.1,Jd_ (h.asc.sublist (C4_ _ _)) (by rw[hk];exact hkd),by rw[Ez_];omega,?_,?_,?_⟩
  ·intro z hz hz2
   have hz3:z∈keysE (delE T.L k++[T.swapE k x]):=hz2;simp only[keysE,List.map_append,List.map_cons,List.map_nil,List.mem_append,List.mem_singleton,Gd_] at hz3
   rcases keys_insE.1 hz with rfl|hz
   ·rcases hz3 with hz3|hz3
    ·exact((Bq_ h.tab.ents.nodup).1 hz3).2 hk
    ·rw[hk] at hz3
     exact hkS (hz3▸hxk)
   ·have hz4:=(Bq_ h.ents.nodup).1 hz
    rcases hz3 with hz3|hz3
    ·exact h.apart z hz4.1 ((Bq_ h.tab.ents.nodup).1 hz3).1
    ·exact hz4.2 hz3
  ·intro z hz
   rcases List.mem_cons.1 ((Bj_ _ _).mem_iff.1 hz) with rfl|hz
   ·omega
   ·exact h.cnt z (Be_ hz)
  ·intro hm2 z hz
   rcases List.mem_cons.1 ((Bj_ _ _).mem_iff.1 hz) with rfl|hz
   ·exact Int.le_of_eq (hs.2 hm2)
   ·exact h.low hm2 z (Be_ hz)
theorem add_keys {T:TabM} {k:ByteArray} {w:Int} {z:ByteArray} (h:Bu_ T) (hz:z∈keysE (T.add k w).L):z=k∨z∈keysE T.L:=by
 have hsn:∀(L:List Ent) (e:Ent),z∈keysE (L++[e])→z∈keysE L∨z=e.key:=fun L e hz=>by simpa [keysE,eq_comm] using hz
 cases hg:getE T.L k with
 | some e=>
  rw[Jw_ hg] at hz
  rcases hsn _ _ hz with hz|hz
  ·exact .inr ((Jl_ (C4_ _ _)).subset hz)
  ·exact .inl hz
 | none=>
  rcases addNo h k w with⟨hm,hl⟩ |⟨hl⟩ |⟨hm,hl,x,hx⟩
  ·rw[Jj_ hg hm hl] at hz
   dsimp only at hz
   split at hz
   ·rcases hsn _ _ hz with hz|hz
    ·exact .inr ((Ex_ _ _).subset hz)
    ·exact .inl hz
   ·exact .inr ((Ex_ _ _).subset hz)
  ·rw[Ey_ hg hl] at hz
   rcases hsn _ _ hz with hz|hz
   ·exact .inr hz
   ·exact .inl hz
  ·rw[I1_ hg hm hl hx] at hz
   rcases hsn _ _ hz with hz|hz
   ·exact .inr ((Jl_ (C4_ _ _)).subset hz)
   ·exact .inl hz
theorem Xm_ {T:TabM} (h:Bu_ T) {k:ByteArray} {w:Int} (hw:1≤w):T.base≤(T.add k w).base:=by
 cases hg:getE T.L k with
 | some e=>rw[Jw_ hg];exact Int.le_refl _
 | none=>
  rcases addNo h k w with⟨hm,hl⟩ |⟨hl⟩ |⟨hm,hl,x,hx⟩
  ·rw[Jj_ hg hm hl]
   have:=minOwn_pos hw h.ents.own
   dsimp only;omega
  ·rw[Ey_ hg hl];exact Int.le_refl _
  ·rw[I1_ hg hm hl hx]
   exact h.low (h.mode.resolve_right hm) x (Fv_ hx)
theorem TierOk.pair {c:Cfg} {X:Aq_} (h:TierOk c X) {k:ByteArray} {w:Int} (hk:0<k.size∧k.size≤255) (hw:1≤w) (hs:X.sum+w≤mostW) (hg:getE X.S k=none):Ks_ c.Exact (X.T.add k w) X.S (X.sum+w):=by
 have hss:=h.sums;have hT:=h.tab.add hk hw (show X.T.sum+w≤mostW by omega);obtain⟨a1,a2,a3⟩:=Ob_ X.T k w;refine⟨hT,by rw[a3];omega,h.ents,h.asc,h.len,fun z hz hz2=>?_,fun z hz=>by have:=h.cnt z hz;omega,fun hm z hz=>?_⟩
 ·rcases add_keys h.tab hz2 with rfl|hz2
  ·exact Cs_.1 hg hz
  ·exact h.apart z hz hz2
 ·rw[a1] at hm
  have:=h.low hm z hz
  have:=Xm_ (k:=k) h.tab hw
  omega
theorem TierOk.add {c:Cfg} {t:List Int} {X:Aq_} (h:TierOk c X) {k:ByteArray} {w:Int} (hd:1≤c.Depth) (hk:0<k.size∧k.size≤255) (hw:1≤w) (hs:X.sum+w≤mostW):TierOk c (X.add c t k w):=by
 have hb:=h.tab.base;have hss:=h.sums;have he:=Q9_ (t:=t) (s:=c.Seed) (k:=k) h.rows (by omega) hd;have hR:Grid c.Depth c.Width (X.sum+w) (Bd_ t c.Seed k (estF t c.Seed k X.rows+w) X.rows):=(h.rows.mono (by omega)).add t c.Seed k (by omega) (by omega);unfold Aq_.add
 cases hg:getE X.S k with
 | some e=>
  obtain⟨hem,hek⟩:=A4_ hg;refine⟨h.tab,h.mode,⟨by dsimp only;omega,hs⟩,⟨by rw[E6_];exact h.ents.nodup,?_,?_,?_⟩,Wq_ h.asc (E6_ _ _ _).symm,by dsimp only;rw[Li_];exact h.len,by dsimp only;rw[E6_];exact h.apart,?_,?_,hR⟩
  ·intro z hz
   obtain⟨x,hx,⟨_,rfl⟩ |⟨_,rfl⟩⟩:=Di_ hz
   ·exact h.ents.key x hx
   ·exact h.ents.key _ hx
  ·intro z hz
   obtain⟨x,hx,⟨_,rfl⟩ |⟨_,rfl⟩⟩:=Di_ hz
   ·have:=h.ents.own x hx;dsimp only;omega
   ·exact h.ents.own _ hx
  ·intro z hz
   obtain⟨x,hx,⟨_,rfl⟩ |⟨_,rfl⟩⟩:=Di_ hz
   ·exact h.ents.slack x hx
   ·exact h.ents.slack _ hx
  ·intro z hz
   obtain⟨x,hx,⟨_,rfl⟩ |⟨_,rfl⟩⟩:=Di_ hz
   ·have:=h.cnt x hx;simp only[Ent.cnt] at *;omega
   ·have:=h.cnt _ hx;dsimp only;omega
  ·intro hm z hz
   obtain⟨x,hx,⟨_,rfl⟩ |⟨_,rfl⟩⟩:=Di_ hz
   ·exact h.low hm x hx
   ·exact h.low hm _ hx
 | none=>
  obtain⟨a1,a2,a3⟩:=Ob_ X.T k w;have P:=h.pair hk hw hs hg;have Q:=P.step (pr:=c.Promote) k
  have hmm :(promo c.Exact c.Promote (X.T.add k w) X.S k).1.mode=c.Mode∧(promo c.Exact c.Promote (X.T.add k w) X.S k).1.m=c.Slots:=by
   have hP:=Ot_ c.Exact c.Promote (X.T.add k w) X.S k;generalize promo c.Exact c.Promote (X.T.add k w) X.S k=p at *
   rcases hP with _ | _ | _
   ·exact⟨a1.trans h.mode.1,a2.trans h.mode.2⟩
   ·exact⟨a1.trans h.mode.1,a2.trans h.mode.2⟩
   ·exact⟨a1.trans h.mode.1,a2.trans h.mode.2⟩
  dsimp only;exact⟨Q.tab,hmm,⟨Q.sums,hs⟩,Q.ents,Q.asc,Q.len,Q.apart,Q.cnt,Q.low,hR⟩
def rows0 (d n:Nat):List (List Int):=List.replicate d (List.replicate n 0)
def tier0 (c:Cfg):Aq_:=⟨⟨c.Mode,c.Slots,[],0,0⟩,[],rows0 c.Depth.toNat c.Width.toNat,0⟩
theorem TierOk.new {c:Cfg} (hm:c.Mode=1∨c.Mode=2) (hs:1≤c.Slots∧c.Slots≤64) (he:0≤c.Exact) (hd:0≤c.Depth) (hw:0≤c.Width):TierOk c (tier0 c):=by
 refine⟨Bu_.new hm hs,⟨rfl,rfl⟩,⟨Int.le_refl _,by simp[tier0,mostW]⟩,Ents.nil,by simp[tier0,AscE],by simpa [tier0] using he,by simp[tier0,keysE],by simp[tier0],by simp[tier0],?_⟩;unfold tier0 rows0;refine⟨by simp;omega,fun row hr=>?_,fun row hr x hx=>?_⟩
 ·rw[List.eq_of_mem_replicate hr];simp;omega
 ·rw[List.eq_of_mem_replicate hr] at hx;rw[List.eq_of_mem_replicate hx];simp
end
section
abbrev Hist:=List (ByteArray×Int)
def wOf:Hist→ByteArray→Int
 | [],_=>0
 | p::h,k=>(if p.1=k then p.2 else 0)+wOf h k
def wAll:Hist→Int
 | []=>0
 | p::h=>p.2+wAll h
def Y9_ (L:List Ent):Int:=(L.map Ent.cnt).sum
def Yw_ (L:List Ent):Int:=(L.map (·.own)).sum
structure e4_ (f:ByteArray→Int) (T:TabM) (S:List Ent):Prop where
 tab:∀e∈T.L,e.own≤f e.key∧f e.key≤(T.fix e).cnt
 tsl:∀e∈T.L,(T.fix e).slack≤T.base
 sto:∀e∈S,e.own≤f e.key∧f e.key≤e.cnt
 ssl:∀e∈S,e.slack≤T.base
 no:∀k,k∉keysE T.L→k∉keysE S→f k≤T.base
 one:T.mode=1→Y9_ T.L+(T.m-T.L.length)*T.base≤T.sum
 two:T.mode=2→(T.m+1)*T.base+Yw_ T.L≤T.sum
def Over (f:ByteArray→Int) (t:List Int) (s:Int) (rows:List (List Int)):Prop:=∀(i:Nat) row,rows[i]?=some row→∀k,f k≤row.getD (slotR t s k i row) 0
end
section
structure Tr_ (c:Cfg) (t:List Int) (h:Hist) (X:Aq_):Prop where
 ok:TierOk c X
 kn:e4_ (wOf h) X.T X.S
 over:Over (wOf h) t c.Seed X.rows
 sum:X.sum=wAll h
 pos:∀p∈h,1≤p.2
structure Bs_ (c:Cfg):Prop where
 mode:c.Mode=1∨c.Mode=2
 slots:1≤c.Slots∧c.Slots≤64
 exact:0≤c.Exact
 depth:1≤c.Depth
 width:1≤c.Width∧c.Width≤256
theorem Uu_ {d w s:Int} {rows:List (List Int)} (h:Grid d w s rows) (hw:1≤w) (t:List Int) (sd:Int) (k:ByteArray):∀(i:Nat) row,rows[i]?=some row→slotR t sd k i row<row.length:=fun i row hr=>by
 have h1:=h.width row (mo_ hr);unfold slotR slotF;have h2:=Int.emod_nonneg (hashF t (seedF sd i) k) (show(row.length:Int)≠0 by omega);have h3:=Int.emod_lt_of_pos (hashF t (seedF sd i) k) (show 0<(row.length:Int) by omega)
 omega
theorem Tr_.new {c:Cfg} (t:List Int) (h:Bs_ c):Tr_ c t [] (tier0 c):=by
 have hok:=TierOk.new h.mode h.slots h.exact (by have:=h.depth;omega) (by have:=h.width;omega);refine⟨hok,⟨by simp[tier0],by simp[tier0],by simp[tier0],by simp[tier0],by simp[tier0,wOf],by simp[tier0,Y9_],by simp[tier0,Yw_]⟩,fun i row hr k=>?_,rfl,by simp⟩
 rcases getD_mem (l:=row) (j:=slotR t c.Seed k i row) with e|e
 ·rw[e];simp[wOf]
 ·exact(hok.rows.num row (mo_ hr) _ e).1
def Aq_.entries (X:Aq_):List Ent:=sortEn (X.T.entries++X.S)
theorem Dh_ (T:TabM) (L:List Ent):keysE (L.map T.fix)=keysE L:=by
 unfold keysE;rw[List.map_map]
 exact List.map_congr_left fun e _=>Eh_ T e
theorem Lj_ {X:Aq_} (h1 :(keysE X.T.L).Nodup) (h2 :(keysE X.S).Nodup) (hd:∀k∈keysE X.S,k∉keysE X.T.L):X.entries.Perm (X.T.L.map X.T.fix++X.S)∧AscE X.entries:=by
 have hn :(keysE (X.T.L.map X.T.fix)).Nodup:=by rw[Dh_];exact h1
 have hp:X.T.entries.Perm (X.T.L.map X.T.fix):=(Dv_ hn).2
 have hn2 :(keysE (X.T.entries++X.S)).Nodup:=by
  have hk :(keysE (X.T.L.map X.T.fix++X.S)).Nodup:=by
   have:keysE (X.T.L.map X.T.fix++X.S)=keysE X.T.L++keysE X.S:=by
    rw[←Dh_ X.T X.T.L];simp[keysE]
   rw[this];exact List.nodup_append.2 ⟨h1,h2,fun a ha b hb e=>hd b hb (e▸ha)⟩
  exact((hp.append_right X.S).map _).nodup_iff.2 hk
 obtain⟨h3,h4⟩:=Dv_ hn2;exact⟨h4.trans (hp.append_right X.S),h3⟩
theorem TierOk.entries {c:Cfg} {X:Aq_} (h:TierOk c X):X.entries.Perm (X.T.L.map X.T.fix++X.S)∧AscE X.entries:=Lj_ h.tab.ents.nodup h.ents.nodup h.apart
end
section
open Go.RowKit
structure OpR where
 (kind:Int) (vd:Value) (time shard:Int) (key:ByteArray) (vp:Value) (data:List UInt8) (picks:List Int)
def opF (o:OpR):List Value:=[.int .i64 o.kind,o.vd,.int .i64 o.time,.int .i64 o.shard,.string o.key,o.vp]
theorem Ef_ (o:OpR) :(opF o).length=6:=rfl
abbrev opA (kind:Int) (vd:Value) (time shard:Int) (key:ByteArray) (vp:Value):Array Value:=#[.int .i64 kind,vd,.int .i64 time,.int .i64 shard,.string key,vp]
abbrev opV (kind:Int) (vd:Value) (time shard:Int) (key:ByteArray) (vp:Value):Value:=.agg (opA kind vd time shard key vp)
structure OpRd (w:World) (o:OpR):Prop where
 data:RdL byF 1 w o.vd o.data
 picks:RdL intF 1 w o.vp o.picks
 dcap:∀a n c,o.vd=.slice a n c→n≤c
 pcap:∀a n c,o.vp=.slice a n c→n≤c
def inR (n:Int):Bool:=decide (0≤n)&&decide (n≤1099511627776)
theorem ck_ {n:Int}:inR n=true↔0≤n∧n≤1099511627776:=by simp[inR]
def restB (o:OpR):Bool:=
 if o.kind=1 then decide (o.time=0)&&decide (o.shard=0)&&decide (o.key.size=0)&&decide (o.picks.length=0)
 else if o.kind=2 then decide (o.data.length=0)&&decide (o.shard=0)&&decide (o.key.size=0)
 else if o.kind=3 then decide (o.data.length=0)&&decide (o.time=0)&&decide (o.key.size=0)&&decide (o.picks.length=0)
 else if o.kind=4 then decide (o.data.length=0)&&decide (o.time=0)&&decide (o.shard=0)&&decide (o.key.size=0)&&decide (o.picks.length=0)
 else if o.kind=5 then decide (o.data.length=0)&&decide (o.shard=0)&&decide (o.picks.length=0)
 else false
def longB (o:OpR):Bool:=decide (4096<o.data.length)||decide (255<o.key.size)||decide (8<o.picks.length)
def rangeB (o:OpR):Bool:=inR o.time&&inR o.shard&&o.picks.all inR
def opE (o:OpR):Int:=if restB o=false then 3 else if longB o=true then 4 else if rangeB o=false then 1 else 0
theorem Hm_ {o:OpR}:opE o=0↔restB o=true∧longB o=false∧rangeB o=true:=by
 unfold opE;cases restB o <;> cases longB o <;> cases rangeB o <;> simp
def textD (most:Nat) (l:List UInt8) (e:Int):List UInt8×List UInt8×Int:=
 if (numF most 4 l e).2.2≠0 then ([],(numF most 4 l e).2.1,(numF most 4 l e).2.2)
 else if (numF most 4 l e).2.1.length<(numF most 4 l e).1 then ([],(numF most 4 l e).2.1,2)
 else ((numF most 4 l e).2.1.take (numF most 4 l e).1,(numF most 4 l e).2.1.drop (numF most 4 l e).1,0)
end
section
open Go.RowKit
def tagD (l:List UInt8) (e:Int):TagR×List UInt8×Int:=
 (⟨⟨(textD 4096 l e).1.toArray⟩,⟨(textD 4096 (textD 4096 l e).2.1 (textD 4096 l e).2.2).1.toArray⟩⟩,(textD 4096 (textD 4096 l e).2.1 (textD 4096 l e).2.2).2)
def tagsD:Nat→List UInt8→Int→List TagR×List UInt8×Int
 | 0,l,e=>([],l,e)
 | n+1,l,e=>((tagsD n l e).1++[(tagD (tagsD n l e).2.1 (tagsD n l e).2.2).1],(tagD (tagsD n l e).2.1 (tagsD n l e).2.2).2)
theorem Xd_ (n:Nat) (l:List UInt8) (e:Int) :(tagsD n l e).1.length=n:=by
 induction n with
 | zero=>rfl
 | succ n ih=>simp[tagsD,ih]
structure RawE where
 (time weight:Int) (tags:List TagR)
def rawE (l:List UInt8):RawE×List UInt8×Int:=
 let a1:=numF 1099511627776 1 l 0
 let a2:=weiF a1.2.1 a1.2.2
 let a3:=numF 8 5 a2.2.1 a2.2.2
 let a4:=tagsD a3.1 a3.2.1 a3.2.2
 (⟨a1.1,a2.1,a4.1⟩,a4.2)
def rawX (l:List UInt8):Int:=(rawE l).2.2
theorem Fg_ (most:Nat) (l:List UInt8) (e:Int) :(textD most l e).2.1.length≤l.length:=by
 have:=Ck_ (most:=most) (over:=4) (l:=l) (e:=e)
 unfold textD
 split
 ·exact this
 ·split
  ·exact this
  ·simp only[List.length_drop];omega
theorem Qx_ (l:List UInt8) (e:Int) :(tagD l e).2.1.length≤l.length:=lt_ (Fg_ _ _ _) (Fg_ _ _ _)
theorem H8_ (n:Nat) (l:List UInt8) (e:Int) :(tagsD n l e).2.1.length≤l.length:=by
 induction n with
 | zero=>exact Nat.le_refl _
 | succ n ih=>exact lt_ (Qx_ _ _) ih
theorem Kh_ (l:List UInt8) :(rawE l).2.1.length≤l.length:=
 lt_ (H8_ _ _ _) (lt_ Ck_ (lt_ Ck_ Ck_))
theorem H2_ (most:Nat) (l:List UInt8) (e:Int) :(textD most l e).1.length≤l.length:=by
 have:=Ck_ (most:=most) (over:=4) (l:=l) (e:=e)
 unfold textD
 split
 ·simp
 ·split
  ·simp
  ·simp only[List.length_take];omega
theorem Sf_ (l:List UInt8) (e:Int) :(tagD l e).1.name.size≤l.length∧(tagD l e).1.value.size≤l.length:=by
 refine⟨?_,?_⟩
 ·have:=H2_ 4096 l e;simpa [tagD,ByteArray.size] using this
 ·have h1:=H2_ 4096 (textD 4096 l e).2.1 (textD 4096 l e).2.2
  have h2:=Fg_ 4096 l e
  have :(tagD l e).1.value.size =(textD 4096 (textD 4096 l e).2.1 (textD 4096 l e).2.2).1.length:=by simp[tagD,ByteArray.size]
  omega
theorem Pm_ (n:Nat) (l:List UInt8) (e:Int):∀t∈(tagsD n l e).1,t.name.size≤l.length∧t.value.size≤l.length:=by
 induction n with
 | zero=>simp[tagsD]
 | succ n ih=>
  intro t ht
  rcases ma_ ht with ht|ht
  ·exact ih t ht
  ·rw[ms_ ht]
   have h1:=Sf_ (tagsD n l e).2.1 (tagsD n l e).2.2;have h2:=H8_ n l e
   omega
theorem Rq_ (l:List UInt8):∀t∈(rawE l).1.tags,t.name.size≤l.length∧t.value.size≤l.length:=fun t ht=>by
 have h1:=Pm_ _ _ _ t ht;have h2 :(numF 8 5 (weiF (numF 1099511627776 1 l 0).2.1 (numF 1099511627776 1 l 0).2.2).2.1 (weiF (numF 1099511627776 1 l 0).2.1 (numF 1099511627776 1 l 0).2.2).2.2).2.1.length≤l.length:=lt_ Ck_ (lt_ Ck_ Ck_)
 omega
theorem F4_ (most:Nat) (over:Int) (l:List UInt8) (e:Int) :(numF most over l e).2.1 <:+ l:=by
 unfold numF
 repeat' split
 all_goals first|exact List.suffix_refl _|exact List.drop_suffix _ _
theorem Kr_ (most:Nat) (l:List UInt8) (e:Int) :(textD most l e).2.1 <:+ l:=by
 have:=F4_ most 4 l e
 unfold textD
 split
 ·exact this
 ·split
  ·exact this
  ·exact(List.drop_suffix _ _).trans this
theorem Tv_ (n:Nat) (l:List UInt8) (e:Int) :(tagsD n l e).2.1 <:+ l:=by
 induction n with
 | zero=>exact List.suffix_refl _
 | succ n ih=>exact((Kr_ _ _ _).trans (Kr_ _ _ _)).trans ih
theorem Xj_ (l:List UInt8) :(rawE l).2.1 <:+ l:=
 (Tv_ _ _ _).trans ((F4_ _ _ _ _).trans ((F4_ _ _ _ _).trans (F4_ _ _ _ _)))
theorem Sl_ (l:List UInt8):l.drop (l.length-(rawE l).2.1.length) =(rawE l).2.1:=(List.suffix_iff_eq_drop.1 (Xj_ l)).symm
def itemE (x:RawE):Int:=if x.time<0∨1099511627776<x.time∨x.weight<1∨9223372036854775808<x.weight then 1 else keyE x.tags
def itZ:ItR:=⟨⟨#[]⟩,0,0⟩
def itemR (x:RawE):ItR:=if itemE x=0 then ⟨keyY x.tags,x.time,x.weight⟩ else itZ
def verE (e:Int):Int:=if e=0 then 0 else if e=4 then 2 else 1
structure InpR where
 (it:ItR) (ver:Int)
def inpF (x:InpR):List Value:=[.string x.it.key,.int .i64 x.it.time,.int .u64 x.it.weight,.int .i64 x.ver]
theorem D7_ (x:InpR) :(inpF x).length=4:=rfl
theorem Gx_:OneF inpF:=by intro x u hu;simp[inpF] at hu;rcases hu with rfl|rfl|rfl|rfl <;> rfl
def inpBad:InpR:=⟨itZ,1⟩
def inpV (most:Int) (x:RawE):Int:=if verE (itemE x)=0∧most<(itemR x).key.size then 2 else verE (itemE x)
def inpOf (most:Int) (x:RawE):InpR:=⟨if inpV most x=0 then itemR x else itZ,inpV most x⟩
def inpsD (most:Int):Nat→List UInt8→List InpR
 | 0,r=>if r≠[] then [inpBad] else []
 | n+1,r=>if rawX r≠0 then List.replicate (n+1) inpBad else inpOf most (rawE r).1::inpsD most n (rawE r).2.1
def inputsF (most:Int) (b:List UInt8):List InpR:=
 if (readF b).2.2≠0∨(readF b).1<1∨64<(readF b).1 then [inpBad] else inpsD most (readF b).1 (b.drop (readF b).2.1)
theorem K4_ (most:Int):∀(n:Nat) (r:List UInt8),(inpsD most n r).length≤n+1
 | 0,r=>by unfold inpsD;split <;> simp
 | n+1,r=>by
  unfold inpsD
  split
  ·simp
  ·have:=K4_ most n (rawE r).2.1
   simp only[List.length_cons];omega
theorem Mt_ (most:Int) (b:List UInt8) :(inputsF most b).length≤65:=by
 unfold inputsF
 split
 ·simp
 ·have:=K4_ most (readF b).1 (b.drop (readF b).2.1);omega
structure InpOk (most:Int) (x:InpR):Prop where
 ver:0≤x.ver∧x.ver≤2
 bad:x.ver≠0→x.it=itZ
 time:0≤x.it.time∧x.it.time≤1099511627776
 weight:0≤x.it.weight∧x.it.weight≤9223372036854775808
 size:x.it.key.size≤255
 good:x.ver=0→1≤x.it.weight∧∃L,keyE L=0∧x.it.key=keyY L∧(x.it.key.size:Int)≤most
theorem Gk_ (most:Int):InpOk most inpBad:=⟨by decide,fun _=>rfl,by decide,by decide,by decide,fun h=>by simp[inpBad] at h⟩
theorem Yo_ (most:Int) (x:RawE):InpOk most (inpOf most x):=by
 have hv:0≤inpV most x∧inpV most x≤2:=by unfold inpV verE;split <;> (try split) <;> (try split) <;> omega
 by_cases h:inpV most x=0
 ·have e1 :(inpOf most x).it=itemR x:=if_pos h
  have h2:itemE x=0∧¬most<(itemR x).key.size:=by
   unfold inpV at h
   split at h
   ·omega
   ·rename_i hn
    have h3:itemE x=0:=by unfold verE at h;split at h <;> (try split at h) <;> omega
    exact⟨h3,fun hm=>hn ⟨h,hm⟩⟩
  have e2:itemR x =⟨keyY x.tags,x.time,x.weight⟩:=if_pos h2.1;have h3:=h2.1;unfold itemE at h3
  split at h3
  ·omega
  ·refine⟨hv,fun hn=>absurd h hn,?_,?_,?_,fun _=>?_⟩
   ·rw[e1,e2];dsimp only;omega
   ·rw[e1,e2];dsimp only;omega
   ·rw[e1,e2];exact Jb_ _
   ·rw[e1]
    refine⟨by rw[e2];dsimp only;omega,x.tags,h3,by rw[e2],by omega⟩
 ·have e1 :(inpOf most x).it=itZ:=if_neg h
  refine⟨hv,fun _=>e1,?_,?_,?_,fun h0=>absurd h0 h⟩ <;> (rw[e1];decide)
theorem Ny_ (most:Int):∀(n:Nat) (r:List UInt8),∀x∈inpsD most n r,InpOk most x
 | 0,r=>by
  unfold inpsD
  split
  ·intro x hx;rw[ms_ hx];exact Gk_ most
  ·simp
 | n+1,r=>by
  unfold inpsD
  split
  ·intro x hx;rw[List.eq_of_mem_replicate hx];exact Gk_ most
  ·intro x hx
   rcases List.mem_cons.1 hx with rfl|hx
   ·exact Yo_ most _
   ·exact Ny_ most n _ x hx
theorem Qa_ (most:Int) (b:List UInt8):∀x∈inputsF most b,InpOk most x:=by
 unfold inputsF
 split
 ·intro x hx;rw[ms_ hx];exact Gk_ most
 ·exact Ny_ most _ _
structure StrM where
 (buf:List UInt8) (skip:Int) (broken:Bool)
structure ChM where
 (body:List UInt8) (ver:Int)
def strS (s:StrM) (b:UInt8):StrM×List ChM:=
 if s.broken=true then (s,[])
 else if 0<s.skip then ({ s with skip:=s.skip-1 },[])
 else if (readF (s.buf++[b])).2.2=3 then (⟨[],0,true⟩,[⟨[],1⟩])
 else if (readF (s.buf++[b])).2.2=0∧4096<(readF (s.buf++[b])).1 then (⟨[],(readF (s.buf++[b])).1,false⟩,[⟨[],2⟩])
 else if (readF (s.buf++[b])).2.2=0∧(readF (s.buf++[b])).1≤(s.buf++[b]).length-(readF (s.buf++[b])).2.1 then ({ s with buf:=[] },[⟨((s.buf++[b]).drop (readF (s.buf++[b])).2.1).take (readF (s.buf++[b])).1,0⟩])
 else ({ s with buf:=s.buf++[b] },[])
def strF (s:StrM) (l:List UInt8):StrM×List ChM:=l.foldl (fun a b=>((strS a.1 b).1,a.2++(strS a.1 b).2)) (s,[])
theorem Kl_ (s:StrM) (l:List UInt8) (b:UInt8):strF s (l++[b]) =((strS (strF s l).1 b).1,(strF s l).2++(strS (strF s l).1 b).2):=by simp[strF]
structure StrOk (s:StrM):Prop where
 skip:0≤s.skip∧s.skip<18446744073709551616
 len:s.buf.length≤4106
structure ChOk (x:ChM):Prop where
 ver:0≤x.ver∧x.ver≤2
 len:x.body.length≤4096
theorem Vo_ (s:StrM) (b:UInt8) :(strS s b).2.length≤1:=by
 unfold strS
 repeat' split
 all_goals simp
theorem J2_ {l:List UInt8} (h :(readF l).2.2=2):l.length≤10:=by
 by_cases h1:bigs 10 l=10
 ·rw[Dj_ h1] at h;simp at h
 ·by_cases h2:l.length=bigs 10 l
  ·have:=Dd_ 10 l;omega
  ·have h3:bigs 10 l<l.length:=by have:=Dd_ 10 l;omega
   by_cases h4 :(bigs 10 l=9∧1<l[bigs 10 l].toNat)∨(0<bigs 10 l∧l[bigs 10 l].toNat=0)
   ·rw[Dl_ h1 h3 h4] at h;simp at h
   ·rw[Ew_ h1 h3 h4] at h;simp at h
theorem Lh_ (l:List UInt8) :(readF l).2.1≤10:=by
 by_cases h1:bigs 10 l=10
 ·rw[Dj_ h1];simp
 ·by_cases h2:l.length=bigs 10 l
  ·rw[C6_ h1 h2];simp
  ·have h3:bigs 10 l<l.length:=by have:=Dd_ 10 l;omega
   by_cases h4 :(bigs 10 l=9∧1<l[bigs 10 l].toNat)∨(0<bigs 10 l∧l[bigs 10 l].toNat=0)
   ·rw[Dl_ h1 h3 h4];simp
   ·rw[Ew_ h1 h3 h4];have:=(Dd_ 10 l).1;show bigs 10 l+1≤10;omega
theorem cc_ {s:StrM} (h:StrOk s) (b:UInt8):StrOk (strS s b).1∧∀x∈(strS s b).2,ChOk x:=by
 have hw:=Ei_ (s.buf++[b]);unfold strS
 split
 ·exact⟨h,by simp⟩
 ·split
  ·exact⟨⟨by have:=h.skip;dsimp only;omega,h.len⟩,by simp⟩
  ·split
   ·exact⟨⟨by decide,by simp⟩,fun x hx=>by rw[ms_ hx];exact⟨by decide,by simp⟩⟩
   ·split
    ·exact⟨⟨by dsimp only;omega,by simp⟩,fun x hx=>by rw[ms_ hx];exact⟨by decide,by simp⟩⟩
    ·rename_i h4
     split
     ·rename_i h5
      refine⟨⟨h.skip,by simp⟩,fun x hx=>?_⟩;rw[ms_ hx];refine⟨⟨Int.le_refl _,by simp⟩,?_⟩;simp only[List.length_take]
      omega
     ·rename_i h3 h5
      refine⟨⟨h.skip,?_⟩,by simp⟩
      show(s.buf++[b]).length≤4106
      by_cases h0 :(readF (s.buf++[b])).2.2=0
      ·have:=Lh_ (s.buf++[b])
       omega
      ·have :(readF (s.buf++[b])).2.2=2:=by
        rcases(La_ _ h0).2.2 with e|e
        ·exact e
        ·exact absurd e h3
       have:=J2_ this
       omega
theorem Jo_ {s:StrM} (h:StrOk s) (l:List UInt8):∀k,k≤l.length→StrOk (strF s (l.take k)).1∧(∀x∈(strF s (l.take k)).2,ChOk x)∧(strF s (l.take k)).2.length≤k:=by
 intro k
 induction k with
 | zero=>exact fun _=>⟨by simpa [strF] using h,by simp[strF],by simp[strF]⟩
 | succ k ih=>
  intro hk;obtain⟨h1,h2,h3⟩:=ih (by omega);rw[tg_ (show k<l.length by omega),Kl_];obtain⟨h4,h5⟩:=cc_ h1 l[k];refine⟨h4,fun x hx=>?_,?_⟩
  ·rcases ma_ hx with hx|hx
   ·exact h2 x hx
   ·exact h5 x hx
  ·have:=Vo_ (strF s (l.take k)).1 l[k]
   simp only[List.length_append]
   omega
theorem Hx_ (s:StrM) {l:List UInt8} {k:Nat} (h:k<l.length):strF s (l.take (k+1)) =((strS (strF s (l.take k)).1 l[k]).1,(strF s (l.take k)).2++(strS (strF s (l.take k)).1 l[k]).2):=by
 rw[tg_ h,Kl_]
end
section
open Go.RowKit Go.Maps Go.Sort
def rejE (r:Int):Int:=if r<1∨6<r then 1 else 0
def rejR (R:List Int) (r:Int):List Int:=if r<1∨6<r then R else R.set r.toNat (satA (R.getD r.toNat 0) 1)
theorem am_ {R:List Int} (h:∀x∈R,W64 x) (k:Nat):W64 (R.getD k 0):=by
 rw[List.getD_eq_getElem?_getD]
 cases hk:R[k]? with
 | none=>exact⟨by simp,by simp⟩
 | some x=>exact h x (mo_ hk)
theorem c2_ {R:List Int} (h:∀x∈R,W64 x) (r:Int):∀x∈rejR R r,W64 x:=by
 unfold rejR;split
 ·exact h
 ·intro x hx
  rcases List.mem_or_eq_of_mem_set hx with h1|h1
  ·exact h x h1
  ·rw[h1];exact B5_ (am_ h _) ⟨by omega,by omega⟩
theorem Cz_:OneF wordF:=by intro x u hu;simp[wordF] at hu;subst hu;rfl
theorem C2_:Elt 24 22 (.int .u64 0) 1 8:=⟨Tryz.underlying24,by kernel_rfl,rfl,by decide⟩
end
section
open Go.RowKit
def posW:List Int→Int→Option Nat
 | [],_=>none
 | x::r,w=>if x=w then some 0 else (posW r w).map (·+1)
def cntW:List Int→Int→Nat
 | [],_=>0
 | x::r,w=>if x<w then cntW r w+1 else 0
theorem Kf_ {w:Int}:∀{ws:List Int} {i:Nat},posW ws w=some i→ws[i]?=some w∧∀j,j<i→ws[j]?≠some w
 | [],i,h=>by simp[posW] at h
 | x::r,i,h=>by
  unfold posW at h
  split at h
  ·rename_i e;cases h;exact⟨by simp[e],fun j hj=>by omega⟩
  ·rename_i e
   cases hr:posW r w with
   | none=>rw[hr] at h;simp at h
   | some k=>
    rw[hr] at h
    simp at h
    subst h;obtain⟨h1,h2⟩:=Kf_ hr;refine⟨by simpa using h1,fun j hj=>?_⟩
    cases j with
    | zero=>simpa using e
    | succ j=>simpa using h2 j (by omega)
theorem Hg_ {w:Int}:∀{ws:List Int},posW ws w=none↔w∉ws
 | []=>by simp[posW]
 | x::r=>by
  unfold posW
  split
  ·rename_i e;simp[e]
  ·rename_i e
   rw[Option.map_eq_none_iff,Hg_ (ws:=r)]
   simp[Ne.symm e]
theorem Ne_ {w:Int}:∀{ws:List Int} {i:Nat},(∀j,j<i→ws[j]?≠some w)→ws[i]?=some w→posW ws w=some i
 | [],i,_,h=>by simp at h
 | x::r,0,_,h=>by unfold posW;rw[if_pos (by simpa using h)]
 | x::r,i+1,h1,h=>by
  unfold posW;rw[if_neg (by simpa using h1 0 (by omega)),Ne_ (ws:=r) (i:=i) (fun j hj=>by simpa using h1 (j+1) (by omega)) (by simpa using h)]
  rfl
theorem Uw_ {w:Int}:∀{ws:List Int},cntW ws w≤ws.length
 | []=>Nat.le_refl _
 | x::r=>by unfold cntW;split <;> (have:=Uw_ (w:=w) (ws:=r);simp only[List.length_cons];omega)
theorem Ro_ {w:Int}:∀{ws:List Int} {j:Nat} {x:Int},j<cntW ws w→ws[j]?=some x→x<w
 | [],j,x,h,_=>by simp[cntW] at h
 | y::r,j,x,h,hx=>by
  unfold cntW at h
  split at h
  ·rename_i hy
   cases j with
   | zero=>simp at hx;omega
   | succ j=>exact Ro_ (ws:=r) (j:=j) (by omega) (by simpa using hx)
  ·omega
theorem Tc_ {w:Int}:∀{ws:List Int} {x:Int},ws[cntW ws w]?=some x→¬x<w
 | [],x,h=>by simp[cntW] at h
 | y::r,x,h=>by
  unfold cntW at h
  split at h
  ·exact Tc_ (ws:=r) (by simpa using h)
  ·simp at h;omega
theorem J3_ {α:Type} {l:List α} {k:Nat} (hk:k≤l.length) (x:α) (i:Nat) :(l.take k++[x]++l.drop k)[i]?=if i<k then l[i]? else if i=k then some x else l[i-1]?:=by
 have hl :(l.take k).length=k:=by simp;omega
 have hl2 :(l.take k++[x]).length=k+1:=by simp;omega
 by_cases h1:i<k
 ·rw[if_pos h1,List.append_assoc,List.getElem?_append_left (by omega),List.getElem?_take_of_lt h1]
 ·rw[if_neg h1]
  by_cases h2:i=k
  ·subst h2
   rw[if_pos rfl,List.getElem?_append_left (by omega),List.getElem?_append_right (by omega),hl]
   simp
  ·rw[if_neg h2,List.getElem?_append_right (by omega),hl2,List.getElem?_drop]
   congr 1;omega
theorem ae_ {α:Type} {l:List α} {k:Nat} (hk:k≤l.length) (x y:α) :(l.take k++[x]++l.drop k).set k y=l.take k++[y]++l.drop k:=by
 have hl :(l.take k).length=k:=by simp;omega
 rw[List.append_assoc,List.set_append_right _ _ (by omega),hl,Nat.sub_self]
 simp
theorem mem_ins {α:Type} {l:List α} {k:Nat} {x y:α}:y∈l.take k++[x]++l.drop k↔y=x∨y∈l:=by
 conv=>rhs;rw[←List.take_append_drop k l]
 simp only[List.mem_append,List.mem_singleton]
 constructor
 ·rintro((h|h)|h)
  ·exact .inr (.inl h)
  ·exact .inl h
  ·exact .inr (.inr h)
 ·rintro(h|h|h)
  ·exact .inl (.inr h)
  ·exact .inl (.inl h)
  ·exact .inr h
theorem Wo_ {α:Type} {R:α→α→Prop} {l:List α} {k:Nat} {x:α} (h:l.Pairwise R) (h1:∀y∈l,R y x) (h2:∀y∈l,R x y) :(l.take k++[x]++l.drop k).Pairwise R:=by
 have h3:=h;rw[←List.take_append_drop k l] at h3;obtain⟨a,b,c⟩:=List.pairwise_append.1 h3;refine List.pairwise_append.2 ⟨List.pairwise_append.2 ⟨a,by simp,fun y hy z hz=>?_⟩,b,fun y hy z hz=>?_⟩
 ·rw[ms_ hz];exact h1 y (List.mem_of_mem_take hy)
 ·rcases ma_ hy with hy|hy
  ·exact c y hy z hz
  ·rw[ms_ hy];exact h2 z (List.mem_of_mem_drop hz)
theorem S9_ {α:Type} (A D:List α) (x:α):∀T:List α,(T <+: A++[x]++D∨T=[x])→T.length≤A.length∨T <+: A++[x]∨A++[x] <+: T:=by
 rintro T (h|rfl)
 ·rcases List.prefix_or_prefix_of_prefix h (List.prefix_append (A++[x]) D) with h|h
  ·exact .inr (.inl h)
  ·exact .inr (.inr h)
 ·cases A with
  | nil=>exact .inr (.inl (List.prefix_refl _))
  | cons a A=>exact .inl (by simp)
theorem U6_ {α:Type} (A D:List α) (x:α):∀T:List α,(T <+: A++[x]++D∨T=[x])→T.length≤(A++[x]).length∨T <+: A++[x]++D∨A++[x]++D <+: T:=by
 rintro T (h|rfl)
 ·exact .inr (.inl h)
 ·exact .inl (by simp)
structure Co_ where
 (win:Int) (it:ItR)
def waitF (x:Co_):List Value:=[.int .i64 x.win,.string x.it.key,.int .i64 x.it.time,.int .u64 x.it.weight]
theorem Bp_ (x:Co_) :(waitF x).length=4:=rfl
theorem Ov_:OneF waitF:=by intro x u hu;simp[waitF] at hu;rcases hu with rfl|rfl|rfl|rfl <;> rfl
structure ShM where
 (queue:List Co_) (ts:List (Int×Aq_))
def ShM.ws (S:ShM):List Int:=S.ts.map (·.1)
def Aq_.addE (c:Cfg) (t:List Int) (X:Aq_) (k:ByteArray) (w:Int):Aq_:=if X.err k w=0 then X.add c t k w else X
def tierAt (L:List (Int×Aq_)) (win:Int):Option Aq_:=match posW (L.map (·.1)) win with
 | some i=>L[i]?.map (·.2)
 | none=>none
def tsAdd (c:Cfg) (t:List Int) (L:List (Int×Aq_)) (x:Co_):List (Int×Aq_):=
 match posW (L.map (·.1)) x.win with
 | some i=>L.set i (x.win,(((L[i]?).map (·.2)).getD (tier0 c)).addE c t x.it.key x.it.weight)
 | none=>L.take (cntW (L.map (·.1)) x.win)++[(x.win,(tier0 c).addE c t x.it.key x.it.weight)]++L.drop (cntW (L.map (·.1)) x.win)
def stepS (c:Cfg) (t:List Int) (S:ShM):ShM:=match S.queue with
 | []=>S
 | x::q=>⟨q,tsAdd c t S.ts x⟩
def stepsS (c:Cfg) (t:List Int):Nat→ShM→ShM
 | 0,S=>S
 | n+1,S=>stepS c t (stepsS c t n S)
def untilQ (q:List Co_) (win:Int):Nat:=(q.foldl (fun(a:Nat×Nat) x=>(a.1+1,if x.win≤win then a.1+1 else a.2)) (0,0)).2
theorem Rl_ (q:List Co_) (win:Int) :(q.foldl (fun(a:Nat×Nat) x=>(a.1+1,if x.win≤win then a.1+1 else a.2)) (0,0)).1=q.length:=by
 have:∀(q:List Co_) (a:Nat×Nat),(q.foldl (fun(a:Nat×Nat) x=>(a.1+1,if x.win≤win then a.1+1 else a.2)) a).1=a.1+q.length:=by
  intro q
  induction q with
  | nil=>intro a;simp
  | cons x q ih=>intro a;rw[List.foldl_cons,ih];simp only[List.length_cons];omega
 rw[this];simp
theorem M7_ (q:List Co_) (x:Co_) (win:Int):untilQ (q++[x]) win=if x.win≤win then q.length+1 else untilQ q win:=by
 unfold untilQ;rw[List.foldl_append,List.foldl_cons,List.foldl_nil];dsimp only;rw[Rl_]
theorem Hj_ {q:List Co_} {k:Nat} (win:Int) (h:k<q.length):untilQ (q.take (k+1)) win=if q[k].win≤win then k+1 else untilQ (q.take k) win:=by
 rw[tg_ h,M7_,List.length_take,Nat.min_eq_left (by omega)]
theorem Rr_ (q:List Co_) (win:Int):∀k,k≤q.length→untilQ (q.take k) win≤k:=by
 intro k
 induction k with
 | zero=>intro _;simp[untilQ]
 | succ k ih=>
  intro hk;rw[Hj_ win (by omega)]
  have:=ih (by omega)
  split <;> omega
def drainS (c:Cfg) (t:List Int) (S:ShM) (win:Int):ShM:=stepsS c t (untilQ S.queue win) S
def closeS (S:ShM) (win:Int):ShM:=match posW S.ws win with
 | some i=>{ S with ts:=S.ts.take i++S.ts.drop (i+1) }
 | none=>S
structure ShOk (c:Cfg) (S:ShM):Prop where
 queue :(S.queue.length:Int)≤c.Queue
 waits:∀x∈S.queue,(0≤x.win∧x.win≤1099511627776)∧(0≤x.it.time∧x.it.time≤1099511627776)∧W64 x.it.weight∧(0<x.it.key.size∧x.it.key.size≤255)
 tiers:∀p∈S.ts,(0≤p.1∧p.1≤1099511627776)∧TierOk c p.2
theorem Ts_ {c:Cfg} {t:List Int} {X:Aq_} (h:TierOk c X) (hc:Bs_ c) {k:ByteArray} {w:Int} (hw:0≤w):TierOk c (X.addE c t k w):=by
 unfold Aq_.addE
 split
 ·rename_i he
  unfold Aq_.err at he
  split at he
  ·omega
  ·split at he
   ·omega
   ·split at he
    ·omega
    ·split at he
     ·omega
     ·exact h.add hc.depth (by omega) (by omega) (by omega)
 ·exact h
theorem Jm_ {c:Cfg} (hc:Bs_ c):TierOk c (tier0 c):=(Tr_.new [] hc).ok
theorem X8_ {c:Cfg} {t:List Int} {L:List (Int×Aq_)} (hc:Bs_ c) (h:∀p∈L,(0≤p.1∧p.1≤1099511627776)∧TierOk c p.2) {x:Co_} (hx :(0≤x.win∧x.win≤1099511627776)∧W64 x.it.weight):∀p∈tsAdd c t L x,(0≤p.1∧p.1≤1099511627776)∧TierOk c p.2:=by
 have hw:=hx.2.1;intro p hp;unfold tsAdd at hp
 split at hp
 ·rename_i i hi
  rcases List.mem_or_eq_of_mem_set hp with hp|rfl
  ·exact h p hp
  ·refine⟨hx.1,Ts_ ?_ hc hw⟩
   cases hL:L[i]? with
   | none=>exact Jm_ hc
   | some q=>exact(h q (mo_ hL)).2
 ·rw[List.append_assoc] at hp
  rcases ma_ hp with hp|hp
  ·exact h p (List.mem_of_mem_take hp)
  ·rcases ma_ hp with hp|hp
   ·rw[ms_ hp]
    exact⟨hx.1,Ts_ (Jm_ hc) hc hw⟩
   ·exact h p (List.mem_of_mem_drop hp)
theorem Yc_ {c:Cfg} {t:List Int} {S:ShM} (hc:Bs_ c) (h:ShOk c S):ShOk c (stepS c t S):=by
 unfold stepS
 split
 ·exact h
 ·rename_i x q hq
  have hq1:=h.queue;have hw:=h.waits;rw[hq] at hq1 hw;exact⟨by simp at hq1 ⊢;omega,fun y hy=>hw y (by simp[hy]),X8_ hc h.tiers ⟨(hw x (by simp)).1,(hw x (by simp)).2.2.1⟩⟩
theorem Gr_ {c:Cfg} {t:List Int} {S:ShM} (hc:Bs_ c) (h:ShOk c S):∀n,ShOk c (stepsS c t n S)
 | 0=>h
 | n+1=>Yc_ hc (Gr_ hc h n)
theorem Q8_ {c:Cfg} {S:ShM} (h:ShOk c S) (win:Int):ShOk c (closeS S win):=by
 unfold closeS
 split
 ·refine⟨h.queue,h.waits,fun p hp=>?_⟩
  rcases ma_ hp with hp|hp
  ·exact h.tiers p (List.mem_of_mem_take hp)
  ·exact h.tiers p (List.mem_of_mem_drop hp)
 ·exact h
structure CluM where
 (mark:Int) (str:StrM) (led:List (Int×Int)) (acc:Int) (rej:List Int) (sh:List ShM) (items:List ItR)
def routeF (c:Cfg) (t:List Int) (k:ByteArray) (n:Int):Int:=(setF c t k).getD (n%c.Spread).toNat 0
def qLen (K:CluM) (s:Int):Int:=((K.sh[s.toNat]?.map (fun S=>(S.queue.length:Int))).getD 0)
def judgeV (c:Cfg) (t:List Int) (K:CluM) (x:InpR):Int×Int:=
 if x.ver≠0 then (x.ver,0)
 else if verV c K.mark x.it.time≠0 then (verV c K.mark x.it.time,0)
 else if fitsB (ldAt K.led (winV c x.it.time)) x.it.weight=false then (5,0)
 else if qLen K (routeF c t x.it.key K.acc)=c.Queue then (6,0)
 else (0,routeF c t x.it.key K.acc)
def pushS (S:ShM) (win:Int) (it:ItR):ShM:={ S with queue:=S.queue++[⟨win,it⟩] }
def inpK (c:Cfg) (t:List Int) (K:CluM) (x:InpR):CluM×Int:=
 if (judgeV c t K x).1≠0 then ({ K with rej:=rejR K.rej (judgeV c t K x).1 },(judgeV c t K x).1)
 else ({ K with led:=ldPut K.led (winV c x.it.time) x.it.weight,acc:=K.acc+1,sh:=K.sh.set (judgeV c t K x).2.toNat (pushS ((K.sh[(judgeV c t K x).2.toNat]?).getD ⟨[],[]⟩) (winV c x.it.time) x.it),items:=K.items++[x.it] },0)
def inpsK (c:Cfg) (t:List Int) (K:CluM) (l:List InpR):CluM×List Int:=l.foldl (fun a x=>((inpK c t a.1 x).1,a.2++[(inpK c t a.1 x).2])) (K,[])
theorem Fh_ (c:Cfg) (t:List Int) (K:CluM) (l:List InpR) (x:InpR):inpsK c t K (l++[x]) =((inpK c t (inpsK c t K l).1 x).1,(inpsK c t K l).2++[(inpK c t (inpsK c t K l).1 x).2]):=by simp[inpsK]
def chInps (c:Cfg) (x:ChM):List InpR:=if x.ver=0 then inputsF c.Key x.body else [⟨itZ,x.ver⟩]
def feedK (c:Cfg) (t:List Int) (K:CluM) (l:List UInt8):CluM×List Int:=
 inpsK c t { K with str:=(strF K.str l).1 } ((strF K.str l).2.flatMap (chInps c))
def closeK (c:Cfg) (t:List Int) (K:CluM) (win:Int):CluM:={ K with sh:=K.sh.map fun S=>closeS (drainS c t S win) win,led:=ldDel K.led win }
def low1 (c:Cfg) (mark:Int):List Int→List Int:=List.takeWhile fun w=>decide (w<lowV c mark)
def tickK (c:Cfg) (t:List Int) (K:CluM) (time:Int):CluM:=
 (low1 c (max K.mark time) (K.led.map (·.1))).foldl (closeK c t) { K with mark:=max K.mark time }
end
section
open Go.RowKit
abbrev Fp:=Nat→Prop
def Off (F G:Fp):Prop:=∀i,F i→¬G i
theorem Off.symm {F G:Fp} (h:Off F G):Off G F:=fun i hg hf=>h i hf hg
theorem Off.left {F F' G:Fp} (h:Off F G) (k:∀i,F' i→F i):Off F' G:=fun i hf=>h i (k i hf)
theorem Off.right {F G G':Fp} (h:Off F G) (k:∀i,G' i→G i):Off F G':=fun i hf hg=>h i hf (k i hg)
def Low (w:World) (F:Fp):Prop:=∀i,F i→i<w.heap.size
theorem Low.up {w w':World} {F:Fp} (h:Low w F) (k:w.heap.size≤w'.heap.size):Low w' F:=fun i hi=>Nat.lt_of_lt_of_le (h i hi) k
structure Mov (F F':Fp) (w w':World):Prop where
 grown:GrownS F w w'
 new:∀i,F' i→F i∨w.heap.size≤i
theorem Mov.refl (F:Fp) (w:World):Mov F F w w:=⟨GrownS.refl F w,fun _ h=>.inl h⟩
theorem Mov.trans {F F' F'':Fp} {a b c:World} (h:Mov F F' a b) (k:Mov F' F'' b c):Mov F F'' a c:=
 ⟨h.grown.trans k.grown fun i hi hlt=>(h.new i hi).elim id fun e=>absurd hlt (by omega),fun i hi=>(k.new i hi).elim (h.new i) fun e=>.inr (lt_ h.grown.size e)⟩
theorem Mov.of {F F':Fp} {w w':World} (h:w.grownBy w' none) (k:∀i,F' i→F i∨w.heap.size≤i):Mov F F' w w':=⟨GrownS.none_ h,k⟩
theorem Mov.same {F:Fp} {w w':World} (h:w.grownBy w' none):Mov F F w w':=Mov.of h fun _ hi=>.inl hi
theorem Mov.wide {F F' G G':Fp} {w w':World} (h:Mov F F' w w') (h1:∀i,F i→G i) (h2:∀i,G' i→G i∨F' i):Mov G G' w w':=
 ⟨h.grown.mono fun i hi _=>h1 i hi,fun i hi=>(h2 i hi).elim .inl fun hf=>(h.new i hf).imp (h1 i) id⟩
theorem Mov.off {F F' G:Fp} {w w':World} (h:Mov F F' w w') (hl:Low w G) (ho:Off G F):Off G F':=fun i hg hf=>(h.new i hf).elim (ho i hg) fun e=>by have:=hl i hg;omega
theorem Mov.size {F F':Fp} {w w':World} (h:Mov F F' w w'):w.heap.size≤w'.heap.size:=h.grown.size
theorem Mov.back {F F':Fp} {w0 w w':World} (g:w0.grownBy w none) (h:Mov F F' w w') (hF:∀i,F i→w0.heap.size≤i):w0.grownBy w' none:=h.grown.base g hF
theorem Mov.above {F F':Fp} {w0:Nat} {w w':World} (h:Mov F F' w w') (h0:w0≤w.heap.size) (hF:∀i,F i→w0≤i):∀i,F' i→w0≤i:=fun i hi=>(h.new i hi).elim (hF i) fun e=>lt_ h0 e
def ownF (v:Value):Fp:=fun i=>v.ownBlock=some i
theorem Ax_ (i:Nat):¬ownF (.slice none 0 0) i:=by simp[ownF,Value.ownBlock]
def oneF (g:Nat):Fp:=fun i=>i=g
theorem Own.low {α:Type} {f:α→List Value} {s:Nat} {e:TypeId} {B:Nat} {w:World} {v:Value} {l:List α} (h:Own f s e B w v l):Low w (ownF v):=fun i hi=>(h.lt i hi).2
theorem Own.offS {α:Type} {f:α→List Value} {s:Nat} {e:TypeId} {B:Nat} {w w':World} {v:Value} {l:List α} {S:Fp} (h:Own f s e B w v l) (k:GrownS S w w') (ho:Off (ownF v) S):Own f s e B w' v l:=h.keptS k fun g hg=>ho g hg
theorem Own.zero {α:Type} {f:α→List Value} {s:Nat} {e:TypeId} {B:Nat} {w:World} {v:Value} {l:List α} (h:Own f s e B w v l):Own f s e 0 w v l:=h.base fun _ _=>Nat.zero_le _
end
section
open Go.RowKit Go.Sort
theorem Bi_:Elt 126 224 (.agg #[.string ⟨#[]⟩,.int .u64 0,.int .u64 0]) 3 32:=⟨Tryz.underlying126,by kernel_rfl,rfl,by decide⟩
theorem Bh_:OneF entF:=by intro x u hu;simp[entF] at hu;rcases hu with rfl|rfl|rfl <;> rfl
theorem RdL.entr {w:World} {v:Value} {l:List Ent} (h:RdL entF 3 w v l) {k:Nat} (hk:k<l.length):∃g off cap,v=.slice (some ⟨g,off,none⟩) l.length cap∧g<w.heap.size ∧
  w.cell? ⟨g,off+k*3,none⟩=some (.string l[k].key)∧w.cell? ⟨g,off+k*3+1,none⟩=some (.int .u64 l[k].own)∧w.cell? ⟨g,off+k*3+2,none⟩=some (.int .u64 l[k].slack):=by
 obtain⟨g,off,cap,hv,hg,hc⟩:=h.at_ Ay_ hk;exact⟨g,off,cap,hv,hg,hc 0 _ rfl,hc 1 _ rfl,hc 2 _ rfl⟩
theorem d8_ (a b:ByteArray) :(a.toList==b.toList)=decide (a=b):=by
 rw[ByteArray.toList_eq,ByteArray.toList_eq,Bool.eq_iff_iff];simp only[beq_iff_eq,decide_eq_true_eq]
 constructor
 ·intro h;exact L0_ h
 ·rintro rfl;rfl
def plN (L:List Ent) (k:ByteArray):Nat:=L.findIdx (hasK k)
def plI (L:List Ent) (k:ByteArray):Int:=if plN L k<L.length then plN L k else -1
theorem c5_ {L:List Ent} {k:ByteArray} {i:Nat} (h:i<plN L k) (hi:i<L.length):hasK k L[i]=false:=by
 have:=List.not_of_lt_findIdx h
 simpa using this
theorem Y3_ {L:List Ent} {k:ByteArray} (h:plN L k<L.length):hasK k L[plN L k]=true:=List.findIdx_getElem (w:=h)
theorem df_ (L:List Ent) (k:ByteArray):plN L k≤L.length:=List.findIdx_le_length
theorem Uz_ (L:List Ent) (k:ByteArray):getE L k=L[plN L k]?:=by
 unfold getE plN;rw[←List.find?_eq_getElem?_findIdx]
theorem Gq_ {L:List Ent} {k:ByteArray} (h:getE L k=none):plI L k=-1:=by
 rw[Uz_,List.getElem?_eq_none_iff] at h;exact if_neg (by omega)
theorem Cp_ {L:List Ent} {k:ByteArray} {e:Ent} (h:getE L k=some e):plI L k=plN L k∧plN L k<L.length∧L[plN L k]?=some e∧delE L k=L.eraseIdx (plN L k):=by
 rw[Uz_] at h;have hl:=(gs_ h).1;refine⟨if_pos hl,hl,h,?_⟩;unfold delE plN;rw[List.eraseP_eq_eraseIdx]
 have:L.findIdx? (hasK k)=some (L.findIdx (hasK k)):=List.findIdx?_eq_some_of_exists (by
  exact⟨_,mg_ hl,Y3_ hl⟩)
 rw[this]
theorem B3_ (v:Value) (L:List Ent) (k:ByteArray) (w:World) (h:RdL entF 3 w v L):Calls Tryz.prog 182 #[v,.string k] w (RetInt (plI L k) w):=by
 obtain⟨a,c,rfl⟩:=h.shape;have hm:=h.2.1;have H:=hh_ h;have HN1:=hh_ (df_ L k)
 have HN2:=hh_ fun i (h:i<plN L k) h2=>c5_ (k:=k) h h2
 have HN3:=hh_ fun h=>Y3_ (L:=L) (k:=k) h
 have HI:=hh_ (show plI L k=if plN L k<L.length then (plN L k:Int) else -1 from rfl);clear h;generalize plN L k=N at *;generalize plI L k=I at *;have hN:=HN1.out
 go_enter Tryz.func182,Tryz.ntmps182
 go_upto_region 2 with fail
 go_loopw [9] (fun s9 wr=>∃i:Nat,i≤N∧s9=.int .i64 i∧w.grownBy wr none) (fun s9 _=>N-(RowKit.intOf s9).toNat)
 case atStart=>exact⟨0,Nat.zero_le _,rfl,Ab_ _ _⟩
 case round=>
  obtain⟨i,hi,rfl,hg⟩:=hrel
  by_cases hl:i<L.length
  ·obtain⟨g,off,cap,hv,hgl,d0,d1,d2⟩:=RdL.entr (RdL.same H.out hg) hl
   cases hv;have hse:=d8_ L[i].key k
   by_cases hiN:i<N
   ·have hx:=HN2.out i hiN hl
    unfold hasK at hx;rw[hx] at hse;clear hx;generalize L[i]=en at *
    go_upto_region 4 with fail
    have G1:=Ad_ hg (.cells #[.string en.key,.int .u64 en.own,.int .u64 en.slack] 224);have A1:=(Blk.new wr #[.string en.key,.int .u64 en.own,.int .u64 en.slack] 224).cell 0;generalize wr.alloc (.cells #[.string en.key,.int .u64 en.own,.int .u64 en.slack] 224)=w1 at *;generalize wr.heap.size=gk at *;clear d0 d1 d2 hgl hg
    go_wp2_with fail
    exact⟨⟨i+1,by omega,by go_num,G1⟩,by simp[RowKit.intOf];omega⟩
   ·obtain rfl:i=N:=by omega
    have hx:=HN3.out hl;unfold hasK at hx;rw[hx] at hse;clear hx;have hI:=HI.out;rw[if_pos hl] at hI;have HI2:=hh_ hI;clear hI;generalize L[i]=en at *
    go_upto_region 4 with fail
    have G1:=Ad_ hg (.cells #[.string en.key,.int .u64 en.own,.int .u64 en.slack] 224);have A1:=(Blk.new wr #[.string en.key,.int .u64 en.own,.int .u64 en.slack] 224).cell 0;generalize wr.alloc (.cells #[.string en.key,.int .u64 en.own,.int .u64 en.slack] 224)=w1 at *;generalize wr.heap.size=gk at *;clear d0 d1 d2 hgl hg
    go_wp2_with fail
    go_ret
    exact Ai_ (by rw[HI2.out]) G1
  ·have hI:=HI.out
   rw[if_neg (by omega)] at hI;have HI2:=hh_ hI;clear hI
   go_wp2_with fail
   go_ret
   exact Ai_ (by rw[HI2.out]) hg
theorem Du_ (B:Nat) (v:Value) (L:List Ent) (p:Nat) (w:World) (h:Own entF 3 224 B w v L) (hp:p<L.length) (hL:L.length≤1000000):Calls Tryz.prog 183 #[v,.int .i64 p] w (RetOwn entF 3 224 (L.eraseIdx p) w):=by
 obtain⟨a,c,rfl⟩:=h.shape;have hcap:L.length≤c:=h.cap
 have hc1 :(p:Int)≤(c:Int):=by omega
 have hc2 :(p:Int)+1≤(L.length:Int):=by omega
 have hc3 :(L.length:Int)≤(c:Int):=by omega
 have hp0 :(0:Int)≤(p:Int):=by omega
 have hp1 :(p:Int)≤(L.length:Int):=by omega
 have hlt1 :(L.take p).length=p:=by simp;omega
 have hlt2 :(L.drop (p+1)).length=L.length-(p+1):=by simp
 have hb3 :(([]:List Ent).length+(L.take p).length)*32≤140737488355328:=by rw[hlt1];simp;omega
 have hb4 :([]:List Ent).length+(L.take p).length≤9223372036854775807:=by rw[hlt1];simp;omega
 have hb5 :(([]++L.take p:List Ent).length+(L.drop (p+1)).length)*32≤140737488355328:=by rw[List.nil_append,hlt1,hlt2];omega
 have hb6 :([]++L.take p:List Ent).length+(L.drop (p+1)).length≤9223372036854775807:=by rw[List.nil_append,hlt1,hlt2];omega
 have hR1:RdL entF 3 (w.alloc (.cells #[] 224)).drew (.slice a p c) (L.take p):=(h.rd.take Ay_ (by omega) c).same (Am_ (ga_ w _ none));have hO0:Own entF 3 224 w.heap.size (w.alloc (.cells #[] 224)).drew (.slice (some ⟨w.heap.size,0,none⟩) 0 0) []:=Aw_ entF 3 (Nat.le_refl _)
 have hs2:w.heap.size≤(w.alloc (.cells #[] 224)).drew.heap.size:=by simp[World.drew]
 have HR2:=hh_ fun w' (q:w.grownBy w' none)=>RdL.same (h.rd.drop Ay_ (show p+1≤L.length by omega) hcap (c-(p+1))) q
 have Hlt1:=hh_ hlt1.symm;have Hlt2:=hh_ hlt2.symm;have he3:=hh_ (show([]++L.take p++L.drop (p+1):List Ent)=L.eraseIdx p by rw[List.nil_append];exact(List.eraseIdx_eq_take_drop_succ L p).symm);have hw1:IntKind.i64.wrap ((p:Int)+1) =(p:Int)+1:=IntWalk.i64_in _ (by omega)
 have hw2 :((p:Int)+1).toNat=p+1:=by omega
 have hw3 :(0:Int)≤(p:Int)+1:=by omega
 have hpl:p+1≤L.length:=by omega
 have tok:=hh_ hp;clear h hlt1 hlt2 hp
 go_enter Tryz.func183,Tryz.ntmps183
 go_upto_region 1 with fail
 go_region_law ((first
  |(have _t:=tok;refine F0_ Bi_ Bh_ hO0 hR1 Hlt1.out hb3 hb4 hs2 (by rfl) _ _ (by rfl) (by rfl) (by rfl) ?_;intro v2 w2 o2 g2 l2;clear tok;have hg2:=Ao_ (Am_ (Ad_ (Ab_ w none) _)) hO0 (Nat.le_refl _) g2;have hR2:=HR2.out _ hg2;have hs3:=hg2.size)
  |(refine F0_ Bi_ Bh_ o2 hR2 Hlt2.out hb5 hb6 hs3 (by rfl) _ _ (by rfl) (by rfl) (by rfl) ?_;intro v3 w3 o3 g3 l3)))
 have hg3:=Ao_ hg2 o2 (Nat.le_refl _) g3;rw[he3.out] at o3;obtain⟨a3,c3,hv3⟩:=o3.shape;subst hv3;clear hR2 HR2;generalize (if c=p+1 then a else Option.map (fun x=>x.add ((p+1)*3)) a)=od at *
 go_wp2_with fail
 go_ret
 exact⟨_,rfl,o3,hg3⟩
abbrev eV (e:Ent):Value:=.agg #[.string e.key,.int .u64 e.own,.int .u64 e.slack]
abbrev ent0:Ent:=⟨⟨#[]⟩,0,0⟩
def optV (o:Option Ent):Value:=.tuple #[eV (o.getD ent0),.bool o.isSome]
abbrev rtA (T:TabM) (v:Value):Array Value:=#[.int .i64 T.mode,.int .i64 T.m,v,.int .u64 T.base,.int .u64 T.sum]
structure RTab (w:World) (g:Nat) (v:Value) (T:TabM):Prop where
 blk:Blk w g (rtA T v)
 own:Own entF 3 224 0 w v T.L
 ne:¬ownF v g
def rtF (g:Nat) (v:Value):Fp:=fun i=>i=g∨ownF v i
theorem RTab.low {w:World} {g:Nat} {v:Value} {T:TabM} (h:RTab w g v T):Low w (rtF g v):=fun i hi=>hi.elim (fun e=>e▸h.blk.lt) (h.own.low i)
theorem RTab.keptS {w w':World} {g:Nat} {v:Value} {T:TabM} {S:Fp} (h:RTab w g v T) (k:GrownS S w w') (ho:Off (rtF g v) S):RTab w' g v T:=
 ⟨h.blk.keptS k (ho g (.inl rfl)),h.own.offS k (ho.left fun i hi=>.inr hi),h.ne⟩
theorem RTab.same {w w':World} {g:Nat} {v:Value} {T:TabM} (h:RTab w g v T) (k:w.grownBy w' none):RTab w' g v T:=h.keptS (GrownS.none_ (S:=fun _=>False) k) fun _ _=>id
theorem Hd_ {x:Int} (h0:0≤x) (h1:x≤mostW):W64 x:=by unfold mostW at h1;exact⟨h0,by omega⟩
theorem Bu_.w64 {T:TabM} (h:Bu_ T):W64 T.base∧W64 T.sum∧∀e∈T.L,W64 e.own∧W64 e.slack∧e.own+e.slack≤mostW∧e.own≤T.sum:=by
 have hb:=h.base;have hs:=h.sum;refine⟨Hd_ hb.1 (by omega),Hd_ (by omega) hs,fun e he=>?_⟩;have h1:=h.ents.own e he;have h2:=h.ents.slack e he;have h3:=h.cnt e he
 have h4:e.own+e.slack≤mostW:=by
  by_cases hm:T.mode=2
  ·rw[fix2 hm] at h3
   have:=h.zero hm e he
   simp only[Ent.cnt] at h3;omega
  ·rw[fix1 hm] at h3
   simp only[Ent.cnt] at h3;omega
 have h5:e.own≤T.sum:=by
  by_cases hm:T.mode=2
  ·rw[fix2 hm] at h3;simp only[Ent.cnt] at h3;omega
  ·rw[fix1 hm] at h3;simp only[Ent.cnt] at h3;omega
 exact⟨Hd_ (by omega) (by omega),Hd_ h2 (by omega),h4,h5⟩
end
section
open Go.RowKit Go.Sort
theorem Mz_ {L:List Ent} {k:ByteArray} {e:Ent} (h:getE L k=some e) {w:World} {v:Value} (hr:RdL entF 3 w v L):∃g off cap,v=.slice (some ⟨g,off,none⟩) L.length cap∧g<w.heap.size ∧
  w.cell? ⟨g,off+plN L k*3,none⟩=some (.string e.key)∧w.cell? ⟨g,off+plN L k*3+1,none⟩=some (.int .u64 e.own)∧w.cell? ⟨g,off+plN L k*3+2,none⟩=some (.int .u64 e.slack):=by
 obtain⟨_,hl,he,_⟩:=Cp_ h
 have:=hr.entr hl
 rw[gq_ hl] at he;rw[Option.some.inj he] at this;exact this
theorem Zh_ (g:Nat) (v:Value) (T:TabM) (k:ByteArray) (w:World) (h:RTab w g v T):Calls Tryz.prog 160 #[.pointer (some ⟨g,0,none⟩),.string k] w (B6_ (optV (T.get k)) w):=by
 have H:=hh_ h
 have HP:=hh_ fun y (q:w.grownBy y none)=>B3_ v T.L k y (h.same q).own.rd
 have hglt:=h.blk.lt;have hne:=h.ne
 cases hg:getE T.L k with
 | none=>
  rw[Gq_ hg] at HP;have hR:=hh_ (show T.get k=none by unfold TabM.get;rw[hg];rfl);rw[hR.out];clear h hg
  go_enter Tryz.func160,Tryz.ntmps160
  go_upto_region 1 with fail
  (have A1:=Blk.new w #[.string ⟨#[]⟩,.int .u64 0,.int .u64 0] 224);(have G1:=ga_ w (.cells #[.string ⟨#[]⟩,.int .u64 0,.int .u64 0] 224) none);generalize w.alloc (.cells #[.string ⟨#[]⟩,.int .u64 0,.int .u64 0] 224)=w1 at *;generalize hgb:w.heap.size=gb at *
  have b1:=(H.out.same G1).blk.cell
  go_upto_region 2 with(go_at_call 182;refine(HP.out _ G1).mono ?_;rintro e w2 ⟨rfl,g2⟩)
  have A2:=A1.same g2;have K2:=Aa_ G1 g2;have f2:=A2.free;have a2:=A2.cell
  go_wp2_with fail
  (have g3:World.grownBy w2 (((w2.setCell ⟨gb,0,none⟩ (.string ⟨#[]⟩)).setCell ⟨gb,1,none⟩ (.int .u64 0)).setCell ⟨gb,2,none⟩ (.int .u64 0)) (some gb):=Ac_ (Ac_ (Ac_ (Ab_ _ _) _ _) _ _) _ _);(have A3:Blk (((w2.setCell ⟨gb,0,none⟩ (.string ⟨#[]⟩)).setCell ⟨gb,1,none⟩ (.int .u64 0)).setCell ⟨gb,2,none⟩ (.int .u64 0)) gb #[.string ⟨#[]⟩,.int .u64 0,.int .u64 0]:=((Blk.set_ (by assumption) 0 _ rfl).set_ 1 _ rfl).set_ 2 _ rfl);generalize ((w2.setCell ⟨gb,0,none⟩ (.string ⟨#[]⟩)).setCell ⟨gb,1,none⟩ (.int .u64 0)).setCell ⟨gb,2,none⟩ (.int .u64 0)=w3 at *
  have rc:=A3.cell;refine bodyPost_ret (v:=.tuple #[eV ent0,.bool false]) (by simp[results,Tryz.results160,go_sem,rc]) rfl ?_;exact Bf_ rfl (Af_ K2 g3 (by omega))
 | some e=>
  obtain⟨i1,_,_,_⟩:=Cp_ hg;rw[i1] at HP
  have HC:=hh_ fun y (q:w.grownBy y none)=>Mz_ hg (h.same q).own.rd
  have hR:=hh_ (show T.get k=some (T.fix e) by unfold TabM.get;rw[hg];rfl);rw[hR.out];have hl:=(Cp_ hg).2.1;generalize plN T.L k=N at *;obtain⟨a,c,hv⟩:=h.own.shape;subst hv;clear h hg
  go_enter Tryz.func160,Tryz.ntmps160
  go_upto_region 1 with fail
  (have A1:=Blk.new w #[.string ⟨#[]⟩,.int .u64 0,.int .u64 0] 224);(have G1:=ga_ w (.cells #[.string ⟨#[]⟩,.int .u64 0,.int .u64 0] 224) none);generalize w.alloc (.cells #[.string ⟨#[]⟩,.int .u64 0,.int .u64 0] 224)=w1 at *;generalize hgb:w.heap.size=gb at *
  have b1:=(H.out.same G1).blk.cell
  go_upto_region 2 with(go_at_call 182;refine(HP.out _ G1).mono ?_;rintro e w2 ⟨rfl,g2⟩)
  have A2:=A1.same g2;have K2:=Aa_ G1 g2;have b2:=(H.out.same K2).blk.cell;obtain⟨g',off,cap,hv,hgl,d0,d1,d2⟩:=HC.out _ K2;cases hv
  go_upto_region 5 with fail
  (have A3:=Blk.new w2 #[.string e.key,.int .u64 e.own,.int .u64 e.slack] 224);(have G3:=ga_ w2 (.cells #[.string e.key,.int .u64 e.own,.int .u64 e.slack] 224) none);generalize w2.alloc (.cells #[.string e.key,.int .u64 e.own,.int .u64 e.slack] 224)=w3 at *;generalize hgc:w2.heap.size=gc at *
  have K3:=Aa_ K2 G3;have b3:=(H.out.same K3).blk.cell;have hge:=A2.lt;have A4:=A2.same G3;clear A1 A2 d0 d1 d2 b1 b2 HC HP;have hz2:=K2.size
  by_cases hm:T.mode=2
  ·have hF:=hh_ (fix2 hm e)
   have hm2 :(T.mode==2)=true:=beq_iff_eq.2 hm;have a3:=A3.cell;have f3:=A3.free
   go_upto_region 7 with fail
   have A5:=A3.set_ 2 (.int .u64 T.base) (cs':=#[.string e.key,.int .u64 e.own,.int .u64 T.base]) rfl;have A6:=A4.off (show gc≠gb by omega) 2 (.int .u64 T.base);have K5:w.grownBy (w3.setCell ⟨gc,2,none⟩ (.int .u64 T.base)) none:=Aj_ (p:=⟨gc,2,none⟩) K3 (show w.heap.size≤gc by omega) _;clear a3 f3 b3 A3 A4 hm hm2;generalize w3.setCell ⟨gc,2,none⟩ (.int .u64 T.base)=w5 at *;have a5:=A5.cell;have a6:=A6.cell;have f6:=A6.free
   go_wp2_with fail
   (have g7:World.grownBy w5 (((w5.setCell ⟨gb,0,none⟩ (.string e.key)).setCell ⟨gb,1,none⟩ (.int .u64 e.own)).setCell ⟨gb,2,none⟩ (.int .u64 T.base)) (some gb):=Ac_ (Ac_ (Ac_ (Ab_ _ _) _ _) _ _) _ _);(have A7:Blk (((w5.setCell ⟨gb,0,none⟩ (.string e.key)).setCell ⟨gb,1,none⟩ (.int .u64 e.own)).setCell ⟨gb,2,none⟩ (.int .u64 T.base)) gb #[.string e.key,.int .u64 e.own,.int .u64 T.base]:=((Blk.set_ (by assumption) 0 _ rfl).set_ 1 _ rfl).set_ 2 _ rfl);generalize ((w5.setCell ⟨gb,0,none⟩ (.string e.key)).setCell ⟨gb,1,none⟩ (.int .u64 e.own)).setCell ⟨gb,2,none⟩ (.int .u64 T.base)=w7 at *
   have rc:=A7.cell;refine bodyPost_ret (v:=.tuple #[.agg #[.string e.key,.int .u64 e.own,.int .u64 T.base],.bool true]) (by simp[results,Tryz.results160,go_sem,rc]) rfl ?_;exact Bf_ (by rw[hF.out];rfl) (Af_ K5 g7 (by omega))
  ·have hF:=hh_ (fix1 hm e)
   have hm2 :(T.mode==2)=false:=beq_eq_false_iff_ne.2 hm;have a3:=A3.cell;have a4:=A4.cell;have f4:=A4.free
   go_wp2_with fail
   (have g7:World.grownBy w3 (((w3.setCell ⟨gb,0,none⟩ (.string e.key)).setCell ⟨gb,1,none⟩ (.int .u64 e.own)).setCell ⟨gb,2,none⟩ (.int .u64 e.slack)) (some gb):=Ac_ (Ac_ (Ac_ (Ab_ _ _) _ _) _ _) _ _);(have A7:Blk (((w3.setCell ⟨gb,0,none⟩ (.string e.key)).setCell ⟨gb,1,none⟩ (.int .u64 e.own)).setCell ⟨gb,2,none⟩ (.int .u64 e.slack)) gb #[.string e.key,.int .u64 e.own,.int .u64 e.slack]:=((Blk.set_ (by assumption) 0 _ rfl).set_ 1 _ rfl).set_ 2 _ rfl);generalize ((w3.setCell ⟨gb,0,none⟩ (.string e.key)).setCell ⟨gb,1,none⟩ (.int .u64 e.own)).setCell ⟨gb,2,none⟩ (.int .u64 e.slack)=w7 at *
   have rc:=A7.cell;refine bodyPost_ret (v:=.tuple #[.agg #[.string e.key,.int .u64 e.own,.int .u64 e.slack],.bool true]) (by simp[results,Tryz.results160,go_sem,rc]) rfl ?_;exact Bf_ (by rw[hF.out];rfl) (Af_ K3 g7 (by omega))
theorem Ce_ (g:Nat) (v:Value) (T:TabM) (k:ByteArray) (en:Ent) (w:World) (h:RTab w g v T) (hg:T.get k=some en):Calls Tryz.prog 160 #[.pointer (some ⟨g,0,none⟩),.string k] w (B6_ (.tuple #[.agg #[.string en.key,.int .u64 en.own,.int .u64 en.slack],.bool true]) w):=by
 have:=Zh_ g v T k w h
 rw[hg] at this;exact this
theorem T6_ (g:Nat) (v:Value) (T:TabM) (k:ByteArray) (w:World) (h:RTab w g v T) (hg:T.get k=none):Calls Tryz.prog 160 #[.pointer (some ⟨g,0,none⟩),.string k] w (B6_ (.tuple #[.agg #[.string ⟨#[]⟩,.int .u64 0,.int .u64 0],.bool false]) w):=by
 have:=Zh_ g v T k w h
 rw[hg] at this;exact this
theorem Tj_ {T:TabM} {k:ByteArray} {en:Ent} (h:getE T.L k=some en):T.get k=some (T.fix en):=by unfold TabM.get;rw[h];rfl
end
section
open Go.RowKit Go.Sort
theorem RTab.setSum {w:World} {g:Nat} {v:Value} {T:TabM} (h:RTab w g v T) (s:Int):RTab (w.setCell ⟨g,4,none⟩ (.int .u64 s)) g v { T with sum:=s }∧w.grownBy (w.setCell ⟨g,4,none⟩ (.int .u64 s)) (some g):=
 ⟨⟨h.blk.set_ 4 _ rfl,h.own.kept (Ac_ (Ab_ w (some g)) _ _) fun q hq e=>h.ne (by cases e;exact hq),h.ne⟩,Ac_ (Ab_ w (some g)) _ _⟩
theorem RTab.setBase {w:World} {g:Nat} {v:Value} {T:TabM} (h:RTab w g v T) (s:Int):RTab (w.setCell ⟨g,3,none⟩ (.int .u64 s)) g v { T with base:=s }∧w.grownBy (w.setCell ⟨g,3,none⟩ (.int .u64 s)) (some g):=
 ⟨⟨h.blk.set_ 3 _ rfl,h.own.kept (Ac_ (Ab_ w (some g)) _ _) fun q hq e=>h.ne (by cases e;exact hq),h.ne⟩,Ac_ (Ab_ w (some g)) _ _⟩
theorem RTab.setL {w:World} {g:Nat} {v v':Value} {T:TabM} (h:Blk w g (rtA T v)) {B:Nat} {L:List Ent} (ho:Own entF 3 224 B w v' L) (hn:¬ownF v' g):RTab (w.setCell ⟨g,2,none⟩ v') g v' { T with L:=L }∧w.grownBy (w.setCell ⟨g,2,none⟩ v') (some g):=
 ⟨⟨h.set_ 2 _ rfl,(ho.kept (Ac_ (Ab_ w (some g)) _ _) fun q hq e=>hn (by cases e;exact hq)).zero,hn⟩,Ac_ (Ab_ w (some g)) _ _⟩
theorem lies_new {v v':Value} {n:Nat} (l:Lies v v' n):∀i,ownF v' i→ownF v i∨n≤i:=fun i hi=>by
 rcases l with l |⟨q,l,l6⟩
 ·exact .inl (l.symm.trans hi)
 ·rw[hi] at l;cases l;exact .inr l6
theorem F1_ {v v':Value} {n g:Nat} (l:Lies v v' n) (hn:¬ownF v g) (hg:g<n):¬ownF v' g:=fun e=>(lies_new l g e).elim hn fun h=>by omega
theorem Nk_ (L:List Ent) (x:Int) (e:Ent):minOwn (L++[e]) x=min (minOwn L x) e.own:=by simp[minOwn]
theorem Tm_ (L:List Ent) (d:Int) (e:Ent):cutE (L++[e]) d=cutE L d++(if 0<e.own-d then [⟨e.key,e.own-d,e.slack⟩] else []):=by
 unfold cutE;rw[List.map_append,List.filter_append]
 congr 1
 simp only[List.map_cons,List.map_nil,List.filter_cons,List.filter_nil]
 by_cases h:0<e.own-d
 ·rw[if_pos (by simpa using h),if_pos h]
 ·rw[if_neg (by simpa using h),if_neg h]
def TabM.deduct (T:TabM) (k:ByteArray) (x:Int):TabM:=
 if (T.L.length:Int)=T.m then { T with base:=T.base+minOwn T.L x,L:=if 0<x-minOwn T.L x then cutE T.L (minOwn T.L x)++[⟨k,x-minOwn T.L x,0⟩] else cutE T.L (minOwn T.L x) }
 else { T with L:=T.L++[⟨k,x,0⟩] }
structure Ded (T:TabM) (x:Int):Prop where
 own:∀e∈T.L,1≤e.own∧W64 e.own∧W64 e.slack
 len:T.L.length≤64
 base:W64 T.base
 sum:0≤T.base∧0≤x∧T.base+x≤18446744073709551615
 m:1≤T.m∧T.m≤64
theorem Sc_ (g:Nat) (v:Value) (T:TabM) (k:ByteArray) (x:Int) (w:World) (h:RTab w g v T) (hD:Ded T x) (hx1:1≤x) :
  Calls Tryz.prog 184 #[.pointer (some ⟨g,0,none⟩),.string k,.int .u64 x] w (fun e w'=>e=.returned (.tuple #[])∧∃v',RTab w' g v' (T.deduct k x)∧Mov (rtF g v) (rtF g v') w w'):=by
 obtain⟨a,c,hv⟩:=h.own.shape;have H:=hh_ h;have hglt:=h.blk.lt;have hlen:=hD.len;obtain⟨m1,m2⟩:=hD.m;obtain⟨s0,s1,s2⟩:=hD.sum;subst hv;have b0:=h.blk.cell;have f0:=h.blk.free
 by_cases hl :(T.L.length:Int)=T.m
 ·have hl2 :((T.L.length:Int)==T.m)=true:=beq_iff_eq.2 hl
  have HD:=hh_ hD;have HR:=hh_ (show T.deduct k x={ T with base:=T.base+minOwn T.L x,L:=if 0<x-minOwn T.L x then cutE T.L (minOwn T.L x)++[⟨k,x-minOwn T.L x,0⟩] else cutE T.L (minOwn T.L x) } from if_pos hl);have HM:=hh_ (Kq_ T.L x);have HMp:=hh_ (minOwn_pos hx1 fun e he=>(hD.own e he).1);clear h hl hD
  go_enter Tryz.func184,Tryz.ntmps184
  go_upto_region 1 with fail
  go_quiet (fail)
  have Hd1:World.grownBy w (w.drewN nq) none:=Ae_ (Ab_ w none) _;generalize w.drewN nq=w1 at *;have b1:=(H.out.same Hd1).blk.cell;clear b0 f0
  go_upto_region 3 with fail
  go_loopw [6,28] (fun s6 s28 wk=>∃j:Nat,j≤T.L.length∧s28=.int .i64 j∧s6=.int .u64 (minOwn (T.L.take j) x)∧w.grownBy wk none) (fun _ s28 _=>T.L.length-(RowKit.intOf s28).toNat)
  case atStart=>exact⟨0,Nat.zero_le _,rfl,by simp[minOwn],Hd1⟩
  case round=>
   obtain⟨j,hj,rfl,rfl,hg⟩:=hrel;clear b1 Hd1
   by_cases hjl:j<T.L.length
   ·obtain⟨g',off,cap,hv,hgl,d0,d1,d2⟩:=(H.out.same hg).own.rd.entr hjl
    cases hv;have HT:=hh_ (show minOwn (T.L.take (j+1)) x=min (minOwn (T.L.take j) x) T.L[j].own by rw[tg_ hjl,Nk_]);generalize minOwn (T.L.take j) x=mo at *;generalize T.L[j]=e at *
    go_upto_region 5 with fail
    (have A1:=Blk.new wr #[.string e.key,.int .u64 e.own,.int .u64 e.slack] 224);(have G1:=ga_ wr (.cells #[.string e.key,.int .u64 e.own,.int .u64 e.slack] 224) none);generalize wr.alloc (.cells #[.string e.key,.int .u64 e.own,.int .u64 e.slack] 224)=w2 at *;generalize hgb:wr.heap.size=gb at *
    have K2:=Aa_ hg G1;have a1:=A1.cell;clear d0 d1 d2 hgl hg
    go_wp2_with fail
    exact⟨⟨j+1,by omega,by go_num,by rw[HT.out],K2⟩,by simp[RowKit.intOf];omega⟩
   ·have hje:T.L.take j=T.L:=tk_ (by omega)
    rw[hje];have hm1:=HM.out;have hmp:=HMp.out
    have hcut:∀(j:Nat) (e:Ent),T.L[j]?=some e→minOwn T.L x≤e.own:=fun j e he=>hm1.2 e (mo_ he)
    have Hcut:=hh_ hcut;generalize minOwn T.L x=d at *;clear HM HMp hcut hje;have R1:=H.out.same hg;have b1:=R1.blk.cell;have f1:=R1.blk.free;have hwr:IntKind.u64.wrap (T.base+d)=T.base+d:=IntWalk.u64_in _ (by omega)
    go_upto_region 8 with fail
    obtain⟨R2,g2⟩:=R1.setBase (T.base+d);clear R1 b1 f1 hwr;have hz:w.heap.size≤(wr.setCell ⟨g,3,none⟩ (.int .u64 (T.base+d))).heap.size:=lt_ hg.size g2.size
    have M2:GrownS (oneF g) w (wr.setCell ⟨g,3,none⟩ (.int .u64 (T.base+d))):=(GrownS.none_ (S:=oneF g) hg).trans (GrownS.of g2 fun q e=>by cases e;exact rfl) fun i hi _=>hi
    clear hg g2;generalize wr.setCell ⟨g,3,none⟩ (.int .u64 (T.base+d))=w2 at *;have HR2:=hh_ R2;have b2:=R2.blk.cell;have hwr:IntKind.u64.wrap (x-d)=x-d:=IntWalk.u64_in _ (by omega);clear R2
    go_upto_region 11 with fail
    clear b2
    have hwo:=fun(j:Nat) (e:Ent) (he:T.L[j]?=some e)=>HD.out.own e (mo_ he)
    have Hwo:=hh_ hwo;clear hwo
    go_loopw [9,53] (fun s9 s53 wk=>∃j:Nat,j≤T.L.length∧s53=.int .i64 j∧Own entF 3 224 w2.heap.size wk s9 (cutE (T.L.take j) d)∧w2.grownBy wk none) (fun _ s53 _=>T.L.length-(RowKit.intOf s53).toNat)
    case atStart=>exact⟨0,Nat.zero_le _,rfl,by simpa [cutE] using Own.nil entF 3 _ _ _,Ab_ _ _⟩
    case round=>
     obtain⟨j,hj,rfl,hO,hg⟩:=hrel
     by_cases hjl:j<T.L.length
     ·obtain⟨g',off,cap,hv,hgl,d0,d1,d2⟩:=(HR2.out.same hg).own.rd.entr hjl
      cases hv;obtain⟨o1,⟨o2,o3⟩,o4,o5⟩:=Hwo.out j _ (gq_ hjl);have o6:=Hcut.out j _ (gq_ hjl);have HT:=hh_ (show cutE (T.L.take (j+1)) d=cutE (T.L.take j) d++(if 0<T.L[j].own-d then [⟨T.L[j].key,T.L[j].own-d,T.L[j].slack⟩] else []) by rw[tg_ hjl,Tm_]);have hcl:=lt_ (Fx_ (T.L.take j) d) (List.length_take_le _ _);generalize cutE (T.L.take j) d=C at *;generalize T.L[j]=e at *
      go_upto_region 13 with fail
      (have A1:=Blk.new wr #[.string e.key,.int .u64 e.own,.int .u64 e.slack] 224);(have G1:=ga_ wr (.cells #[.string e.key,.int .u64 e.own,.int .u64 e.slack] 224) none);generalize wr.alloc (.cells #[.string e.key,.int .u64 e.own,.int .u64 e.slack] 224)=w3 at *;generalize hgb:wr.heap.size=gb at *
      have K3:=Aa_ hg G1;have O3:=hO.same G1;have a3:=A1.cell;have f3:=A1.free;have hwr2:IntKind.u64.wrap (e.own-d)=e.own-d:=IntWalk.u64_in _ (by omega);clear d0 d1 d2 hgl
      go_upto_region 14 with fail
      have A4:=A1.set_ 1 (.int .u64 (e.own-d)) (cs':=#[.string e.key,.int .u64 (e.own-d),.int .u64 e.slack]) rfl;have hg4:w3.grownBy (w3.setCell ⟨gb,1,none⟩ (.int .u64 (e.own-d))) (some gb):=Ac_ (Ab_ _ _) _ _;have hgsz:=hg.size;have K4:w2.grownBy (w3.setCell ⟨gb,1,none⟩ (.int .u64 (e.own-d))) none:=Af_ K3 hg4 (by omega);have O4:=O3.kept hg4 (fun q hq e'=>by cases e';have:=(hO.lt _ hq).2;omega);clear a3 f3 hwr2 A1 O3 K3 hO;generalize w3.setCell ⟨gb,1,none⟩ (.int .u64 (e.own-d))=w4 at *;have a4:=A4.cell
      by_cases hp:0<e.own-d
      ·have hT:=HT.out
       rw[if_pos hp] at hT;have HT2:=hh_ hT;clear hT HT;obtain⟨oa,oc,rfl⟩:=O4.shape
       have hb1 :(C.length+1)*32≤140737488355328:=by omega
       have hb2:C.length+1≤9223372036854775807:=by omega
       have hz4:=K4.size
       go_wp2_with (at_builtin;refine A5_ (l:=C) Bi_ Bh_ Ay_ O4 ⟨e.key,e.own-d,e.slack⟩ hb1 hb2 hz4 (by rfl) rfl _ _ rfl rfl rfl ?_;intro v5 w5 o5 g5 l5)
       refine⟨⟨j+1,by omega,by go_num,by rw[HT2.out];exact o5,Ao_ K4 O4 (Nat.le_refl _) g5⟩,by simp[RowKit.intOf];omega⟩
      ·have hT:=HT.out
       rw[if_neg hp,List.append_nil] at hT;have HT2:=hh_ hT;clear hT HT
       go_wp2_with fail
       refine⟨⟨j+1,by omega,by go_num,by rw[HT2.out];exact O4,K4⟩,by simp[RowKit.intOf];omega⟩
     ·have hje:T.L.take j=T.L:=tk_ (by omega)
      rw[hje] at hO;obtain⟨oa,oc,rfl⟩:=hO.shape;have Hcl:=hh_ (Fx_ T.L d);generalize cutE T.L d=C at *;have R3:=HR2.out.same hg;have b3:=R3.blk.cell;have f3:=R3.blk.free
      go_upto_region 18 with fail
      have hgl2:g<w2.heap.size:=by omega
      have hnv:¬ownF (.slice oa C.length oc) g:=fun e=>by have:=(hO.lt _ e).1;omega
      obtain⟨R4,g4⟩:=RTab.setL R3.blk hO hnv
      have M4:GrownS (oneF g) w (wr.setCell ⟨g,2,none⟩ (.slice oa C.length oc)):=(M2.trans (GrownS.none_ (S:=oneF g) hg) fun i hi _=>hi).trans (GrownS.of g4 fun q e=>by cases e;exact rfl) fun i hi _=>hi
      have hv0:=fun q (hq :(Value.slice oa C.length oc).ownBlock=some q)=>(hO.lt q hq).1
      have hsz4:w2.heap.size≤(wr.setCell ⟨g,2,none⟩ (.slice oa C.length oc)).heap.size:=lt_ hg.size g4.size;clear b3 f3 R3 hO hg g4 hje HR2 Hwo Hcut;generalize wr.setCell ⟨g,2,none⟩ (.slice oa C.length oc)=w4 at *;have HR4:=hh_ R4;have b4:=R4.blk.cell;have f4:=R4.blk.free
      by_cases hp:0<x-d
      ·have hR:=HR.out
       rw[if_pos hp] at hR;have HRR:=hh_ hR;have hcl:=Hcl.out
       have hb1 :(C.length+1)*32≤140737488355328:=by omega
       have hb2:C.length+1≤9223372036854775807:=by omega
       have hO4:=R4.own;clear hR HR R4
       go_wp2_with (at_builtin;refine A5_ (l:=C) Bi_ Bh_ Ay_ hO4 ⟨k,x-d,0⟩ hb1 hb2 (Nat.zero_le _) (by rfl) rfl _ _ rfl rfl rfl ?_;intro v5 w5 o5 g5 l5;have B5:=HR4.out.blk.kept g5 (fun e=>HR4.out.ne e);have b5:=B5.cell;have f5:=B5.free;obtain⟨a5,c5,hv5⟩:=o5.shape;rw[List.length_append,List.length_singleton] at hv5;subst hv5)
       go_end0
       have hn5:=F1_ l5 HR4.out.ne (by omega);obtain⟨R6,g6⟩:=RTab.setL B5 o5 hn5;refine⟨rfl,_,by rw[HRR.out];exact R6,?_,?_⟩
       ·refine((M4.mono (T:=rtF g (.slice a T.L.length c)) fun i hi _=>.inl hi).trans (GrownS.of (S:=fun i=>ownF (.slice oa C.length oc) i) g5 fun q e=>e) fun i hi hlt=>?_).trans (GrownS.of (S:=oneF g) g6 fun q e=>by cases e;exact rfl) fun i hi _=>.inl hi
        have:=hv0 i hi;omega
       ·intro i hi
        rcases hi with hi|hi
        ·exact .inl (.inl hi)
        ·right
         rcases lies_new l5 i hi with hi|hi
         ·have:=hv0 i hi;omega
         ·omega
      ·have hR:=HR.out
       rw[if_neg hp] at hR;have HRR:=hh_ hR;clear hR HR R4
       go_wp2_with fail
       go_end0
       refine⟨rfl,_,by rw[HRR.out];exact HR4.out,M4.mono fun i hi _=>.inl hi,fun i hi=>?_⟩
       rcases hi with hi|hi
       ·exact .inl (.inl hi)
       ·exact .inr (by have:=hv0 i hi;omega)
 ·have hl2 :((T.L.length:Int)==T.m)=false:=beq_eq_false_iff_ne.2 hl
  have HR:=hh_ (show T.deduct k x={ T with L:=T.L++[⟨k,x,0⟩] } from if_neg hl)
  have hxp:0<x:=by omega
  clear h hl hD
  go_enter Tryz.func184,Tryz.ntmps184
  go_upto_region 1 with fail
  go_quiet (fail)
  have Hd1:World.grownBy w (w.drewN nq) none:=Ae_ (Ab_ w none) _;generalize w.drewN nq=w1 at *;have R1:=H.out.same Hd1;have HR1:=hh_ R1;have b1:=R1.blk.cell;have f1:=R1.blk.free;have hO1:=R1.own
  have hb1 :(T.L.length+1)*32≤140737488355328:=by omega
  have hb2:T.L.length+1≤9223372036854775807:=by omega
  have hgl1:g<w1.heap.size:=R1.blk.lt;clear b0 f0 R1
  go_wp2_with (at_builtin;refine A5_ (l:=T.L) Bi_ Bh_ Ay_ hO1 ⟨k,x,0⟩ hb1 hb2 (Nat.zero_le _) (by rfl) rfl _ _ rfl rfl rfl ?_;intro v5 w5 o5 g5 l5;have B5:=HR1.out.blk.kept g5 (fun e=>HR1.out.ne e);have b5:=B5.cell;have f5:=B5.free;obtain⟨a5,c5,hv5⟩:=o5.shape;rw[List.length_append,List.length_singleton] at hv5;subst hv5)
  go_end0
  have hn5:=F1_ l5 HR1.out.ne hgl1;obtain⟨R6,g6⟩:=RTab.setL B5 o5 hn5;have hsz:=Hd1.size;refine⟨rfl,_,by rw[HR.out];exact R6,?_,fun i hi=>?_⟩
  ·exact((GrownS.none_ (S:=rtF g (.slice a T.L.length c)) Hd1).trans (GrownS.of (S:=fun i=>ownF (.slice a T.L.length c) i) g5 fun q e=>e) fun i hi _=>.inr hi).trans (GrownS.of (S:=oneF g) g6 fun q e=>by cases e;exact rfl) fun i hi _=>.inl hi
  ·rcases hi with hi|hi
   ·exact .inl (.inl hi)
   ·rcases lies_new l5 i hi with hi|hi
    ·exact .inl (.inr hi)
    ·exact .inr (by omega)
end
section
open Go.RowKit
theorem F5_ {w:World} {st e ty:TypeId} {z:Value} {size bytes:Nat} (E:Elt st e z size bytes) {base:Nat} {v:Value} {n:Nat} {xs:List Value} (hown:w.ownsRow base e size v n xs)
  {A:Option Addr} {m c:Nat} {news:List Value} (hr:Rd w size (.slice A m c) m news) (h1:∀u∈news,u.oneCell'=true) (h63:n+m≤maxLen) (hb :(n+m)*bytes≤140737488355328) (hbase:base≤w.heap.size) :
  ∃v' w',(Builtin.append_ #[st,st] ty #[v,.slice A m c]).run Tryz.prog w=.ok v' w'∧w'.ownsRow base e size v' (n+m) (xs++news)∧w.grownBy w' v.ownBlock ∧
   ((∃g cap cur,v=.slice (some ⟨g,0,none⟩) n cap∧v'=.slice (some ⟨g,0,none⟩) (n+m) cap∧w.heap[g]?=some (.cells cur e (0,0))∧w'.heap[g]?=some (.cells (cur.toList.take (n*size)++news++cur.toList.drop (n*size+news.length)).toArray e (0,0)))∨w.grownBy w' none):=by
 obtain⟨i,hi,hz0,hz1,hz2⟩:=info_parts E.info;obtain⟨v',w',hrun,h2,h3,h4⟩:=E7_ (ty:=ty) E hown hr h1 h63 hb hbase;refine⟨v',w',hrun,h2,h3,?_⟩
 have key:∀ad:Addr,(∀j u,news[j]?=some u→w.cell? (ad.add j)=some u)→A=some ad→(∃g cap cur,v=.slice (some ⟨g,0,none⟩) n cap∧v'=.slice (some ⟨g,0,none⟩) (n+m) cap∧w.heap[g]?=some (.cells cur e (0,0))∧w'.heap[g]?=some (.cells (cur.toList.take (n*size)++news++cur.toList.drop (n*size+news.length)).toArray e (0,0)))∨w.grownBy w' none:=by
  intro ad hc e;subst e;have hl:=hr.1
  rcases hown.2 with⟨rfl,rfl⟩ |⟨g,cap,cur,rfl,hbg,hg,hnc,hcm,hcs,htake⟩
  ·exact .inr h3
  ·by_cases hroom:n+m≤cap
   ·have hfit:n*i.size+news.length≤cur.size:=by rw[hz1,hl,hcs,←Nat.add_mul];exact Nat.mul_le_mul_right _ hroom
    have hr2:=run_append_room (P:=Tryz.prog) w st ty e i E.ht hi g n cap cur hg ad m c news (by rw[hz1];exact hl) hc h1 hroom hfit;rw[hr2] at hrun;cases hrun;rw[hz1];exact .inl ⟨g,cap,cur,rfl,rfl,hg,setRow_heap w g cur _ e _ hg⟩
   ·have holds:∀j u,xs[j]?=some u→w.cell? ((⟨g,0,none⟩:Addr).add j)=some u:=hown.cells (g:=g) rfl
    have hr2:=run_append_grow (P:=Tryz.prog) w st ty e i z E.ht hi hz0 ⟨g,0,none⟩ n cap xs (by rw[hz1];exact hown.1) holds ad m c news (by rw[hz1];exact hl) hc (by omega) (by unfold maxLen at h63;omega) (growslice_fits (by omega) (by rw[hz2];exact hb));rw[hr2] at hrun;cases hrun;exact .inr (Ad_ (Am_ (Ab_ _ _)) _)
 rcases hr.2.2 with⟨rfl,a,cap,hv⟩ |⟨g,off,cap,hv,_,hc⟩
 ·have hn:news=[]:=List.eq_nil_of_length_eq_zero (by simpa using hr.1)
  subst hn
  cases A with
  | none=>
   have hr2:=Ej_ (ty:=ty) E hown c;rw[hr2] at hrun;cases hrun;exact .inr (Ab_ _ _)
  | some ad=>exact key ad (by simp) rfl
 ·cases hv
  refine key _ (fun j u hu=>?_) rfl
  have e :(⟨g,off,none⟩:Addr).add j =⟨g,off+j,none⟩:=by unfold Addr.add;split <;> simp_all
  rw[e];exact hc j u hu
section
variable {α:Type} {f:α→List Value} {st e:TypeId} {z:Value} {size bytes:Nat}
structure Keep (f:α→List Value) (size:Nat) (e:TypeId) (N:Nat) (P:List α→Prop) (w w':World):Prop where
 grown:GrownS (fun i=>N≤i) w w'
 own:∀T v,P T→Own f size e N w v T→Own f size e N w' v T
variable {N:Nat} {P:List α→Prop} {w w' w'':World}
theorem Keep.refl (f:α→List Value) (size:Nat) (e:TypeId) (N:Nat) (P:List α→Prop) (w:World):Keep f size e N P w w:=⟨GrownS.refl _ _,fun _ _ _ h=>h⟩
theorem Keep.trans (h:Keep f size e N P w w') (k:Keep f size e N P w' w''):Keep f size e N P w w'':=⟨h.grown.trans k.grown (fun _ hi _=>hi),fun T v hp ho=>k.own T v hp (h.own T v hp ho)⟩
theorem Keep.of (h:w.grownBy w' none):Keep f size e N P w w':=⟨GrownS.none_ h,fun _ _ _ ho=>ho.same h⟩
theorem Keep.rd {β:Type} {g:β→List Value} {s:Nat} {v:Value} {l:List β} (h:Keep f size e N P w w') (hr:RdL g s w v l) (hv:0<l.length→∀a n c,v=.slice (some a) n c→a.block<N):RdL g s w' v l:=
 hr.keptS h.grown fun h0 a n c e h1=>by have:=hv h0 a n c e;omega
theorem Keep.blk {g:Nat} {cs:Array Value} (h:Keep f size e N P w w') (hb:Blk w g cs) (hg:g<N):Blk w' g cs:=hb.keptS h.grown (by omega)
theorem Em_ {v v':Value} {l l2 T:List α} (hf:∀x,(f x).length=size) (hpos:0<size) (ho:Own f size e N w v l) (ho':Own f size e N w' v' (l++l2)) (hg:w.grownBy w' v.ownBlock)
  (hc :(∃g cap cur,v=.slice (some ⟨g,0,none⟩) l.length cap∧v'=.slice (some ⟨g,0,none⟩) (l.length+l2.length) cap∧w.heap[g]?=some (.cells cur e (0,0))∧w'.heap[g]?=some (.cells (cur.toList.take (l.length*size)++cellsOf f l2++cur.toList.drop (l.length*size+(cellsOf f l2).length)).toArray e (0,0)))∨w.grownBy w' none)
  (hT:T.length≤l.length∨T <+: l++l2∨l++l2 <+: T)
  {u:Value} (hu:Own f size e N w u T):Own f size e N w' u T:=by
 rcases hc with⟨g,cap,cur,rfl,rfl,hc1,hc2⟩|hc
 ·by_cases hub:u.ownBlock=some g
  ·rcases hu.2 with⟨rfl,h0⟩ |⟨g',cap',cur',rfl,hb',hg',hn',hm',hs',ht'⟩
   ·simp[Value.ownBlock] at hub
   ·have e1:g'=g:=by simpa [Value.ownBlock] using hub
    subst e1;rw[hc1] at hg';cases hg'
    rcases ho.2 with⟨h0,_⟩ |⟨g1,cap1,cur1,e1,_,hg1,hn1,_,hs1,ht1⟩
    ·cases h0
    ·cases e1
     rw[hc1] at hg1;cases hg1
     rcases ho'.2 with⟨h0,_⟩ |⟨g2,cap2,cur2,e2,_,hg2,hn2,hm2,hs2,ht2⟩
     ·cases h0
     ·obtain⟨e3,_,e4⟩:=Value.slice.inj e2
      cases e3;subst e4;rw[hc2] at hg2;cases hg2;have hl2 :(cellsOf f l2).length=l2.length*size:=Au_ f size hf l2
      have hroom:l.length*size+l2.length*size≤cap*size:=by
       rw[←Nat.add_mul,←List.length_append];exact Nat.mul_le_mul_right _ hn2
      have hcc:cap'=cap:=Nat.eq_of_mul_eq_mul_right hpos (by rw[←hs',hs1]);subst hcc;refine⟨hu.1,.inr ⟨g',cap',_,rfl,hb',hc2,hn',hm',hs2,?_⟩⟩
      rcases hT with h |⟨r,hr⟩ |⟨r,hr⟩
      ·have hle:T.length*size≤l.length*size:=Nat.mul_le_mul_right _ h
       have e9:cur.toList.length=cur.size:=Array.length_toList (xs:=cur)
       have hA:l.length*size≤cur.toList.length:=by omega
       show List.take _ (cur.toList.take _++_++_)=_
       rw[List.append_assoc,List.take_append_of_le_length (by rw[List.length_take];omega),List.take_take,Nat.min_eq_left hle];exact ht'
      ·have hlen :(cellsOf f T).length=T.length*size:=Au_ f size hf T
       have hle:T.length*size≤(cellsOf f l++cellsOf f l2).length:=by
        rw[←Ap_,←hr,Ap_,List.length_append,hlen];omega
       show List.take _ (cur.toList.take _++_++_)=_
       rw[ht1,List.take_append_of_le_length hle,←Ap_,←hr,Ap_,←hlen,List.take_left]
      ·have h1:cur.toList.take (l.length*size+(cellsOf f l2).length)=cellsOf f l++cellsOf f l2:=by
        have hle:l.length*size+(cellsOf f l2).length≤T.length*size:=by
         rw[hl2,←Nat.add_mul,←hr,List.length_append,List.length_append];exact Nat.mul_le_mul_right _ (by omega)
        have :(cur.toList.take (T.length*size)).take (l.length*size+(cellsOf f l2).length)=cellsOf f l++cellsOf f l2:=by
         rw[ht',←hr,Ap_,Ap_]
         have e5:l.length*size+(cellsOf f l2).length =(cellsOf f l++cellsOf f l2).length:=by rw[List.length_append,Au_ f size hf l]
         rw[e5,List.take_left]
        rwa [List.take_take,Nat.min_eq_left hle] at this
       show List.take _ (cur.toList.take _++_++_)=_
       rw[ht1,←h1,List.take_append_drop];exact ht'
  ·exact hu.kept hg (fun k hk e=>hub (by rw[hk];simpa [Value.ownBlock] using e.symm))
 ·exact hu.same hc
section
variable {v:Value} {l l2:List α} {A:Option Addr} {m c:Nat}
variable {o:Oper} {a:Act} {ops:Array Oper} {rest:List Oper} {Q:Exit→Act→World→Prop}
theorem Bb_ (E:Elt st e z size bytes) (h1:OneF f) (hf:∀x,(f x).length=size) (hown:Own f size e N w v l) (hr:RdL f size w (.slice A m c) l2) (hm:m=l2.length) (hb :(l.length+l2.length)*bytes≤140737488355328) (h63:l.length+l2.length≤9223372036854775807) (hbase:N≤w.heap.size)
  (hP:∀T,P T→T.length≤l.length∨T <+: l++l2∨l++l2 <+: T)
  (hgd:o.guard=none) (s x:Operand) (ho:o.op=.call { callee:=.builtin .append,args:=#[s,x],argTypes:=#[st,st] }) (hs:a.eval s=v) (hx:a.eval x=.slice A m c)
  (h:∀v' w',Own f size e N w' v' (l++l2)→Keep f size e N P w w'→wpList Tryz.prog ops Q rest (a.put o.dst v') w'):wpList Tryz.prog ops Q (o::rest) a w:=by
 refine wpList_plain hgd fun _ hK=>?_
 subst hm;obtain⟨v',w',hrun,h2,h3,h4⟩:=F5_ (ty:=o.type) E hown hr (h1.cells l2) (by unfold maxLen;exact h63) hb hbase
 have h2':Own f size e N w' v' (l++l2):=by unfold Own;rw[Ap_,List.length_append];exact h2
 unfold Oper.wp execOp;simp only[ho,resolve,invoke,builtin,Sem.run_bind,Sem.run_pure,Result.andThen_ok,List.map_toArray,List.map_cons,List.map_nil,hs,hx,hrun];exact hK _ _ (h v' w' h2' ⟨GrownS.of h3 (fun k hk=>(hown.lt k hk).1),fun T u hp hu=>Em_ hf E.pos hown h2' h3 h4 (hP T hp) hu⟩)
end
theorem Bx_ (hf:∀x,(f x).length=size) (w0:World) (hN:N≤w0.heap.size) (y:α) (cs:Array Value) (hcs:cs.toList=f y):Own f size e N (w0.alloc (.cells cs e)) (.slice (some ⟨w0.heap.size,0,none⟩) 1 1) [y]:=by
 have hl:cs.size=size:=by rw[←Array.length_toList,hcs,hf]
 refine⟨by simp[cellsOf,hf],.inr ⟨w0.heap.size,1,cs,rfl,hN,heap_alloc_new w0 _,Nat.le_refl _,by unfold maxLen;omega,by omega,?_⟩⟩;rw[hcs];simp only[cellsOf,List.flatMap_cons,List.flatMap_nil,List.append_nil,List.length_cons,List.length_nil,Nat.zero_add,Nat.one_mul];rw[←hf y,List.take_length]
end
end
section
open Go.RowKit Go.Sort
theorem S0_ (L:List Ent) (e:Ent):minE (L++[e])=match minE L with|none=>some e|some x=>if e.cnt<x.cnt then some e else some x:=by
 induction L with
 | nil=>rfl
 | cons a L ih=>
  rw[List.cons_append];simp only[minE];rw[ih]
  cases hm:minE L with
  | none=>rfl
  | some x=>
   dsimp only
   by_cases h1:e.cnt<x.cnt
   ·rw[if_pos h1]
    by_cases h2:x.cnt<a.cnt
    ·rw[if_pos h2];dsimp only;rw[if_pos (by omega),if_pos h1]
    ·rw[if_neg h2]
   ·rw[if_neg h1]
    by_cases h2:x.cnt<a.cnt
    ·rw[if_pos h2];dsimp only;rw[if_neg h1,if_pos h2]
    ·simp only[if_neg h2];rw[if_neg (by omega)]
theorem A7_ (k:ByteArray):k.toList.isEmpty=decide (k.size=0):=by
 rw[ByteArray.toList_eq,Bool.eq_iff_iff,List.isEmpty_iff,decide_eq_true_eq,←List.length_eq_zero_iff]
 rfl
theorem Te_ {L:List Ent} (h :(keysE L).Nodup) {i:Nat} (hi:i<L.length):delE L L[i].key=L.eraseIdx i:=by
 induction L generalizing i with
 | nil=>simp at hi
 | cons a L ih=>
  have hn:=List.nodup_cons.1 (by simpa [keysE] using h :(a.key::keysE L).Nodup);unfold delE
  cases i with
  | zero=>rw[List.eraseP_cons_of_pos (by simp[hasK])];rfl
  | succ i=>
   have hi':i<L.length:=by simpa using hi
   have hne:a.key≠L[i].key:=fun e=>hn.1 (e▸Dz_ (mg_ hi'))
   simp only[List.getElem_cons_succ,List.eraseIdx_cons_succ];rw[List.eraseP_cons_of_neg (by simpa [hasK] using hne)]
   have:=ih hn.2 hi'
   unfold delE at this;rw[this]
def RAdd (g:Nat) (v:Value) (T:TabM) (k:ByteArray) (x:Int) (w:World) (e:Ending) (w':World):Prop:=
 e=.returned (.int .i64 (addErr T.sum k x))∧∃v',RTab w' g v' (if addErr T.sum k x=0 then T.add k x else T)∧Mov (rtF g v) (rtF g v') w w'
theorem Xp_ (g:Nat) (v:Value) (T:TabM) (k:ByteArray) (x:Int) (w:World) (h:RTab w g v T) (hT:W64 T.sum) (hx:W64 x) (he:addErr T.sum k x≠0):Calls Tryz.prog 159 #[.pointer (some ⟨g,0,none⟩),.string k,.int .u64 x] w (RAdd g v T k x w):=by
 have H:=hh_ h
 have HF:=hh_ fun y=>C5_ T.sum x y hT hx
 have b0:=h.blk.cell
 have R:∀w' e,e=addErr T.sum k x→w.grownBy w' none→RAdd g v T k x w (.returned (.int .i64 e)) w':=fun w' e he' hg=>⟨by rw[he'],v,by rw[if_neg he];exact H.out.same hg,Mov.same hg⟩
 clear h;unfold addErr at R he
 by_cases hk:k.size=0
 ·rw[if_pos hk] at R
  have hk2:=A7_ k;rw[decide_eq_true hk] at hk2
  go_enter Tryz.func159,Tryz.ntmps159
  go_wp2_with fail
  go_ret
  exact R _ _ rfl (Ab_ _ _)
 ·rw[if_neg hk] at R he
  have hk2:=A7_ k;rw[decide_eq_false hk] at hk2
  by_cases h0:x=0
  ·rw[if_pos h0] at R
   subst h0
   go_enter Tryz.func159,Tryz.ntmps159
   go_wp2_with fail
   go_ret
   exact R _ _ rfl (Ab_ _ _)
  ·rw[if_neg h0] at R he
   have h02 :(x==0)=false:=beq_eq_false_iff_ne.2 h0
   have hm:mostW<T.sum+x:=Decidable.byContradiction fun h=>he (if_neg h)
   rw[if_pos hm] at R;have hF:fitsB T.sum x=false:=decide_eq_false (by unfold mostW at hm;omega);rw[hF] at HF
   go_enter Tryz.func159,Tryz.ntmps159
   go_wp2_with (go_at_call 118;refine(HF.out _).mono ?_;rintro e w1 ⟨rfl,rfl⟩)
   go_ret
   exact R _ _ rfl (Ab_ _ _)
structure Fr_ (T:TabM) (k:ByteArray) (x:Int):Prop where
 key:0<k.size∧k.size≤255
 x1:1≤x
 sum:T.sum+x≤mostW
theorem Fr_.err {T:TabM} {k:ByteArray} {x:Int} (h:Fr_ T k x):addErr T.sum k x=0:=by
 have:=h.key;have:=h.x1;have:=h.sum
 unfold addErr;rw[if_neg (by omega),if_neg (by omega),if_neg (by omega)]
theorem ev_ {T:TabM} {k:ByteArray} {x:Int} (he:addErr T.sum k x=0) (hk:k.size≤255) (hx:0≤x):Fr_ T k x:=by
 unfold addErr at he
 split at he
 ·omega
 ·split at he
  ·omega
  ·split at he
   ·omega
   ·exact⟨by omega,by omega,by omega⟩
theorem V7_ (g:Nat) (v:Value) (T:TabM) (k:ByteArray) (x:Int) (w:World) (h:RTab w g v T) (hT:Bu_ T) (hA:Fr_ T k x) (en:Ent) (hg:getE T.L k=some en):Calls Tryz.prog 159 #[.pointer (some ⟨g,0,none⟩),.string k,.int .u64 x] w (RAdd g v T k x w):=by
 have H:=hh_ h;obtain⟨q1,q2,q3⟩:=hT.w64;obtain⟨hem,rfl⟩:=A4_ hg;obtain⟨⟨e1,e2⟩,⟨e3,e4⟩,e5,e6⟩:=q3 en hem;have hxs:=hA.sum;have hx1:=hA.x1;have hmw:mostW=9223372036854775808:=rfl;have hb:=hT.base;have hW:W64 x:=⟨by omega,by omega⟩
 have HF:=hh_ fun y=>C5_ T.sum x y q2 hW
 rw[show fitsB T.sum x=true from decide_eq_true (by omega)] at HF;have hk2:=A7_ en.key;rw[decide_eq_false (show ¬en.key.size=0 by have:=hA.key;omega)] at hk2;have h02 :(x==0)=false:=beq_eq_false_iff_ne.2 (by omega);obtain⟨i1,hil,hie,hdel⟩:=Cp_ hg;have hlen:=hT.len;have hmm:=hT.m
 have HP:=hh_ fun y (R:RTab y g v { T with sum:=T.sum+x })=>B3_ v T.L en.key y R.own.rd
 rw[i1] at HP
 have HC:=hh_ fun y (R:RTab y g v { T with sum:=T.sum+x })=>Mz_ hg (w:=y) (v:=v) R.own.rd
 have HW:=hh_ fun y (R:Own entF 3 224 0 y v T.L)=>Du_ 0 v T.L (plN T.L en.key) y R hil (by omega)
 rw[←hdel] at HW;have HR:=hh_ (show(if addErr T.sum en.key x=0 then T.add en.key x else T)={ T with sum:=T.sum+x,L:=delE T.L en.key++[⟨en.key,en.own+x,en.slack⟩] } by rw[if_pos hA.err,Jw_ hg]);have HE:=hh_ hA.err;have hdl:=C7_ hg;generalize plN T.L en.key=I at *;generalize delE T.L en.key=L1 at *;have b0:=h.blk.cell;have f0:=h.blk.free;obtain⟨a,c,hv⟩:=h.own.shape;subst hv;have hgl:=h.blk.lt;have hvl:=h.own.low;have hne:=h.ne;have hwr:IntKind.u64.wrap (T.sum+x)=T.sum+x:=IntWalk.u64_in _ (by omega);clear h hT hA hg i1 hie hdel hem q3 q1 q2
 go_enter Tryz.func159,Tryz.ntmps159
 go_upto_region 8 with(go_at_call 118;refine(HF.out _).mono ?_;rintro e w1 ⟨rfl,rfl⟩)
 obtain⟨R1,g1⟩:=H.out.setSum (T.sum+x);clear b0 f0 hwr HF;generalize w.setCell ⟨g,4,none⟩ (.int .u64 (T.sum+x))=w1 at *;have HR1:=hh_ R1;have b1:=R1.blk.cell;clear R1
 go_upto_region 9 with(go_at_call 182;refine(HP.out _ HR1.out).mono ?_;rintro e w2 ⟨rfl,g2⟩)
 have R2:=HR1.out.same g2;have HR2:=hh_ R2;have b2:=R2.blk.cell;obtain⟨g',off,cap,hv,hgl',d0,d1,d2⟩:=HC.out _ R2;cases hv;clear b1 R2 HR1
 go_upto_region 11 with fail
 (have A3:=Blk.new w2 #[.string en.key,.int .u64 en.own,.int .u64 en.slack] 224);(have G3:=ga_ w2 (.cells #[.string en.key,.int .u64 en.own,.int .u64 en.slack] 224) none);generalize w2.alloc (.cells #[.string en.key,.int .u64 en.own,.int .u64 en.slack] 224)=w3 at *;generalize hgc:w2.heap.size=gc at *
 have a3:=A3.cell;have f3:=A3.free;have hwr:IntKind.u64.wrap (en.own+x)=en.own+x:=IntWalk.u64_in _ (by omega);clear d0 d1 d2 b2
 go_upto_region 12 with fail
 have A4:=A3.set_ 1 (.int .u64 (en.own+x)) (cs':=#[.string en.key,.int .u64 (en.own+x),.int .u64 en.slack]) rfl;have g4:w3.grownBy (w3.setCell ⟨gc,1,none⟩ (.int .u64 (en.own+x))) (some gc):=Ac_ (Ab_ _ _) _ _;have k4:w2.grownBy (w3.setCell ⟨gc,1,none⟩ (.int .u64 (en.own+x))) none:=Af_ G3 g4 (Nat.le_of_eq hgc);clear a3 f3 hwr A3 G3 g4;generalize w3.setCell ⟨gc,1,none⟩ (.int .u64 (en.own+x))=w4 at *;have k5:w2.grownBy w4.drew none:=Am_ k4;have HB:=hh_ (HR2.out.same k5).blk;have HO:=hh_ (HR2.out.same k5).own;have HX:=hh_ A4.drew1;have hcN:gc<w4.drew.heap.size:=A4.drew1.lt;have hgN:g<w4.drew.heap.size:=HB.out.lt;obtain⟨N,hN⟩:∃N,N=w4.drew.heap.size:=⟨_,rfl⟩;have HN2:=hh_ (Nat.le_of_eq hN);rw[←hN] at hcN hgN
 have hvN:∀i,ownF (.slice (some ⟨g',off,none⟩) T.L.length c) i→i<N:=by rw[hN];exact HO.out.low
 obtain⟨P,hP⟩:∃P:List Ent→Prop,P=fun T=>T=L1∨T=[⟨en.key,en.own+x,en.slack⟩]∨T=L1++[⟨en.key,en.own+x,en.slack⟩]:=⟨_,rfl⟩;have HP1:=hh_ (show P L1 by rw[hP];exact .inl rfl);have HPx:=hh_ (show P [⟨en.key,en.own+x,en.slack⟩] by rw[hP];exact .inr (.inl rfl));have HPF:=hh_ (show P (L1++[⟨en.key,en.own+x,en.slack⟩]) by rw[hP];exact .inr (.inr rfl))
 have HP2:=hh_ (show ∀T,P T→T.length≤L1.length∨T <+: L1++[⟨en.key,en.own+x,en.slack⟩]∨L1++[⟨en.key,en.own+x,en.slack⟩] <+: T by
  intro T hT;rw[hP] at hT
  rcases hT with rfl|rfl|rfl
  ·exact .inl (Nat.le_refl _)
  ·cases L1 with
   | nil=>exact .inr (.inl (List.prefix_refl _))
   | cons _ _=>exact .inl (by simp)
  ·exact .inr (.inl (List.prefix_refl _)))
 have hb4 :(L1.length+[(⟨en.key,en.own+x,en.slack⟩:Ent)].length)*32≤140737488355328:=by simp;omega
 have hb5:L1.length+[(⟨en.key,en.own+x,en.slack⟩:Ent)].length≤9223372036854775807:=by simp;omega
 have HW2:=hh_ fun y (m:Keep entF 3 224 N P w4.drew y)=>HW.out y (HO.out.keptS m.grown fun q hq hge=>by have:=hvN q hq;omega)
 clear HW hP;have HW:=HW2;clear HW2;have Hk:=hh_ k5;have Hne:=hh_ hne;have Hvl:=hh_ hvl;have Hg1:=hh_ g1
 have hN0:w.heap.size≤N:=by have:=g1.size;have:=g2.size;have:=k5.size;omega
 clear HP HC k4 k5 A4 hne hvl g1 HR2 H hN hdl
 (refine Rg.wp_region_rgZ 12 #[] (Keep entF 3 224 N P) (fun k _ w v w'=>match k with | 6=>Own entF 3 224 N w' v L1∧World.grownBy w w' none | _=>False) (by kernel_rfl) (by kernel_rfl) (Keep.refl _ _ _ _ _) (fun _ _ _ h k=>h.trans k) (fun _ _ _ _ _ h=>h) ?_;simp only[List.take,List.drop])
 generalize w4.drew=wd at *
 (refine tq_ 4 ?_;simp only[ts_,Nat.reduceAdd];(repeat(go_big_quiet_step (fail)));refine wpQuiet_nil ?_)
 (refine Rg.tree_op rfl rfl ?_;intro y4 my4 dy4)
 clear dy4;have ax:=(my4.blk HB.out hgN).cell
 go_wp2_with fail
 refine⟨Keep.refl _ _ _ _ _ _,?_⟩;clear ax
 (refine tq_ 1 ?_;simp only[ts_,Nat.reduceAdd];(repeat(go_big_quiet_step (fail)));refine wpQuiet_nil ?_)
 (refine Rg.tree_call rfl rfl rfl ?_;intro y6 my6 dy6;refine⟨?_,?_⟩;· (unfold Rg.callSpec;go_simp;(refine(HW.out y6 my6).mono ?_;rintro e w' ⟨v',rfl,o',g'⟩;exact⟨_,rfl,o'.base (fun q hq=>lt_ (lt_ HN2.out my6.grown.size) (o'.lt q hq).1),g'⟩)))
 clear dy6;rintro v7 e7 ⟨o7,g7⟩;refine⟨Keep.of g7,?_⟩;simp only[pt_];clear g7 my6
 (refine Rg.tree_op rfl rfl ?_;intro y7 my7 dy7)
 clear dy7;have ax:=(my7.blk HX.out hcN).cell
 go_wp2_with fail
 refine⟨Keep.refl _ _ _ _ _ _,?_⟩;clear ax
 (refine Rg.tree_op rfl rfl ?_;intro y8 my8 dy8)
 clear dy8;have z8:=lt_ HN2.out my8.grown.size
 go_wp2_with fail
 refine⟨Keep.of (ga_ _ _ _),?_⟩;have N8:Own entF 3 224 N (y8.alloc (.cells #[.string en.key,.int .u64 (en.own+x),.int .u64 en.slack] 224)) (.slice (some ⟨y8.heap.size,0,none⟩) 1 1) [⟨en.key,(en.own+x),en.slack⟩]:=Bx_ Ay_ y8 z8 ⟨en.key,(en.own+x),en.slack⟩ _ rfl;generalize y8.alloc (.cells #[.string en.key,.int .u64 (en.own+x),.int .u64 en.slack] 224)=e8 at *;generalize y8.heap.size=g8 at *
 (refine Rg.tree_op rfl rfl ?_;intro y9 my9 dy9)
 have N9:=(dy9.out 6 (by omega) (by kernel_rfl)).own _ _ HP1.out o7;have R9:=((dy9.out 8 (by omega) (by kernel_rfl)).own _ _ HPx.out N8).rd;have z9:=lt_ HN2.out my9.grown.size;clear dy9
 go_wp2_with (at_builtin;refine Bb_ Bi_ Bh_ Ay_ N9 R9 rfl hb4 hb5 z9 HP2.out (by rfl) _ _ (by rfl) (by rfl) (by rfl) ?_;intro v9 e9 o9 k9;have Hk9:=hh_ k9;clear k9)
 refine⟨Hk9.out,?_⟩;clear N9 R9 z9 N8 z8 my8 my9 o7
 (refine tq_ 2 ?_;simp only[ts_,Nat.reduceAdd];(repeat(go_big_quiet_step (fail)));refine wpQuiet_nil ?_)
 (refine Rg.tree_nil ?_;intro z mz dz cz)
 have OZ:=(dz.out 9 (by omega)).own _ _ HPF.out o9;have BZ:=mz.blk HB.out hgN;have GZ:=mz.grown;clear dz cz o9 Hk9 mz;have bz:=BZ.cell;have fz:=BZ.free;obtain⟨az,cz2,hvz⟩:=OZ.shape;rw[List.length_append,List.length_singleton] at hvz;subst hvz
 go_wp2_with fail
 go_ret
 have hnz:¬ownF (.slice az (L1.length+1) cz2) g:=fun e=>by have:=(OZ.lt _ e).1;omega
 obtain⟨R6,g6⟩:=RTab.setL BZ OZ hnz;refine⟨by rw[HE.out];rfl,_,by rw[HR.out];exact R6,?_,fun i hi=>?_⟩
 ·have M1:GrownS (rtF g (.slice (some ⟨g',off,none⟩) T.L.length c)) w w1:=GrownS.of Hg1.out fun q e=>by cases e;exact .inl rfl
  have M2:GrownS (rtF g (.slice (some ⟨g',off,none⟩) T.L.length c)) w1 wd:=GrownS.none_ (Aa_ g2 Hk.out)
  exact((M1.trans M2 fun i hi _=>hi).trans GZ fun i hi hlt=>absurd hi (by omega)).trans (GrownS.of (S:=oneF g) g6 fun q e=>by cases e;exact rfl) fun i hi _=>.inl hi
 ·rcases hi with hi|hi
  ·exact .inl (.inl hi)
  ·exact .inr (lt_ hN0 (OZ.lt i hi).1)
end
section
open Go.RowKit
section
variable {α:Type} {f:α→List Value} {st e:TypeId} {z:Value} {size bytes:Nat}
structure KeepR (f:α→List Value) (size:Nat) (e:TypeId) (N:Nat) (P:List α→Prop) (r:Option Nat) (w w':World):Prop where
 grown:w.grownBy w' r
 own:∀T v,P T→Own f size e N w v T→Own f size e N w' v T
variable {N:Nat} {P:List α→Prop} {r:Option Nat} {w w' w'':World}
theorem KeepR.refl (f:α→List Value) (size:Nat) (e:TypeId) (N:Nat) (P:List α→Prop) (r:Option Nat) (w:World):KeepR f size e N P r w w:=⟨Ab_ _ _,fun _ _ _ h=>h⟩
theorem KeepR.trans (h:KeepR f size e N P r w w') (k:KeepR f size e N P r w' w''):KeepR f size e N P r w w'':=⟨Aa_ h.grown k.grown,fun T v hp ho=>k.own T v hp (h.own T v hp ho)⟩
theorem KeepR.of (h:w.grownBy w' none):KeepR f size e N P r w w':=⟨Ak_ h r,fun _ _ _ ho=>ho.same h⟩
theorem KeepR.blk {g:Nat} {cs:Array Value} (h:KeepR f size e N P r w w') (hb:Blk w g cs) (hg:r≠some g):Blk w' g cs:=hb.kept h.grown hg
end
theorem Eu_ {a b:World} {r:Option Nat} (h:a.grownBy b none):a.grownBy b r:=by
 cases r with
 | none=>exact h
 | some k=>exact Ak_ h _
section
variable {α:Type} {f:α→List Value} {st e:TypeId} {z:Value} {size bytes N:Nat} {P:List α→Prop} {w:World}
variable {v:Value} {l l2:List α} {A:Option Addr} {m c:Nat}
variable {o:Oper} {a:Act} {ops:Array Oper} {rest:List Oper} {Q:Exit→Act→World→Prop}
theorem Gj_ (E:Elt st e z size bytes) (h1:OneF f) (hf:∀x,(f x).length=size) (hown:Own f size e N w v l) (hr:RdL f size w (.slice A m c) l2) (hm:m=l2.length) (hb :(l.length+l2.length)*bytes≤140737488355328) (h63:l.length+l2.length≤9223372036854775807) (hbase:N≤w.heap.size)
  (hP:∀T,P T→T.length≤l.length∨T <+: l++l2∨l++l2 <+: T)
  (hgd:o.guard=none) (s x:Operand) (ho:o.op=.call { callee:=.builtin .append,args:=#[s,x],argTypes:=#[st,st] }) (hs:a.eval s=v) (hx:a.eval x=.slice A m c)
  (h:∀v' w',Own f size e N w' v' (l++l2)→KeepR f size e N P v.ownBlock w w'→Lies v v' w.heap.size→wpList Tryz.prog ops Q rest (a.put o.dst v') w'):wpList Tryz.prog ops Q (o::rest) a w:=by
 refine wpList_plain hgd fun _ hK=>?_
 subst hm;obtain⟨v',w',hrun,h2,h3,h4⟩:=F5_ (ty:=o.type) E hown hr (h1.cells l2) (by unfold maxLen;exact h63) hb hbase
 have h2':Own f size e N w' v' (l++l2):=by unfold Own;rw[Ap_,List.length_append];exact h2
 obtain⟨v3,w3,hrun3,_,_,h5⟩:=E7_ (ty:=o.type) E hown hr (h1.cells l2) (by unfold maxLen;exact h63) hb hbase;rw[hrun] at hrun3;cases hrun3;unfold Oper.wp execOp;simp only[ho,resolve,invoke,builtin,Sem.run_bind,Sem.run_pure,Result.andThen_ok,List.map_toArray,List.map_cons,List.map_nil,hs,hx,hrun];exact hK _ _ (h v' w' h2' ⟨h3,fun T u hp hu=>Em_ hf E.pos hown h2' h3 h4 (hP T hp) hu⟩ h5)
end
end
section
open Go.RowKit Go.Sort
theorem aa_ {T:TabM} {k:ByteArray} {x:Int} (hg:getE T.L k=none) (hm:T.mode=2):T.add k x={ T with sum:=T.sum+x }.deduct k x:=by
 by_cases hl :(T.L.length:Int)=T.m
 ·rw[Jj_ hg hm hl];unfold TabM.deduct;dsimp only;rw[if_pos hl]
 ·rw[Ey_ hg hl,if_pos hm];unfold TabM.deduct;dsimp only;rw[if_neg hl]
theorem Xi_ (g:Nat) (v:Value) (T:TabM) (k:ByteArray) (x:Int) (w:World) (h:RTab w g v T) (hT:Bu_ T) (hA:Fr_ T k x) (hg:getE T.L k=none) (hm:T.mode=2):Calls Tryz.prog 159 #[.pointer (some ⟨g,0,none⟩),.string k,.int .u64 x] w (RAdd g v T k x w):=by
 have H:=hh_ h;obtain⟨q1,q2,q3⟩:=hT.w64;have hxs:=hA.sum;have hx1:=hA.x1;have hmw:mostW=9223372036854775808:=rfl;have hb:=hT.base;have hW:W64 x:=⟨by omega,by omega⟩
 have HF:=hh_ fun y=>C5_ T.sum x y q2 hW
 rw[show fitsB T.sum x=true from decide_eq_true (by omega)] at HF;have hk2:=A7_ k;rw[decide_eq_false (show ¬k.size=0 by have:=hA.key;omega)] at hk2;have h02 :(x==0)=false:=beq_eq_false_iff_ne.2 (by omega);have hm2 :(T.mode==2)=true:=beq_iff_eq.2 hm;have hlen:=hT.len;have hmm:=hT.m
 have HP:=hh_ fun y (R:RTab y g v { T with sum:=T.sum+x })=>B3_ v T.L k y R.own.rd
 rw[Gq_ hg] at HP;have hD:Ded { T with sum:=T.sum+x } x:=⟨fun e he=>⟨hT.ents.own e he,(q3 e he).1,(q3 e he).2.1⟩,by show T.L.length≤64;omega,q1,⟨hb.1,by omega,by show T.base+x≤_;omega⟩,hmm⟩
 have HDD:=hh_ fun y (R:RTab y g v { T with sum:=T.sum+x })=>Sc_ g v { T with sum:=T.sum+x } k x y R hD hx1
 have HR:=hh_ (show(if addErr T.sum k x=0 then T.add k x else T)={ T with sum:=T.sum+x }.deduct k x by rw[if_pos hA.err,aa_ hg hm]);have HE:=hh_ hA.err;have b0:=h.blk.cell;have f0:=h.blk.free;obtain⟨a,c,hv⟩:=h.own.shape;subst hv;have hgl:=h.blk.lt;have hwr:IntKind.u64.wrap (T.sum+x)=T.sum+x:=IntWalk.u64_in _ (by omega);clear h hT hA hg q3 q1 q2 hD hm
 go_enter Tryz.func159,Tryz.ntmps159
 go_upto_region 8 with(go_at_call 118;refine(HF.out _).mono ?_;rintro e w1 ⟨rfl,rfl⟩)
 obtain⟨R1,g1⟩:=H.out.setSum (T.sum+x);clear b0 f0 hwr HF;generalize w.setCell ⟨g,4,none⟩ (.int .u64 (T.sum+x))=w1 at *;have HR1:=hh_ R1;have b1:=R1.blk.cell;clear R1
 go_upto_region 9 with(go_at_call 182;refine(HP.out _ HR1.out).mono ?_;rintro e w2 ⟨rfl,g2⟩)
 have R2:=HR1.out.same g2;have b2:=R2.blk.cell;have HR2:=hh_ R2;clear R2 b1
 go_wp2_with (go_at_call 184;refine(HDD.out _ HR2.out).mono ?_;rintro e w3 ⟨rfl,v3,R3,M3⟩)
 go_ret
 refine⟨by rw[HE.out];rfl,v3,by rw[HR.out];exact R3,?_⟩;have M1:Mov (rtF g (.slice a T.L.length c)) (rtF g (.slice a T.L.length c)) w w1:=⟨GrownS.of g1 fun q e=>by cases e;exact .inl rfl,fun i hi=>.inl hi⟩;exact(M1.trans (Mov.same g2)).trans M3
theorem S7_ (g:Nat) (v:Value) (T:TabM) (k:ByteArray) (x:Int) (w:World) (h:RTab w g v T) (hT:Bu_ T) (hA:Fr_ T k x) (hg:getE T.L k=none) (hm:T.mode≠2) (hl :(T.L.length:Int)≠T.m):Calls Tryz.prog 159 #[.pointer (some ⟨g,0,none⟩),.string k,.int .u64 x] w (RAdd g v T k x w):=by
 have H:=hh_ h;obtain⟨q1,q2,q3⟩:=hT.w64;have hxs:=hA.sum;have hx1:=hA.x1;have hmw:mostW=9223372036854775808:=rfl;have hb:=hT.base;have hW:W64 x:=⟨by omega,by omega⟩
 have HF:=hh_ fun y=>C5_ T.sum x y q2 hW
 rw[show fitsB T.sum x=true from decide_eq_true (by omega)] at HF;have hk2:=A7_ k;rw[decide_eq_false (show ¬k.size=0 by have:=hA.key;omega)] at hk2;have h02 :(x==0)=false:=beq_eq_false_iff_ne.2 (by omega);have hm2 :(T.mode==2)=false:=beq_eq_false_iff_ne.2 hm;have hl2 :((T.L.length:Int)==T.m)=false:=beq_eq_false_iff_ne.2 hl;have hlen:=hT.len;have hmm:=hT.m
 have HP:=hh_ fun y (R:RTab y g v { T with sum:=T.sum+x })=>B3_ v T.L k y R.own.rd
 rw[Gq_ hg] at HP;have HR:=hh_ (show(if addErr T.sum k x=0 then T.add k x else T)={ T with sum:=T.sum+x,L:=T.L++[⟨k,x,T.base⟩] } by rw[if_pos hA.err,Ey_ hg hl,if_neg hm]);have HE:=hh_ hA.err;have b0:=h.blk.cell;have f0:=h.blk.free;obtain⟨a,c,hv⟩:=h.own.shape;subst hv;have hgl:=h.blk.lt;have hwr:IntKind.u64.wrap (T.sum+x)=T.sum+x:=IntWalk.u64_in _ (by omega);clear h hT hA hg q3 q1 q2 hm hl
 go_enter Tryz.func159,Tryz.ntmps159
 go_upto_region 8 with(go_at_call 118;refine(HF.out _).mono ?_;rintro e w1 ⟨rfl,rfl⟩)
 obtain⟨R1,g1⟩:=H.out.setSum (T.sum+x);clear b0 f0 hwr HF;generalize w.setCell ⟨g,4,none⟩ (.int .u64 (T.sum+x))=w1 at *;have HR1:=hh_ R1;have b1:=R1.blk.cell;clear R1
 go_upto_region 9 with(go_at_call 182;refine(HP.out _ HR1.out).mono ?_;rintro e w2 ⟨rfl,g2⟩)
 have R2:=HR1.out.same g2;have b2:=R2.blk.cell;clear b1
 go_upto_region 17 with fail
 go_quiet (fail)
 have k3:w2.grownBy (w2.drewN nq) none:=Ae_ (Ab_ w2 none) _;have R3:=R2.same k3;clear R2 b2;generalize w2.drewN nq=w3 at *
 go_upto_region 27 with fail
 have k5:w3.grownBy w3.drew none:=Am_ (Ab_ w3 none);have R5:=R3.same k5;have HB:=hh_ R5.blk;have HO:=hh_ R5.own;have Hne:=hh_ R5.ne;obtain⟨rr,hrr⟩:∃rr,(Value.slice a T.L.length c).ownBlock=rr:=⟨_,rfl⟩;have Hrr:=hh_ hrr;have Hrg:=hh_ (show rr≠some g by rw[←hrr];exact R5.ne);have Hlw:=hh_ R5.own.low;obtain⟨P,hP⟩:∃P:List Ent→Prop,P=fun S=>S=T.L∨S=[⟨k,x,T.base⟩]∨S=T.L++[⟨k,x,T.base⟩]:=⟨_,rfl⟩;have HP1:=hh_ (show P T.L by rw[hP];exact .inl rfl);have HPx:=hh_ (show P [⟨k,x,T.base⟩] by rw[hP];exact .inr (.inl rfl));have HPF:=hh_ (show P (T.L++[⟨k,x,T.base⟩]) by rw[hP];exact .inr (.inr rfl))
 have HP2:=hh_ (show ∀S,P S→S.length≤T.L.length∨S <+: T.L++[⟨k,x,T.base⟩]∨T.L++[⟨k,x,T.base⟩] <+: S by
  intro S hS;rw[hP] at hS
  rcases hS with rfl|rfl|rfl
  ·exact .inl (Nat.le_refl _)
  ·cases T.L with
   | nil=>exact .inr (.inl (List.prefix_refl _))
   | cons _ _=>exact .inl (by simp)
  ·exact .inr (.inl (List.prefix_refl _)))
 have hb4 :(T.L.length+[(⟨k,x,T.base⟩:Ent)].length)*32≤140737488355328:=by simp;omega
 have hb5:T.L.length+[(⟨k,x,T.base⟩:Ent)].length≤9223372036854775807:=by simp;omega
 have Hz:=hh_ (show w.heap.size≤w3.drew.heap.size by have:=g1.size;have:=g2.size;have:=k3.size;have:=k5.size;omega);have Hk:=hh_ (Aa_ (Aa_ g2 k3) k5);have Hg1:=hh_ g1;clear hP hrr R5 R3 k3 k5 HR1 H HP g1 g2
 (refine Rg.wp_region_rgZ 16 #[] (KeepR entF 3 224 0 P rr) (fun _ _ _ _ _=>False) (by kernel_rfl) (by kernel_rfl) (KeepR.refl _ _ _ _ _ _) (fun _ _ _ h k=>h.trans k) (fun _ _ _ _ _ h=>h) ?_;simp only[List.take,List.drop])
 generalize w3.drew=wd at *
 (refine tq_ 4 ?_;simp only[ts_,Nat.reduceAdd];(repeat(go_big_quiet_step (fail)));refine wpQuiet_nil ?_)
 (refine Rg.tree_op rfl rfl ?_;intro y4 my4 dy4)
 clear dy4;have ax:=(my4.blk HB.out Hrg.out).cell
 go_wp2_with fail
 refine⟨KeepR.refl _ _ _ _ _ _ _,?_⟩;clear ax my4
 (refine tq_ 5 ?_;simp only[ts_,Nat.reduceAdd];(repeat(go_big_quiet_step (fail)));refine wpQuiet_nil ?_)
 (refine Rg.tree_op rfl rfl ?_;intro y10 my10 dy10)
 clear dy10;have ax:=(my10.blk HB.out Hrg.out).cell
 go_wp2_with fail
 refine⟨KeepR.refl _ _ _ _ _ _ _,?_⟩;clear ax my10
 (refine tq_ 1 ?_;simp only[ts_,Nat.reduceAdd];(repeat(go_big_quiet_step (fail)));refine wpQuiet_nil ?_)
 (refine Rg.tree_op rfl rfl ?_;intro y12 my12 dy12)
 clear dy12
 go_wp2_with fail
 refine⟨KeepR.of (ga_ _ _ _),?_⟩;have N8:Own entF 3 224 0 (y12.alloc (.cells #[.string k,.int .u64 x,.int .u64 T.base] 224)) (.slice (some ⟨y12.heap.size,0,none⟩) 1 1) [⟨k,x,T.base⟩]:=Bx_ Ay_ y12 (Nat.zero_le _) ⟨k,x,T.base⟩ _ rfl;generalize y12.alloc (.cells #[.string k,.int .u64 x,.int .u64 T.base] 224)=e8 at *;generalize y12.heap.size=g8 at *
 (refine Rg.tree_op rfl rfl ?_;intro y13 my13 dy13)
 have N9:=my13.own _ _ HP1.out HO.out;have R9:=((dy13.out 12 (by omega) (by kernel_rfl)).own _ _ HPx.out N8).rd;clear dy13
 go_wp2_with (at_builtin;refine Gj_ (P:=P) Bi_ Bh_ Ay_ N9 R9 rfl hb4 hb5 (Nat.zero_le _) HP2.out (by rfl) _ _ (by rfl) (by rfl) (by rfl) ?_;intro v9 e9 o9 k9 l9;have Hk9:=hh_ k9;clear k9;have Hl9:=hh_ (And.intro l9 my13.grown.size);clear l9)
 rw[Hrr.out] at Hk9;refine⟨Hk9.out,?_⟩;clear N9 R9 N8 my12 my13
 (refine tq_ 2 ?_;simp only[ts_,Nat.reduceAdd];(repeat(go_big_quiet_step (fail)));refine wpQuiet_nil ?_)
 (refine Rg.tree_nil ?_;intro z mz dz cz)
 have OZ:=(dz.out 13 (by omega)).own _ _ HPF.out o9;have BZ:=mz.blk HB.out Hrg.out;have GZ:=mz.grown;clear dz cz o9 Hk9 mz;have bz:=BZ.cell;have fz:=BZ.free;obtain⟨az,cz2,hvz⟩:=OZ.shape;rw[List.length_append,List.length_singleton] at hvz;subst hvz
 go_wp2_with fail
 go_ret
 have hnz:=F1_ Hl9.out.1 Hne.out (Nat.lt_of_lt_of_le HB.out.lt Hl9.out.2);obtain⟨R6,g6⟩:=RTab.setL BZ OZ hnz;refine⟨by rw[HE.out];rfl,_,by rw[HR.out];exact R6,?_,fun i hi=>?_⟩
 ·have M1:GrownS (rtF g (.slice a T.L.length c)) w w1:=GrownS.of Hg1.out fun q e=>by cases e;exact .inl rfl
  have M2:GrownS (rtF g (.slice a T.L.length c)) w1 wd:=GrownS.none_ Hk.out
  have M3:GrownS (rtF g (.slice a T.L.length c)) wd z:=GrownS.of GZ fun q e=>.inr (Hrr.out.trans e)
  exact((M1.trans M2 fun i hi _=>hi).trans M3 fun i hi _=>hi).trans (GrownS.of (S:=oneF g) g6 fun q e=>by cases e;exact rfl) fun i hi _=>.inl hi
 ·rcases hi with hi|hi
  ·exact .inl (.inl hi)
  ·rcases lies_new Hl9.out.1 i hi with hi|hi
   ·exact .inl (.inr hi)
   ·exact .inr (lt_ Hz.out (lt_ Hl9.out.2 hi))
end
end Go.Proofs.YtckmgjmeanloaaaGreat
