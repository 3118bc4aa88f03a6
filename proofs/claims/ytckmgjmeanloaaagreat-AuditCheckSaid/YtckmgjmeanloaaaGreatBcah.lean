/- Contracts of functions, and laws. -/
import Derived.Test.YtckmgjmeanloaaaGreatBcag
set_option maxHeartbeats 8000000
set_option maxRecDepth 100000
namespace Go.Proofs.YtckmgjmeanloaaaGreat
open Go.Proofs.Tryz
variable {w w':World} {t:List Int} {k:ByteArray} {Q:Exit→Act→World→Prop} {ops:Array Oper} {o:Oper} {a:Act} {cs:Array Value}
section
open Go.RowKit
attribute [local go_sem ↓] Ag_
attribute [local go_sem] Ah_
theorem ep_ (c:Cfg) (t:List Int) (lv:Value) (l:List Summ) (w:World) (h:RCfg w c t) (hl:C4_ w lv l) (hs:D7_ l) :
  Calls prog 100 #[c.val,lv] w (RetWord (restF c l) w):=by
 obtain⟨la,lc,rfl⟩:=hl.rd.shape;have HL:=hh_ hl;have hlm:=hl.rd.2.1;obtain⟨s1,s2⟩:=h.shards;obtain⟨s3,s4⟩:=h.spread
 have Hc:=hh_ fun w' (hg:w.grownBy w' none)=>ax_ c t _ l w' (h.same hg) (hl.same hg) hs
 clear h hl hs
 by_cases hz:mergeErr c l=0
 ·have hlen:=Ue_ hz
  obtain⟨N,hN⟩:∃N,c.Spread.toNat=N:=⟨_,rfl⟩;have HR:=hh_ (p:=restF c l=restI c.Shards N l l.length) (by unfold restF;rw[if_neg (by omega),hN,←hlen];rfl)
  have hN1:c.Spread =(N:Int):=by omega
  have hN2:N≤8:=by omega
  have hl8:l.length≤8:=by omega
  have hl1:1≤l.length:=by omega
  have Hlen:=hh_ hlen;have HN1:=hh_ hN1
  have HAf:=hh_ fun(k:Nat) (hk:k<l.length) (w':World)=>T5_ c k w' ⟨s1,s2⟩ ⟨s3,s4⟩ ⟨by omega,by omega⟩
  have HIn:Hid (∀k:Nat,∀x∈setN (k:Int) c.Shards N,0≤x∧x<(l.length:Int)):=hh_ fun k x hx=>by
   have:=Ei_ s1 x hx
   rw[hlen];exact this
  rw[hN] at HAf
  have hmod:∀(h:Nat) (i:Nat),0≤((h:Int)+i)%c.Shards∧((h:Int)+i)%c.Shards<l.length:=fun h i=>⟨Int.emod_nonneg _ (by omega),by rw[hlen];exact Int.emod_lt_of_pos _ (by omega)⟩
  have Hmod:=hh_ hmod;rw[hz] at Hc;have hsz :(c.Shards==0)=false:=bf_ (by omega);clear hz hN hN1 hlen hmod
  go_enter func100,ntmps100
  go_upto_region 1 with(refine At_ rfl _ rfl c rfl ?_;intro w1 B1 G1 z1)
  go_wp2_with (first |(refine An_ rfl _ rfl _ rfl c (by assumption) ?_) |(go_at_call 129;refine(Hc.out _ G1).mono ?_;rintro e w2 ⟨rfl,G2⟩;have BC:=B1.same G2;have bc:=BC.cell))
  have hg:=Aa_ G1 G2;clear G1 B1 G2 bc Hc
  go_loopw [5,6] (fun s5 s6 wr=>∃(k:Nat),k≤l.length∧s6=.int .i64 k∧s5=.int .u64 (restI c.Shards N l k)∧W64 (restI c.Shards N l k)∧w2.grownBy wr none) (fun _ s6 _=>l.length-(RowKit.intOf s6).toNat)
  case atStart=>exact⟨0,zl_ _,rfl,rfl,D3_,Ab_ _ _⟩
  case round=>
   obtain⟨k,hk,rfl,rfl,hT,hgr⟩:=hrel;have BCr:=BC.same hgr;have bcr:=BCr.cell
   by_cases hlt:k<l.length
   ·have hlt2 :(k:Int)<c.Shards:=by have:=Hlen.out;omega
    have HS:=hh_ (Eo_ c.Shards N l k);have hin:=HIn.out k;have hON:=Fu_ k c.Shards N;have HA2:=hh_ (HAf.out k hlt);generalize restI c.Shards N l k=T at *;generalize setN k c.Shards N=O at *;have Hin:=hh_ hin;clear hin
    go_wp2_with (first |(refine An_ rfl _ rfl _ rfl c (by assumption) ?_) |(go_at_call 130;refine(HA2.out _).mono ?_;rintro e w3 ⟨ov,rfl,hov,G3⟩;obtain⟨oa,oc,rfl⟩:=hov.shape))
    have HO:=hh_ hov.rd;have hgg:=Aa_ (Aa_ hg hgr) G3;clear hov bcr
    go_loopw [7,24] (fun s7 s24 wi=>∃(i:Nat),i≤O.length∧s24=.int .i64 i∧s7=.int .u64 (uF l (O.take i))∧W64 (uF l (O.take i))∧w3=wi) (fun _ s24 _=>O.length-(RowKit.intOf s24).toNat)
    case atStart=>exact⟨0,zl_ _,rfl,rfl,D3_,rfl⟩
    case round=>
     obtain⟨i,hi,rfl,rfl,hU,rfl⟩:=hrel
     by_cases hil:i<O.length
     ·obtain⟨go,offo,capo,hvo,hgo,co⟩:=HO.out.one O4_ hil
      cases hvo;obtain⟨m1,m2⟩:=Hin.out _ (mg_ hil);have HS2:=hh_ (B2_ hil);have HU2:=hh_ (eq_ l (O.take i) O[i]);generalize O[i]=q at *;obtain⟨n,rfl⟩:=Int.eq_ofNat_of_zero_le m1
      have hnl:n<l.length:=by omega
      obtain⟨g,off,cap,hv,hgl,c0,c1,c2,c3,hR,hW⟩:=(HL.out.same hgg).at_ hnl;cases hv;have hwu:=hW.untr;have HA:=hh_ (g3_ hnl);have hW2:=Cr_ hU hwu;generalize l[n].untr=u at *;generalize uF l (O.take i)=U at *;clear hR hW c0 c1 c3
      go_wp2_with (go_at_call 68;refine(Ft_ U u _ hU hwu).mono ?_;rintro e w' ⟨rfl,rfl⟩)
      exact⟨⟨i+1,by omega,by go_num,by rw[HS2.out,HU2.out,HA.out],by rw[HS2.out,HU2.out,HA.out];exact hW2,trivial⟩,by simp[RowKit.intOf];omega⟩
     ·have hle:O.take i=O:=tk_ (by omega)
      rw[hle] at hU ⊢;clear hle;generalize uF l O=U at *
      go_wp2_with fail
      refine⟨⟨k+1,by omega,by go_num,?_,?_,Aa_ hgr G3⟩,by simp[RowKit.intOf];omega⟩
      ·rw[HS.out]
      ·rw[HS.out];unfold W64 at *;omega
   ·have hlt2:¬(k:Int)<c.Shards:=by have:=Hlen.out;omega
    have hkl:k=l.length:=by omega
    have HF:=hh_ (p:=restF c l=restI c.Shards N l k) (by rw[hkl];exact HR.out);generalize restI c.Shards N l k=T at *
    go_wp2_with fail
    go_ret
    exact Cl_ HF.out (Aa_ hg hgr)
 ·have HF:=hh_ (p:=restF c l=0) (by unfold restF;rw[if_pos hz])
  generalize mergeErr c l=ME at *;have hz2 :(ME != 0)=true:=bne_iff_ne.2 hz
  go_enter func100,ntmps100
  go_upto_region 1 with(refine At_ rfl _ rfl c rfl ?_;intro w1 B1 G1 z1)
  go_wp2_with (first |(refine An_ rfl _ rfl _ rfl c (by assumption) ?_) |(go_at_call 129;refine(Hc.out _ G1).mono ?_;rintro e w2 ⟨rfl,G2⟩))
  go_ret
  exact Cl_ HF.out (Aa_ G1 G2)
end
section
open Go.RowKit Go.Sort
attribute [local go_sem ↓] Ag_
attribute [local go_sem] Ah_
structure FewB (c:Cfg) (t:List Int) (lv:Value) (l:List Summ) (w:World):Prop where
 rcfg:RCfg w c t
 sums:C4_ w lv l
 ok:F4_ l
 small:D7_ l
 keys :(keysL l).length≤10000
 top:1≤c.Top∧c.Top≤64
theorem FewB.same {c:Cfg} {lv:Value} {l:List Summ} (h:FewB c t lv l w) (hg:w.grownBy w' none):FewB c t lv l w':=⟨h.rcfg.same hg,h.sums.same hg,h.ok,h.small,h.keys,h.top⟩
theorem Gj_ {l:List Summ} (h:F4_ l):W64 (totalF l):=by
 have:∀(l:List Summ) (a:Int),(∀s∈l,SumW s)→W64 a→W64 (l.foldl (fun n s=>satA n s.total) a):=by
  intro l
  induction l with
  | nil=>exact fun a _ ha=>ha
  | cons s l ih=>exact fun a hl ha=>ih _ (fun x hx=>hl x (by simp[hx])) (Cr_ ha (hl s (by simp)).total)
 exact this l 0 h.wf D3_
theorem Qb_ {c:Cfg} {l:List Summ} (ho:F4_ l) (hs:D7_ l):∀x∈allF c t l,LnW x:=by
 intro x hx;obtain⟨b,hb,rfl⟩:=List.mem_map.1 hx
 have:=Vl_ (c:=c) (t:=t) ho (bA b) ((setF c t (bA b)).filter (fun i:Int=>decide (i<(l.length:Int))))
 refine⟨this.1,this.2,?_⟩;obtain⟨s,hs',e,he,rfl⟩:=I3_ hb
 have:=(hs s hs').key e he
 show(entK e).toArray.size≤_
 simpa [entK] using this
theorem Va_ (c:Cfg) (t:List Int) (lv:Value) (l:List Summ) (rv:Value) (rej:List Int) (win:Int) (w:World) (hF:FewB c t lv l w) (hr:RdL wordF 1 w rv rej) (hrl:rej.length≤1000000) :
  Calls prog 57 #[c.val,.int .i64 win,lv,rv] w (Ix_ c t l win rej w):=by
 have hHt:=Gj_ hF.ok
 have hlw:∀x∈bLs c t l,LnW x:=fun x hx=>Qb_ hF.ok hF.small x (Dl_ (List.mem_of_mem_take hx))
 have hk13:=lt_ (Fx_ l) hF.keys;have hal:=L7_ c t l;have htop:=hF.top
 have key_few:∀s∈l,∀e∈s.es,e.key.size≤9223372036854775807:=fun s hs e he=>(hF.small s hs).key e he
 have hkl:=hF.keys;have HP:=hh_ (p:=∀(e:Ending) (w':World),(∃vl vr,e=.returned (repV win (totalF l) vl (bOver c t l) ((keysF l).length:Int) (bRest c t l) vr)∧RdL lnF 3 w' vl (bLs c t l)∧RdL wordF 1 w' vr rej∧CapOk vl∧CapOk vr∧From w.heap.size vl∧From w.heap.size vr∧w.grownBy w' none)→Ix_ c t l win rej w e w') (fun _ _ h=>h)
 have Hc1:=hh_ fun w' (h:World.grownBy w w' none)=>hv_ c t _ l w' (hF.same h).rcfg (hF.same h).sums (hF.same h).ok (by omega) key_few
 have Hc2:=hh_ (p:=∀w' v,RdL lnF 3 w' v (allF c t l)→Calls prog 95 #[v,.int .i64 c.Top] w' (fun e w2=>∃v1 v2,e=.returned (.tuple #[v1,v2])∧RdL lnF 3 w2 v1 (bLs c t l)∧RdL lnF 3 w2 v2 (bOm c t l)∧CapOk v1∧From w'.heap.size v1∧From w'.heap.size v2∧w'.grownBy w2 none)) (fun w' v h=>h3_ v _ c.Top w' h (by omega) (by omega) (by omega))
 have Hc3:=hh_ fun w' (h:World.grownBy w w' none)=>Qe_ lv l w' (hF.same h).sums
 have HLW:=hh_ hlw;have Hc5:=hh_ (p:=∀w',∃q,Calls prog 101 #[.int .u64 (totalF l),.int .u64 (satL (loSum (bLs c t l)))] w' (fun e w2=>e=.returned (.tuple #[.int .u64 (bOver c t l),.bool q])∧w'=w2)) (fun w'=>⟨_,h2_ _ _ w' hHt (Jr_ (loSum_pos fun x hx=>(hlw x hx).lo.1))⟩);have Hc6:=hh_ (p:=∀w',World.grownBy w w' none→Calls prog 98 #[lv] w' (fun e w2=>∃a cp,e=.returned (.slice a (keysF l).length cp)∧w'.grownBy w2 none)) (fun w' h=>(Vo_ lv l w' (hF.same h).sums (by omega)).mono fun e w2 ⟨v,h1,h2,h3⟩=>by obtain⟨a,cp,hv⟩:=h2.shape;exact⟨a,cp,hv▸h1,h3⟩)
 have Hc7:=hh_ fun w' (h:World.grownBy w w' none)=>ep_ c t lv l w' (hF.same h).rcfg (hF.same h).sums (hF.same h).small
 have Hc8:=hh_ (p:=∀w' v,RdL lnF 3 w' v (bOm c t l)→Calls prog 99 #[v,.int .u64 (restF c l)] w' (RetWord (bRest c t l) w')) (fun w' v h=>ef_ v _ _ w' h);have HR:=hh_ hr;have hrb:=hr.2.1
 have hb1:rej.length*8≤140737488355328:=by omega
 have hb2:rej.length≤9223372036854775807:=by omega
 obtain⟨ra,rc,rfl⟩:=hr.shape;obtain⟨la,lcp,rfl⟩:=hF.sums.rd.shape;clear hF hr hHt hlw hk13 hal htop hrl hrb key_few hkl;generalize allF c t l=AL at *;generalize bLs c t l=Ls at *;generalize bOm c t l=Om at *;generalize totalF l=tot at *;generalize bOver c t l=ov at *;generalize bRest c t l=rst at *;generalize restF c l=rs0 at *;generalize (keysF l).length=K at *
 go_enter func57,ntmps57
 go_upto_region 1 with(refine At_ rfl _ rfl c rfl ?_;intro w1 B1 G1 z1)
 have hb0:w.heap.size<w1.heap.size:=z1;have hbb:w.heap.size≤w1.heap.size:=Nat.le_of_lt z1;have B2:=B1.same (ga_ w1 (.cells #[.int .i64 0,.int .u64 0,.slice none 0 0,.int .u64 0,.int .i64 0,.int .u64 0,.slice none 0 0] 26) none);have A2:=Blk.new w1 #[.int .i64 0,.int .u64 0,.slice none 0 0,.int .u64 0,.int .i64 0,.int .u64 0,.slice none 0 0] 26;have G2:=Ad_ G1 (.cells #[.int .i64 0,.int .u64 0,.slice none 0 0,.int .u64 0,.int .i64 0,.int .u64 0,.slice none 0 0] 26);generalize w1.alloc _=w2 at *;generalize w1.heap.size=rb at *;clear B1 G1 z1;have B6:=B2.same (w':=w2.drew) gw_;have C6:=A2.same (w':=w2.drew) gw_;have K6:=Aa_ G2 (show World.grownBy w2 w2.drew none from gw_);have hbr6:rb<w2.drew.heap.size:=C6.lt
 (refine rn_ 11 (fun k _ w v w'=>match k with | 2=>RdL lnF 3 w' v AL∧World.grownBy w w' none | 5=>(∃v1 v2,v=.tuple #[v1,v2]∧RdL lnF 3 w' v1 Ls∧RdL lnF 3 w' v2 Om∧CapOk v1∧From w.heap.size v1∧From w.heap.size v2)∧World.grownBy w w' none | _=>False) ?_;simp only[ts_])
 clear A2 B2 G2;generalize w2.drew=w6 at *
 (refine to_ ?_;intro x0 mx0 dx0)
 clear dx0;have BX:=B6.same mx0
 go_wp2_with (refine An_ rfl _ rfl _ rfl c (by assumption) ?_)
 refine⟨Ab_ _ _,?_⟩;clear BX
 (refine tq_ 1 ?_;(repeat(go_big_quiet_step (fail)));refine wn_ ?_)
 (refine tc_ ?_;intro x3 mx3 dx3;refine⟨?_,?_⟩;· (unfold Rg.callSpec;go_simp;(refine(Hc1.out x3 (Aa_ K6 mx3)).mono ?_;rintro e w' ⟨v,rfl,o,g⟩;exact⟨v,rfl,o.rd,g⟩)))
 clear dx3;rintro v3 y3 ⟨R3,g3⟩;refine⟨g3,?_⟩;simp only[pt_]
 (refine tq_ 1 ?_;(repeat(go_big_quiet_step (fail)));refine wn_ ?_)
 (refine to_ ?_;intro x5 mx5 dx5)
 clear dx5;have bx:=(B6.same mx5).cell
 go_wp2_with fail
 refine⟨Ab_ _ _,?_⟩;clear bx
 (refine tc_ ?_;intro x6 mx6 dx6;refine⟨?_,?_⟩;· (unfold Rg.callSpec;go_simp;(refine(Hc2.out x6 _ (RdL.same R3 (dx6.out 2 (by omega) (by kernel_rfl)))).mono ?_;rintro e w' ⟨v1,v2,rfl,h1,h2,h3,h4,h5,g⟩;exact⟨_,rfl,⟨v1,v2,rfl,h1,h2,h3,h4,h5⟩,g⟩)))
 clear dx6;rintro v6 y6 ⟨⟨v1,v2,rfl,R1,R2,hc1,hf1,hf2⟩,g6⟩;refine⟨g6,?_⟩;simp only[pt_];have hbx6:rb<x6.heap.size:=ll_ hbr6 mx6.size
 (refine tq_ 5 ?_;(repeat(go_big_quiet_step (fail)));refine wn_ ?_)
 (refine Rg.tree_nil ?_;intro x7 mx7 dx7 cx7)
 have RA7:=R1.same (dx7.out 5 (by omega));have RB7:=R2.same (dx7.out 5 (by omega));have C7:=C6.same mx7;have B7:=B6.same mx7;have K7:=Aa_ K6 mx7;clear R1 R2 R3 g3 g6 mx0 mx3 mx5 mx6 mx7 dx7 cx7 C6 B6 K6 y3 y6;obtain⟨a1,k1,rfl⟩:=RA7.shape;obtain⟨a2,k2,rfl⟩:=RB7.shape
 have hx6:w.heap.size≤x6.heap.size:=by omega
 clear x0 x3 x5
 go_upto_region 2 with fail
 have hb7:rb<x7.heap.size:=C7.lt;have B8:=B7.same (w':=x7.drew) gw_;have C8:=C7.same (w':=x7.drew) gw_;have RA8:=RA7.same (w':=x7.drew) gw_;have RB8:=RB7.same (w':=x7.drew) gw_;have K8:=Aa_ K7 (show World.grownBy x7 x7.drew none from gw_);have hb8:rb<x7.drew.heap.size:=hb7
 (refine rn_ 17 (fun k _ w v w'=>match k with | 2=>v=.int .u64 tot∧World.grownBy w w' none | 5=>(∃a cp,v=.slice a K cp)∧World.grownBy w w' none | 10=>v=.int .u64 rs0∧World.grownBy w w' none | 11=>v=.int .u64 rst∧World.grownBy w w' none | _=>False) ?_;simp only[ts_])
 clear B7 C7 RA7 RB7 K7 hb7;generalize x7.drew=w8 at *
 (refine tq_ 2 ?_;(repeat(go_big_quiet_step (fail)));refine wn_ ?_)
 (refine tc_ ?_;intro y2 my2 dy2;refine⟨?_,?_⟩;· (unfold Rg.callSpec;go_simp;(refine(Hc3.out y2 (Aa_ K8 my2)).mono ?_;rintro e w' ⟨rfl,g⟩;exact⟨_,rfl,rfl,g⟩)))
 clear dy2;rintro v2 e2 ⟨rfl,g2⟩;refine⟨g2,?_⟩;simp only[pt_]
 (refine tq_ 2 ?_;(repeat(go_big_quiet_step (fail)));refine wn_ ?_)
 (refine tc_ ?_;intro y5 my5 dy5;refine⟨?_,?_⟩;· (unfold Rg.callSpec;go_simp;(refine(Hc6.out y5 (Aa_ K8 my5)).mono ?_;rintro e w' ⟨a,cp,rfl,g⟩;exact⟨_,rfl,⟨a,cp,rfl⟩,g⟩)))
 clear dy5;rintro v5 e5 ⟨⟨ka,kc,rfl⟩,g5⟩;refine⟨g5,?_⟩;simp only[pt_]
 (refine tq_ 2 ?_;(repeat(go_big_quiet_step (fail)));refine wn_ ?_)
 (refine to_ ?_;intro y8 my8 dy8)
 clear dy8;have BX:=B8.same my8
 go_wp2_with (refine An_ rfl _ rfl _ rfl c (by assumption) ?_)
 refine⟨Ab_ _ _,?_⟩;clear BX
 (refine tq_ 1 ?_;(repeat(go_big_quiet_step (fail)));refine wn_ ?_)
 (refine tc_ ?_;intro y10 my10 dy10;refine⟨?_,?_⟩;· (unfold Rg.callSpec;go_simp;(refine(Hc7.out y10 (Aa_ K8 my10)).mono ?_;rintro e w' ⟨rfl,g⟩;exact⟨_,rfl,rfl,g⟩)))
 clear dy10;rintro v10 e10 ⟨rfl,g10⟩;refine⟨g10,?_⟩;simp only[pt_]
 (refine tc_ ?_;intro y11 my11 dy11;refine⟨?_,?_⟩;· (unfold Rg.callSpec;go_simp;(refine(Hc8.out y11 _ (RB8.same my11)).mono ?_;rintro e w' ⟨rfl,g⟩;exact⟨_,rfl,rfl,g⟩)))
 clear dy11;rintro v11 e11 ⟨rfl,g11⟩;refine⟨g11,?_⟩;simp only[pt_]
 (refine to_ ?_;intro y12 my12 dy12)
 clear dy12;have hz12:w8.heap.size≤y12.heap.size:=my12.size
 go_wp2_with fail
 refine⟨ga_ _ _ _,?_⟩;have N12:=A0_ (e:=22) wordF 1 hz12
 have hs12 :(y12.alloc (.cells #[] 22)).heap.size=y12.heap.size+1:=by simp
 generalize y12.alloc _=e12 at *;generalize hgy:y12.heap.size=g12 at *;have Hgy:=hh_ hgy;clear hgy
 (refine tq_ 1 ?_;(repeat(go_big_quiet_step (fail)));refine wn_ ?_)
 (refine to_ ?_;intro y14 my14 dy14)
 have N14:=N12.same (dy14.out 12 (by omega) (by kernel_rfl));have R14:=RdL.same HR.out (Aa_ K8 my14);have z14:=my14.size;clear dy14
 go_wp2_with (at_builtin;refine A5_ as_ Yf_ N14 R14 rfl hb1 hb2 z14 ?_;intro v14 e14 o14 g14 l14;have Hg14:=hh_ g14;clear g14)
 refine⟨Hg14.out,?_⟩;clear R14 N14 z14;obtain⟨a14,k14,rfl⟩:=o14.shape
 (refine tq_ 1 ?_;(repeat(go_big_quiet_step (fail)));refine wn_ ?_)
 (refine to_ ?_;intro y16 my16 dy16)
 clear dy16
 go_wp2_with fail
 refine⟨ga_ _ _ _,?_⟩;have A16:=Blk.new y16 #[.int .i64 0,.int .u64 0,.slice none 0 0,.int .u64 0,.int .i64 0,.int .u64 0,.slice none 0 0] 26
 have hs16 :(y16.alloc (.cells #[.int .i64 0,.int .u64 0,.slice none 0 0,.int .u64 0,.int .i64 0,.int .u64 0,.slice none 0 0] 26)).heap.size=y16.heap.size+1:=by simp
 have hz16:w8.heap.size≤y16.heap.size:=my16.size;generalize y16.alloc _=e16 at *;generalize hgy2:y16.heap.size=br at *
 (refine Rg.tree_nil ?_;intro wz mwz dwz cwz)
 have q1:e12.grownBy y16 none∨e16.grownBy y12 none:=cwz.out 12 16 (by omega) (by omega) (by omega);have q2:e14.grownBy y16 none∨e16.grownBy y14 none:=cwz.out 14 16 (by omega) (by omega) (by omega)
 have hne:∀k,(Value.slice a14 rej.length k14).ownBlock=some k→k≠br:=by
  intro k hk e;subst e;have hy:=Hgy.out
  rcases q2 with h|h
  ·have h1:=(o14.lt _ hk).2
   have h2:=h.size
   omega
  ·have h1:=h.size
   rcases l14 with e |⟨m,e,h2⟩
   ·rw[hk] at e
    have e3:k=g12:=by simpa [Value.ownBlock] using e
    rcases q1 with h|h
    ·have:=h.size;omega
    ·have:=h.size;omega
   ·rw[hk] at e
    cases e
    omega
 have Az:=A16.same (dwz.out 16 (by omega));have o9:=o14.same (dwz.out 14 (by omega));clear my2 g2 my5 g5 my8 my10 g10 my11 g11 my12 hs12 Hgy my14 Hg14 l14 my16 hs16 q1 q2 A16 o14 N12 hgy2 dwz cwz;have a9:=Az.cell;have f9:=Az.free
 go_upto_region 4 with fail
 clear a9 f9;have hgr:World.grownBy wz (((((((wz.setCell ⟨br,0,none⟩ (.int .i64 win)).setCell ⟨br,1,none⟩ (.int .u64 tot)).setCell ⟨br,2,none⟩ (.slice a1 Ls.length k1)).setCell ⟨br,3,none⟩ (.int .u64 0)).setCell ⟨br,4,none⟩ (.int .i64 K)).setCell ⟨br,5,none⟩ (.int .u64 rst)).setCell ⟨br,6,none⟩ (.slice a14 rej.length k14)) (some br):=Ac_ (Ac_ (Ac_ (Ac_ (Ac_ (Ac_ (Ac_ (Ab_ _ _) _ _) _ _) _ _) _ _) _ _) _ _) _ _;have hAr:Blk (((((((wz.setCell ⟨br,0,none⟩ (.int .i64 win)).setCell ⟨br,1,none⟩ (.int .u64 tot)).setCell ⟨br,2,none⟩ (.slice a1 Ls.length k1)).setCell ⟨br,3,none⟩ (.int .u64 0)).setCell ⟨br,4,none⟩ (.int .i64 K)).setCell ⟨br,5,none⟩ (.int .u64 rst)).setCell ⟨br,6,none⟩ (.slice a14 rej.length k14)) br #[.int .i64 win,.int .u64 tot,.slice a1 Ls.length k1,.int .u64 0,.int .i64 K,.int .u64 rst,.slice a14 rej.length k14]:=((((((Az.set_ 0 _ rfl).set_ 1 _ rfl).set_ 2 _ rfl).set_ 3 _ rfl).set_ 4 _ rfl).set_ 5 _ rfl).set_ 6 _ rfl;generalize ((((((wz.setCell _ _).setCell _ _).setCell _ _).setCell _ _).setCell _ _).setCell _ _).setCell _ _=w10 at *;have M10:=Af_ mwz hgr hz16;have B10:=B8.same M10;have C10:=C8.same M10;have RA10:=RA8.same M10;have K10:=Aa_ K8 M10
 have hwbr:w.heap.size≤br:=by omega
 have o10:=o9.kept hgr (fun k hk e=>hne k hk (by cases e;rfl));have hf9:=o10.from_;have cp9:=o10.capOk;have RC10:=o10.rd;have A10:=hAr
 have hrbr:rb≠br:=by omega
 have hbw:br<w10.heap.size:=A10.lt;have o10':=o10;clear o9 o10 RC10 B8 RB8 mwz Az hAr hgr
 go_wp2_with fail
 have hlm:=RA10.2.1
 go_loopw [12,42] (fun s12 s42 wk=>∃k:Nat,k≤Ls.length∧s42=.int .i64 k∧s12=.int .u64 (satL (loSum (Ls.take k)))∧w10.grownBy wk none) (fun _ s42 _=>Ls.length-(RowKit.intOf s42).toNat)
 case atStart=>exact⟨0,zl_ _,rfl,rfl,Ab_ _ _⟩
 case round=>
  obtain⟨k,hk,rfl,rfl,hg⟩:=hrel
  by_cases hlt:k<Ls.length
  ·obtain⟨g,off,cap,hv,hgl,hc⟩:=(RA10.same hg).at_ Ay_ hlt
   cases hv;have c0:=hc 0 _ rfl;have c1:=hc 1 _ rfl;have c2:=hc 2 _ rfl;rw[Nat.add_zero] at c0;clear hc;have hx:=HLW.out Ls[k] (mg_ hlt)
   have hps:0≤loSum (Ls.take k):=loSum_pos fun x hx=>(HLW.out x (List.mem_of_mem_take hx)).lo.1
   have w1':W64 (satL (loSum (Ls.take k))):=Jr_ hps;have w2':W64 Ls[k].lo:=hx.lo;have HS:=hh_ (show satL (loSum (Ls.take (k+1)))=satA (satL (loSum (Ls.take k))) Ls[k].lo by rw[tg_ hlt,Ew_,Lz_ hps w2'.1]);clear hx hps;generalize satL (loSum (Ls.take k))=T at *;generalize Ls[k]=x at *;have G2:=Ad_ hg (.cells #[.string x.key,.int .u64 x.lo,.int .u64 x.hi] 46);have A2:=(Blk.new wr #[.string x.key,.int .u64 x.lo,.int .u64 x.hi] 46).cell
   go_wp2_with (go_at_call 68;refine(Ft_ T x.lo _ w1' w2').mono ?_;rintro e w' ⟨rfl,rfl⟩)
   exact⟨⟨k+1,by omega,by go_num,by rw[HS.out],G2⟩,by simp[RowKit.intOf];omega⟩
  ·have hl:Ls.take k=Ls:=tk_ (by omega)
   rw[hl];have A11:=A10.same hg;have M11:=Aa_ M10 hg;have o11:=o10'.same hg;clear A10 C10 RA10 K10 hg B10 M10 o10';have a11:=A11.cell;have f11:=A11.free;obtain⟨qs,hqs⟩:=Hc5.out wr
   go_upto_region 10 with(go_at_call 101;refine hqs.mono ?_;rintro e w' ⟨rfl,rfl⟩)
   clear a11 f11 hqs;have A12:Blk (wr.setCell ⟨br,3,none⟩ (.int .u64 ov)) br #[.int .i64 win,.int .u64 tot,.slice a1 Ls.length k1,.int .u64 ov,.int .i64 K,.int .u64 rst,.slice a14 rej.length k14]:=A11.set_ 3 _ rfl;have G12:=Ac_ (Ab_ wr (some br)) 3 (.int .u64 ov);have M12:=Af_ M11 G12 hz16;have RA12:=RA8.same M12;have C12:=C8.same M12;have K12:=Aa_ K8 M12;have RC12:=(o11.kept G12 (fun k hk e=>hne k hk (by cases e;rfl))).rd;clear M11 G12 o11 A11 M12 RA8 C8 K8 hne;generalize wr.setCell ⟨br,3,none⟩ (.int .u64 ov)=w12 at *;have a12:=A12.cell;have f12:=C12.free;have c12:=C12.cell
   go_wp2_with fail
   clear a12 f12 c12;have hgc:World.grownBy w12 (((((((w12.setCell ⟨rb,0,none⟩ (.int .i64 win)).setCell ⟨rb,1,none⟩ (.int .u64 tot)).setCell ⟨rb,2,none⟩ (.slice a1 Ls.length k1)).setCell ⟨rb,3,none⟩ (.int .u64 ov)).setCell ⟨rb,4,none⟩ (.int .i64 K)).setCell ⟨rb,5,none⟩ (.int .u64 rst)).setCell ⟨rb,6,none⟩ (.slice a14 rej.length k14)) (some rb):=Ac_ (Ac_ (Ac_ (Ac_ (Ac_ (Ac_ (Ac_ (Ab_ _ _) _ _) _ _) _ _) _ _) _ _) _ _) _ _;have hCr:Blk (((((((w12.setCell ⟨rb,0,none⟩ (.int .i64 win)).setCell ⟨rb,1,none⟩ (.int .u64 tot)).setCell ⟨rb,2,none⟩ (.slice a1 Ls.length k1)).setCell ⟨rb,3,none⟩ (.int .u64 ov)).setCell ⟨rb,4,none⟩ (.int .i64 K)).setCell ⟨rb,5,none⟩ (.int .u64 rst)).setCell ⟨rb,6,none⟩ (.slice a14 rej.length k14)) rb #[.int .i64 win,.int .u64 tot,.slice a1 Ls.length k1,.int .u64 ov,.int .i64 K,.int .u64 rst,.slice a14 rej.length k14]:=((((((C12.set_ 0 _ rfl).set_ 1 _ rfl).set_ 2 _ rfl).set_ 3 _ rfl).set_ 4 _ rfl).set_ 5 _ rfl).set_ 6 _ rfl;generalize ((((((w12.setCell _ _).setCell _ _).setCell _ _).setCell _ _).setCell _ _).setCell _ _).setCell _ _=w13 at *;have RA13:=RA12.keptFrom hf1 hgc hbx6;have RC13:=RC12.keptFrom hf9 hgc hb8;have K13:=Af_ K12 hgc hbb;have rc13:=hCr.cell;clear A12 C12 K12 RA12 RC12 hgc
   have hx8:w.heap.size≤w8.heap.size:=by omega
   refine bodyPost_ret (v:=repV win tot (.slice a1 Ls.length k1) ov K rst (.slice a14 rej.length k14)) (by simp[results,results57,go_sem,rc13]) rfl ?_;exact HP.out _ _ ⟨_,_,rfl,RA13,RC13,hc1,cp9,hf1.le hx6,hf9.le hx8,K13⟩
end
section
open Go.RowKit Go.Sort
def mapTo {α:Type} (f:α→α) (j:Nat) (l:List α):List α:=(l.take j).map f++l.drop j
theorem Gx_ {α:Type} (f:α→α) (l:List α):mapTo f 0 l=l:=by simp[mapTo]
theorem Jx_ {α:Type} (f:α→α) (l:List α):mapTo f l.length l=l.map f:=by simp[mapTo]
theorem Mj_ {α:Type} (f:α→α) (j:Nat) (l:List α) :(mapTo f j l).length=l.length:=by simp[mapTo];omega
theorem N9_ {α:Type} {f:α→α} {j:Nat} {l:List α} (hj:j<l.length) :(mapTo f j l)[j]?=some l[j]:=by
 unfold mapTo;rw[List.getElem?_append_right (by simp;omega),List.getElem?_drop]
 have:j+(j-((l.take j).map f).length)=j:=by simp;omega
 rw[this,gq_ hj]
theorem Nx_ {α:Type} {f:α→α} {j:Nat} {l:List α} (hj:j<l.length) :(mapTo f j l).set j (f l[j])=mapTo f (j+1) l:=by
 unfold mapTo;rw[List.set_append_right _ _ (by simp;omega),tg_ hj,List.map_append]
 have:j-((l.take j).map f).length=0:=by simp;omega
 rw[this,List.append_assoc]
 congr 1
 rw[List.drop_eq_getElem_cons hj];rfl
theorem mem_mapTo {α:Type} {f:α→α} {j:Nat} {l:List α} {x:α} (h:x∈mapTo f j l) :(∃y∈l,x=f y)∨x∈l:=by
 rcases ma_ h with h|h
 ·obtain⟨y,hy,rfl⟩:=List.mem_map.1 h
  exact .inl ⟨y,List.mem_of_mem_take hy,rfl⟩
 ·exact .inr (List.mem_of_mem_drop h)
def ShN (c:Cfg) (N:Nat) (S:ShM):Prop:=ShOk c S∧S.ts.length+S.queue.length≤N
theorem G6_ {c:Cfg} {N:Nat} {S:ShM} (hc:A7_ c) (win:Int) (h:ShN c N S):ShN c N (drainS c t S win):=⟨H5_ hc h.1 _,Gt_ h.2 _⟩
theorem bg_ {c:Cfg} {N:Nat} {S:ShM} (win:Int) (h:ShN c N S):ShN c N (closeS S win):=⟨Uv_ h.1 win,Ta_ h.2⟩
theorem CluOk.shs {c:Cfg} {K:CluM} {N:Nat} (h:CluOk c K N) {l:List ShM} (hl:l.length=K.sh.length) (hs:∀S∈l,ShN c N S):CluOk c { K with sh:=l } N:=
 ⟨h.str,h.acc,h.led,h.items,by have:=h.len;rw[←hl] at this;exact this,hs,h.its⟩
def drK (c:Cfg) (t:List Int) (K:CluM) (win:Int) (j:Nat):CluM:={ K with sh:=mapTo (fun S=>drainS c t S win) j K.sh }
def clK (c:Cfg) (t:List Int) (K:CluM) (win:Int) (j:Nat):CluM:={ K with sh:=mapTo (fun S=>closeS S win) j (K.sh.map fun S=>drainS c t S win) }
theorem Y3_ (c:Cfg) (t:List Int) (K:CluM) (win:Int):drK c t K win 0=K:=by unfold drK;rw[Gx_]
theorem Z4_ (c:Cfg) (t:List Int) (K:CluM) (win:Int):drK c t K win K.sh.length=clK c t K win 0:=by unfold drK clK;rw[Gx_,Jx_]
theorem Qo_ (c:Cfg) (t:List Int) (K:CluM) (win:Int):{ clK c t K win K.sh.length with led:=ldDel K.led win }=closeK c t K win:=by
 have:mapTo (fun S=>closeS S win) K.sh.length (K.sh.map fun S=>drainS c t S win)=K.sh.map fun S=>closeS (drainS c t S win) win:=by
  rw[show K.sh.length =(K.sh.map fun S=>drainS c t S win).length by simp,Jx_,List.map_map];rfl
 unfold clK closeK;rw[this]
theorem go_ {c:Cfg} {K:CluM} {N:Nat} (hc:A7_ c) (h:CluOk c K N) (win:Int) (j:Nat):CluOk c (drK c t K win j) N:=
 h.shs (Mj_ _ _ _) fun S hS=>by
  rcases mem_mapTo hS with⟨y,hy,rfl⟩|hS
  ·exact G6_ hc win (h.sh y hy)
  ·exact h.sh S hS
theorem U2_ {c:Cfg} {K:CluM} {N:Nat} (hc:A7_ c) (h:CluOk c K N) (win:Int) (j:Nat):CluOk c (clK c t K win j) N:=
 h.shs ((Mj_ _ _ _).trans (by simp)) fun S hS=>by
  rcases mem_mapTo hS with⟨y,hy,rfl⟩|hS
  ·obtain⟨z,hz,rfl⟩:=List.mem_map.1 hy
   exact bg_ win (G6_ hc win (h.sh z hz))
  ·obtain⟨z,hz,rfl⟩:=List.mem_map.1 hS
   exact G6_ hc win (h.sh z hz)
theorem Nm_ {c:Cfg} {K:CluM} {N:Nat} (hc:A7_ c) (h:CluOk c K N) (win:Int):CluOk c (closeK c t K win) N:=by
 rw[←Qo_]
 have:=U2_ (t:=t) hc h win K.sh.length
 exact⟨this.str,this.acc,lt_ M6_ h.led,this.items,this.len,this.sh,this.its⟩
def plainS (s:Summ):Int×List Ent×Int×List (List Int):=(s.total,s.es,s.untr,s.rows)
structure SumN (s:Summ):Prop where
 wf:SumW s
 rows:RowsOk s.rows
 len:s.rows.length≤1000
 small:SumSmall s
 few:s.es.length≤96
theorem T2_ {c:Cfg} {X:Ao_} (h:TierOk c X):∀e∈X.entries,(0<e.key.size∧e.key.size≤255)∧1≤e.own∧0≤e.slack∧e.cnt≤X.sum:=by
 intro e he;have hs:=h.sums
 rcases ma_ (h.entries.1.mem_iff.1 he) with he|he
 ·obtain⟨x,hx,rfl⟩:=List.mem_map.1 he
  have h2:=h.tab.cnt x hx;exact⟨by rw[Cn_];exact h.tab.ents.key x hx,by rw[Cp_];exact h.tab.ents.own x hx,(Cx_ h.tab hx).1,by omega⟩
 ·exact⟨h.ents.key e he,h.ents.own e he,h.ents.slack e he,h.cnt e he⟩
theorem d9_ {c:Cfg} {o:Option Ao_} (hn:Bl_ c) (ho:∀X,o=some X→TierOk c X) {s:Summ} (e:plainS s=sumOf o):SumN s:=by
 obtain⟨tot,ve,un,vr,es,vs,rows⟩:=s
 cases o with
 | none=>
  have e' :(tot,es,un,rows) =((0:Int),([]:List Ent),(0:Int),([]:List (List Int))):=e;cases e';exact⟨⟨D3_,D3_,by simp,by simp⟩,by simp[RowsOk],by simp,⟨by simp,by simp,by simp⟩,by simp⟩
 | some X=>
  have e' :(tot,es,un,rows) =(X.sum,X.entries,X.T.base,X.rows):=e;cases e';have h:=ho X rfl;have hs:=h.sums;have hb:=h.tab.base;have hm:mostW=9223372036854775808:=rfl;have he:=T2_ h;have hw:=h.rows.width;have hd:=h.rows.depth;have hnd:=hn.depth;have hnw:=hn.width;have hnum:=h.rows.num
  have hW:∀row∈X.rows,∀x∈row,W64 x:=fun row hr x hx=>by have:=hnum row hr x hx;exact⟨this.1,by omega⟩
  refine⟨⟨⟨by dsimp only;omega,by dsimp only;omega⟩,⟨hb.1,by dsimp only;omega⟩,fun e hx=>?_,hW⟩,fun row hr=>⟨?_,hW row hr⟩,?_,⟨fun e hx=>?_,?_,fun row hr=>?_⟩,?_⟩
  ·obtain⟨_,a,b,d⟩:=he e hx
   unfold Ent.cnt at d;exact⟨⟨by omega,by omega⟩,⟨by omega,by omega⟩⟩
  ·have:=hw row hr;omega
  ·dsimp only;omega
  ·have:=(he e hx).1;omega
  ·dsimp only;omega
  ·have:=hw row hr;omega
  ·have h1:=h.entries.1.length_eq
   simp only[la_,List.length_map] at h1
   have:=h.tab.len;have:=h.tab.m;have:=h.len;have:=hn.exact
   dsimp only;omega
theorem Vu_ {c:Cfg} {S:ShM} (h:ShOk c S) {win:Int} {X:Ao_} (e:tierAt S.ts win=some X):TierOk c X:=by
 unfold tierAt at e
 split at e
 ·cases hL:S.ts[‹Nat›]? with
  | none=>rw[hL] at e;simp at e
  | some p=>
   rw[hL] at e
   have:p.2=X:=by simpa using e
   rw[←this];exact(h.tiers p (mo_ hL)).2
 ·cases e
def sumsK (c:Cfg) (t:List Int) (K:CluM) (win:Int):List (Int×List Ent×Int×List (List Int)):=K.sh.map fun S=>sumOf (tierAt (drainS c t S win).ts win)
theorem Z8_ {c:Cfg} {K:CluM} {N:Nat} {win:Int} (hn:Bl_ c) (h:CluOk c K N) {l:List Summ} (e:l.map plainS=sumsK c t K win):∀s∈l,SumN s:=by
 intro s hs
 have h1:plainS s∈sumsK c t K win:=by rw[←e];exact List.mem_map_of_mem hs
 obtain⟨S,hS,h2⟩:=List.mem_map.1 h1;exact d9_ hn (fun X hX=>Vu_ (G6_ hn.cfg win (h.sh S hS)).1 hX) h2.symm
theorem G8_:∀{l:List Summ},(∀s∈l,SumN s)→(keysL l).length≤96*l.length
 | [],_=>by simp[keysL]
 | s::l,h=>by
  have h1:=G8_ (l:=l) fun x hx=>h x (by simp[hx])
  have h2:=(h s (by simp)).few;unfold keysL at *;simp only[List.flatMap_cons,la_,List.length_map,lc_]
  omega
def RepOf (c:Cfg) (t:List Int) (K:CluM) (win:Int) (r:Rep):Prop:=
 ∃l:List Summ,(∀s∈l,SumN s)∧I64 win∧(∀n∈K.rej,W64 n)∧l.map plainS=sumsK c t K win∧r.win=win∧r.tot=totalF l∧r.lines=bLs c t l∧r.over=bOver c t l∧r.trk =((keysF l).length:Int)∧r.rest=bRest c t l∧r.rej=K.rej
def repBl (r:Rep):Fp:=fun i=>(0<r.lines.length∧ownF r.vl i)∨(0<r.rej.length∧ownF r.vr i)
theorem Ps_ {α:Type} {f:α→List Value} {s:Nat} {v:Value} {l:List α} (h:RdL f s w v l) (h0:0<l.length):Low w (ownF v):=by
 intro i hi
 rcases h.2.2 with⟨h1,_⟩ |⟨g,off,cap,e,hg,_⟩
 ·omega
 ·rw[e] at hi;cases hi;exact hg
theorem repK : Mi_ RepRd repBl :=
  ⟨fun h k ho => ⟨h.lines.keptS k fun h0 a n c e hs => ho a.block (.inl ⟨h0, by rw [e]; rfl⟩) hs, h.rej.keptS k fun h0 a n c e hs => ho a.block (.inr ⟨h0, by rw [e]; rfl⟩) hs, h.lcap, h.rcap⟩,
   fun h i hi => hi.elim (fun ⟨h0, e⟩ => Ps_ h.lines h0 i e) fun ⟨h0, e⟩ => Ps_ h.rej h0 i e⟩
theorem I2_ (r:Rep) :(repF r).length=7:=rfl
theorem Oz_:Elt 32 26 (.agg #[.int .i64 0,.int .u64 0,.slice none 0 0,.int .u64 0,.int .i64 0,.int .u64 0,.slice none 0 0]) 7 88:=⟨underlying32,by kernel_rfl,rfl,by decide⟩
theorem Yu_:Elt 123 129 (.agg #[.int .u64 0,.slice none 0 0,.int .u64 0,.slice none 0 0]) 4 64:=⟨underlying123,by kernel_rfl,rfl,by decide⟩
abbrev Lf_ (lo:Nat) (w:World) (v:Value) (l:List Rep):Prop:=By_ repF 7 26 RepRd repBl lo w v l
def La_ (v:Value) (l:List Rep):Fp:=fun i=>ownF v i∨∃r∈l,repBl r i
theorem Lf_.low {lo:Nat} {v:Value} {l:List Rep} (h:Lf_ lo w v l):Low w (La_ v l):=fun i hi=>hi.elim (h.own.low i) fun⟨x,hx,hi⟩=>repK.low (h.all x hx).1 i hi
theorem Lf_.offS {lo:Nat} {v:Value} {l:List Rep} {S:Fp} (h:Lf_ lo w v l) (k:GrownS S w w') (ho:Off (La_ v l) S):Lf_ lo w' v l:=
 ⟨h.own.offS k (ho.left fun i hi=>.inl hi),fun x hx=>⟨repK.keep (h.all x hx).1 k fun i hi=>ho i (.inr ⟨x,hx,hi⟩),(h.all x hx).2⟩⟩
def bv_ (w:World) (s:Summ):Prop:=∃vs':List SlR,s.vs=vs'.map SlR.v∧OSum 0 w s.ve s.vr vs' s.es s.rows
def gf_ (s:Summ):Fp:=fun i=>ownF s.ve i∨ownF s.vr i∨∃v∈s.vs,ownF v i
theorem sumK:Mi_ bv_ gf_:=by
 refine⟨fun {w w' S s} ⟨vs',e,h⟩ k ho=>⟨vs',e,⟨h.es.offS k fun i hi=>ho i (.inl hi),h.rows.keptS k fun i hi=>ho i ?_,h.base⟩⟩,fun {w s} ⟨vs',e,h⟩ i hi=>?_⟩
 ·rcases hi with hi |⟨u,hu,hi⟩
  ·exact .inr (.inl hi)
  ·exact .inr (.inr ⟨u.v,by rw[e];exact List.mem_map_of_mem hu,hi⟩)
 ·rcases hi with hi|hi |⟨v,hv,hi⟩
  ·exact h.es.low i hi
  ·exact h.rows.low i (.inl hi)
  ·rw[e] at hv
   obtain⟨u,hu,rfl⟩:=List.mem_map.1 hv;exact h.rows.low i (.inr ⟨u,hu,hi⟩)
theorem bv_.rd {s:Summ} (h:bv_ w s):SumRd w s:=by
 obtain⟨vs',e,h⟩:=h;have h2:=h.rows.rd;rw[←e] at h2;exact⟨h.es.rd,h2.rd,h2.len,h2.all⟩
abbrev fz_ (lo:Nat) (w:World) (v:Value) (l:List Summ):Prop:=By_ sumF 4 129 bv_ gf_ lo w v l
theorem fz_.rd {lo:Nat} {v:Value} {l:List Summ} (h:fz_ lo w v l) (hs:∀s∈l,SumN s):C4_ w v l:=
 ⟨h.own.rd,fun s hs'=>(h.all s hs').1.rd,fun s hs'=>(hs s hs').wf⟩
end
section
open Go.RowKit Go.Sort
theorem g2_ {α:Type} {f:α→List Value} {st e:TypeId} {z:Value} {size bytes:Nat} {w:World} {B:Nat} {v:Value} {l l2:List α} {A:Option Addr} {m c:Nat} {rest:List Oper}
  (E:Elt st e z size bytes) (h1:∀u∈cellsOf f l2,u.oneCell'=true) (hown:Own f size e B w v l) (hr:RdL f size w (.slice A m c) l2) (hm:m=l2.length) (hb :(l.length+l2.length)*bytes≤140737488355328) (h63:l.length+l2.length≤9223372036854775807) (hbase:B≤w.heap.size)
  (hgd:o.guard=none) (s x:Operand) (ho:o.op=.call { callee:=.builtin .append,args:=#[s,x],argTypes:=#[st,st] }) (hs:a.eval s=v) (hx:a.eval x=.slice A m c)
  (h:∀v' w',Own f size e B w' v' (l++l2)→w.grownBy w' v.ownBlock→Lies v v' w.heap.size→wpList prog ops Q rest (a.put o.dst v') w'):wpList prog ops Q (o::rest) a w:=by
 refine wpList_plain hgd fun _ hK=>?_
 subst hm;obtain⟨v',w',hrun,h2,h3,h4⟩:=Gu_ (ty:=o.type) E hown hr h1 (by unfold maxLen;exact h63) hb hbase;unfold Oper.wp execOp;simp only[ho,resolve,invoke,builtin,Sem.run_bind,Sem.run_pure,Result.andThen_ok,List.map_toArray,List.map_cons,List.map_nil,hs,hx,hrun];exact hK _ _ (h v' w' (by unfold Own;rw[Ar_,la_];exact h2) h3 h4)
section
variable {w w':World} {G:RcG} {c:Cfg} {t:List Int} {K:CluM} {N:Nat}
theorem ba_ (h:RClu w G c t K) (hC:CfgW w c t G.F) (hOk:CluOk c K N) (hN:N≤1000000000) {i:Nat} {s:RshG} {S:ShM} (hi:G.sh[i]?=some s) (hS:K.sh[i]?=some S) (win:Int) :
  Calls prog 55 #[.pointer (some ⟨s.g,0,none⟩),.int .i64 win] w (fun e w'=>(∃x y,e=.returned (.tuple #[.int .i64 x,.int .i64 y]))∧∃s',RClu w' { G with sh:=G.sh.set i s' } c t { K with sh:=K.sh.set i (drainS c t S win) }∧Mov G.F (RcG.F { G with sh:=G.sh.set i s' }) w w'∧s'.g=s.g):=by
 obtain⟨o1,o2⟩:=hOk.sh S (mo_ hS)
 exact(Zq_ s c t S win w (h.core.shd i s S hi hS) o1 hC.nums.tier hC.table (hC.off.right (RcG.F_part (RcG.part_sh hi))) hC.low hC.tlen (by omega)).mono fun e w' ⟨h1,s',R,M,hg⟩=>by
  obtain⟨a,b⟩:=h.setS hi R M hg;exact⟨⟨_,_,h1⟩,s',a,b,hg⟩
theorem Sf_ (h:RClu w G c t K) (hOk:CluOk c K N) (hN:N≤1000000000) {i:Nat} {s:RshG} {S:ShM} (hi:G.sh[i]?=some s) (hS:K.sh[i]?=some S) (win:Int) :
  Calls prog 59 #[.pointer (some ⟨s.g,0,none⟩),.int .i64 win] w (fun e w'=>(∃x,e=.returned (.bool x))∧∃s',RClu w' { G with sh:=G.sh.set i s' } c t { K with sh:=K.sh.set i (closeS S win) }∧Mov G.F (RcG.F { G with sh:=G.sh.set i s' }) w w'∧s'.g=s.g):=by
 obtain⟨o1,o2⟩:=hOk.sh S (mo_ hS)
 exact(Z2_ s c t S win w (h.core.shd i s S hi hS) (by omega)).mono fun e w' ⟨h1,s',R,M,hg⟩=>by
  obtain⟨a,b⟩:=h.setS hi R M hg;exact⟨⟨_,h1⟩,s',a,b,hg⟩
theorem g5_ (h:RClu w G c t K) (hn:Bl_ c) (hOk:CluOk c K N) {i:Nat} {s:RshG} {S:ShM} (hi:G.sh[i]?=some s) (hS:K.sh[i]?=some S) (win:Int) :
  Calls prog 56 #[.pointer (some ⟨s.g,0,none⟩),.int .i64 win] w (Uy_ (tierAt S.ts win) w):=
 a2_ s c t S win w (h.core.shd i s S hi hS) (hOk.sh S (mo_ hS)).1 hn
theorem dy_ (h:RClu w G c t K) (hOk:CluOk c K N) (hN:N≤1000000000):Calls prog 53 #[.pointer (some ⟨G.bl,0,none⟩)] w (RetOwn intF 1 3 (K.led.map (·.1)) w):=
 K7_ G.LF G.bl K.led K.acc K.rej w h.core.led (by have:=hOk.led;omega)
theorem ex_ (h:RClu w G c t K):Calls prog 58 #[.pointer (some ⟨G.bl,0,none⟩)] w (RetOwn wordF 1 22 K.rej w):=
 L6_ G.LF G.bl K.led K.acc K.rej w h.core.led
end
structure TkF (w:World) (U:Fp) (lo:Nat) (vw:Value) (ws:List Int) (vo:Value) (rs:List Rep):Prop where
 win:Own intF 1 3 lo w vw ws
 o1:Off (ownF vw) U
 out:Lf_ lo w vo rs
 o2:Off (La_ vo rs) U
 o3:Off (ownF vw) (La_ vo rs)
theorem TkF.mov {w w':World} {U U':Fp} {lo:Nat} {vw:Value} {ws:List Int} {vo:Value} {rs:List Rep} (h:TkF w U lo vw ws vo rs) (m:Mov U U' w w'):TkF w' U' lo vw ws vo rs:=
 ⟨h.win.offS m.grown h.o1,m.off h.win.low h.o1,h.out.offS m.grown h.o2,m.off h.out.low h.o2,h.o3⟩
structure TkS (w0:World) (G0:RcG) (c:Cfg) (t:List Int) (w:World) (G:RcG) (K:CluM) (vw:Value) (ws:List Int) (vo:Value) (rs:List Rep):Prop where
 clu:RClu w G c t K
 cfg:CfgW w c t G.F
 mov:Mov G0.F G.F w0 w
 fr:TkF w G.F w0.heap.size vw ws vo rs
 tl:∀i,ownF c.Table i→i<w0.heap.size
 g:G.g=G0.g
 bl:G.bl=G0.bl
 vs:G.vs=G0.vs
 gs:G.sh.map (·.g)=G0.sh.map (·.g)
section
variable {w0 w w':World} {G0 G G':RcG} {c:Cfg} {t:List Int} {K K':CluM} {vw vo vo':Value} {ws:List Int} {rs rs':List Rep}
theorem TkS.same (h:TkS w0 G0 c t w G K vw ws vo rs) (g:w.grownBy w' none):TkS w0 G0 c t w' G K vw ws vo rs:=⟨h.clu.same g,h.cfg.same g,h.mov.trans (Mov.same g),h.fr.mov (Mov.same g),h.tl,h.g,h.bl,h.vs,h.gs⟩
theorem TkS.step (h:TkS w0 G0 c t w G K vw ws vo rs) (hc:RClu w' G' c t K') (m:Mov G.F G'.F w w') (hg:G'.g=G.g) (hb:G'.bl=G.bl) (hv:G'.vs=G.vs) (hs:G'.sh.map (·.g)=G.sh.map (·.g)):TkS w0 G0 c t w' G' K' vw ws vo rs:=
 ⟨hc,h.cfg.mov m,h.mov.trans m,h.fr.mov m,h.tl,hg.trans h.g,hb.trans h.bl,hv.trans h.vs,hs.trans h.gs⟩
theorem TkS.wins {v0:Value} {ws0:List Int} (h:TkS w0 G0 c t w G K v0 ws0 vo rs) (g:w.grownBy w' none) (o:Own intF 1 3 w.heap.size w' vw ws):TkS w0 G0 c t w' G K vw ws vo rs:=by
 have h2:=h.same g
 have hlo:=fun i hi=>(o.lt i hi).1
 exact⟨h2.clu,h2.cfg,h2.mov,⟨o.base fun k hk=>lt_ h.mov.size (hlo k hk),fun i hi hf=>by have:=hlo i hi;have:=h.clu.low i hf;omega,h2.fr.out,h2.fr.o2,fun i hi hf=>by have:=hlo i hi;have:=h.fr.out.low i hf;omega⟩,h2.tl,h2.g,h2.bl,h2.vs,h2.gs⟩
theorem TkS.app {wd:World} (hd:TkS w0 G0 c t wd G K vw ws vo rs) (gz:wd.grownBy w none) {r:Rep} (hr:RepRd w r) (hb:∀i,repBl r i→wd.heap.size≤i)
  (ho:Own repF 7 26 w0.heap.size w' vo' (rs++[r])) (hg:w.grownBy w' vo.ownBlock) (hL:Lies vo vo' w.heap.size):TkS w0 G0 c t w' G K vw ws vo' (rs++[r]):=by
 have h:=hd.same gz
 have gS:GrownS (ownF vo) w w':=GrownS.of hg fun k hk=>hk
 have hnew:∀i,ownF vo' i→ownF vo i∨w.heap.size≤i:=fun i hi=>by
  rcases hL with e |⟨m,e1,e2⟩
  ·left;unfold ownF at hi ⊢;rw[←e];exact hi
  ·right;unfold ownF at hi;rw[e1] at hi;cases hi;exact e2
 have hlo:∀i,ownF vo i→w0.heap.size≤i:=fun i hi=>(h.fr.out.own.lt i hi).1
 have hcl:=hd.clu.low;have hcl2:=h.clu.low
 have hT:Off (ownF c.Table) (ownF vo):=fun i hi hf=>by have:=h.tl i hi;have:=hlo i hf;omega
 have hof:Off G.F (ownF vo):=h.fr.o2.symm.right fun i hi=>.inl hi
 have hwl:=hd.fr.win.low;have hwl2:=h.fr.win.low;have hz:w0.heap.size≤wd.heap.size:=hd.mov.size;have hz2:=gz.size;refine⟨h.clu.keptS gS hof,⟨h.cfg.nums,Br_ h.cfg.table gS hT,h.cfg.tlen,h.cfg.low.up gS.size,h.cfg.off⟩,⟨h.mov.grown.trans gS fun i hi hlt=>by have:=hlo i hi;omega,h.mov.new⟩,⟨h.fr.win.offS gS (h.fr.o3.right fun i hi=>.inl hi),h.fr.o1,h.fr.out.snocN repK (N:=wd.heap.size) hr hz hb (fun k hk=>hd.fr.out.own.low k hk) ho hg hL,?_,?_⟩,h.tl,h.g,h.bl,h.vs,h.gs⟩
 ·intro i hi hf
  rcases hi with hi |⟨x,hx,hi⟩
  ·rcases hnew i hi with e|e
   ·exact h.fr.o2 i (.inl e) hf
   ·have:=hcl2 i hf;omega
  ·rcases ma_ hx with hx|hx
   ·exact h.fr.o2 i (.inr ⟨x,hx,hi⟩) hf
   ·rw[ms_ hx] at hi
    have:=hb i hi;have:=hcl i hf;omega
 ·intro i hf hi
  rcases hi with hi |⟨x,hx,hi⟩
  ·rcases hnew i hi with e|e
   ·exact h.fr.o3 i hf (.inl e)
   ·have:=hwl2 i hf;omega
  ·rcases ma_ hx with hx|hx
   ·exact h.fr.o3 i hf (.inr ⟨x,hx,hi⟩)
   ·rw[ms_ hx] at hi
    have:=hb i hi;have:=hwl i hf;omega
end
def repsK (c:Cfg) (t:List Int) (K:CluM) (ws:List Int) (rs:List Rep):Prop:=rs.length=ws.length∧∀(i:Nat) r win,rs[i]?=some r→ws[i]?=some win→RepOf c t ((ws.take i).foldl (closeK c t) K) win r
theorem Xe_ (c:Cfg) (t:List Int) (K:CluM):repsK c t K [] []:=⟨rfl,by simp⟩
theorem Sl_ {c:Cfg} {t:List Int} {K:CluM} {ws:List Int} {rs:List Rep} {win:Int} {r:Rep} (h:repsK c t K ws rs) (hr:RepOf c t (ws.foldl (closeK c t) K) win r):repsK c t K (ws++[win]) (rs++[r]):=by
 refine⟨by simp[h.1],fun i x y hx hy=>?_⟩
 by_cases hi:i<ws.length
 ·rw[List.getElem?_append_left (by rw[h.1];exact hi)] at hx
  rw[List.getElem?_append_left hi] at hy;rw[List.take_append_of_le_length (by omega)];exact h.2 i x y hx hy
 ·have h1:=(gs_ hx).1
  have h2:=h.1;simp only[la_,ls_] at h1
  have hi2:i=ws.length:=by omega
  subst hi2;rw[List.getElem?_append_right (by omega),h.1] at hx;rw[List.getElem?_append_right (by omega)] at hy;simp only[Nat.sub_self,List.getElem?_cons_zero,Option.some.injEq] at hx hy;subst hx hy;rw[List.take_left' rfl];exact hr
theorem Uh_ {lo:Nat} {a:Option Addr} {n c:Nat} (h:From lo (.slice a n c)):∀i,ownF (.slice a n c) i→lo≤i:=by
 intro i hi
 cases a with
 | none=>cases hi
 | some ad=>cases hi;exact h _ _ _ rfl
theorem Zc_ {c:Cfg} {t:List Int} {lv:Value} {l:List Summ} {w:World} (hn:CfgNums c) (hr:RCfg w c t) (hs:C4_ w lv l) (h:∀s∈l,SumN s) (hl:l.length≤8):FewB c t lv l w:=
 ⟨hr,hs,⟨fun s hs=>(h s hs).wf,fun s hs=>(h s hs).rows,fun s hs=>(h s hs).len⟩,fun s hs=>(h s hs).small,by have:=G8_ h;omega,hn.top⟩
theorem hw_ (c:Cfg) (t:List Int) (K:CluM) (win:Int) {j:Nat} (hj:j<K.sh.length) :(clK c t K win 0).sh[j]?=some (drainS c t K.sh[j] win):=by
 unfold clK;dsimp only;rw[Gx_,List.getElem?_map,gq_ hj];rfl
theorem d2_ (c:Cfg) (t:List Int) (K:CluM) (win:Int) {j:Nat} (hj:j<K.sh.length) :(clK c t K win j).sh[j]?=some (drainS c t K.sh[j] win):=by
 have hj2:j<(K.sh.map fun S=>drainS c t S win).length:=by simpa using hj
 unfold clK;dsimp only;rw[N9_ hj2,List.getElem_map]
theorem Yh_ (c:Cfg) (t:List Int) (K:CluM) (win:Int) {j:Nat} (hj:j<K.sh.length) :({ clK c t K win j with sh:=(clK c t K win j).sh.set j (closeS (drainS c t K.sh[j] win) win) }:CluM)=clK c t K win (j+1):=by
 have hj2:j<(K.sh.map fun S=>drainS c t S win).length:=by simpa using hj
 have h:=Nx_ (f:=fun S=>closeS S win) hj2;rw[List.getElem_map] at h;unfold clK;dsimp only;rw[h]
theorem Sm_ (c:Cfg) (t:List Int) (K:CluM) (win:Int) {j:Nat} (hj:j<K.sh.length) :(sumsK c t K win).take (j+1) =(sumsK c t K win).take j++[sumOf (tierAt (drainS c t K.sh[j] win).ts win)]:=by
 have h :(sumsK c t K win)[j]?=some (sumOf (tierAt (drainS c t K.sh[j] win).ts win)):=by unfold sumsK;rw[List.getElem?_map,gq_ hj];rfl
 rw[List.take_add_one,h];rfl
theorem RClu.shAt {w:World} {G:RcG} {c:Cfg} {t:List Int} {K:CluM} (h:RClu w G c t K) {ga n ca:Nat} (hv:G.vs=.slice (some ⟨ga,0,none⟩) n ca) {j:Nat} {s:RshG} (hs:G.sh[j]?=some s):w.cell? ⟨ga,j,none⟩=some (.pointer (some ⟨s.g,0,none⟩)):=by
 have hj:=(gs_ hs).1;obtain⟨ga',ca',hva,_,hga,_,hca,_⟩:=h.core.sp.at_ Ct_ (i:=j) (by simpa using hj);have hc0:=hca 0 _ rfl;rw[Nat.mul_one,Nat.add_zero,List.getElem_map] at hc0;rw[hv] at hva;cases hva
 have:G.sh[j]=s:=(gs_ hs).2
 rw[this] at hc0;exact hc0
theorem RClu.vsAt {w:World} {G:RcG} {c:Cfg} {t:List Int} {K:CluM} (h:RClu w G c t K) (h0:0<G.sh.length):∃ga ca,G.vs=.slice (some ⟨ga,0,none⟩) G.sh.length ca∧ga<w.heap.size:=by
 obtain⟨ga',ca',hva,_,hga,_,hca,_⟩:=h.core.sp.at_ Ct_ (i:=0) (by simpa using h0);exact⟨ga',ca',by rw[hva];simp,hga⟩
theorem Id_ (c:Cfg) (t:List Int):∀(ws:List Int) (K:CluM),(ws.foldl (closeK c t) K).mark=K.mark
 | [],K=>rfl
 | w::ws,K=>by rw[List.foldl_cons,Id_ c t ws];rfl
theorem J4_ (c:Cfg) (t:List Int):∀(ws:List Int) (K:CluM),(ws.foldl (closeK c t) K).sh.length=K.sh.length
 | [],K=>rfl
 | w::ws,K=>by rw[List.foldl_cons,J4_ c t ws];simp[closeK]
theorem W8_ {c:Cfg} {m:Int} {ws:List Int} {k:Nat} (hk:k<ws.length) (h:∀i (hi:i<k),ws[i]<lowV c m) (he:¬ws[k]<lowV c m):low1 c m ws=ws.take k:=by
 have h1:∀(ws:List Int) (k:Nat) (hk:k<ws.length),(∀i (hi:i<k),ws[i]<lowV c m)→¬ws[k]<lowV c m→ws.takeWhile (fun w=>decide (w<lowV c m))=ws.take k:=by
  intro ws
  induction ws with
  | nil=>intro k hk;simp at hk
  | cons x ws ih=>
   intro k hk h he
   cases k with
   | zero=>simp only[List.getElem_cons_zero] at he;simp[he]
   | succ k=>
    have hx:=h 0 (by omega);simp only[List.getElem_cons_zero] at hx;simp only[List.take_succ_cons,List.takeWhile_cons,dt_ hx,if_true];rw[ih k (by simpa using hk) (fun i hi=>by have:=h (i+1) (by omega);simpa using this) (by simpa using he)]
 exact h1 ws k hk h he
theorem Ym_ {c:Cfg} {m:Int} {ws:List Int} (h:∀i (hi:i<ws.length),ws[i]<lowV c m):low1 c m ws=ws:=by
 have h1:∀ws:List Int,(∀x∈ws,x<lowV c m)→ws.takeWhile (fun w=>decide (w<lowV c m))=ws:=by
  intro ws
  induction ws with
  | nil=>intro _;rfl
  | cons x ws ih=>intro hx;rw[List.takeWhile_cons,dt_ (hx x (by simp)),if_pos rfl,ih fun y hy=>hx y (by simp[hy])]
 refine h1 ws fun x hx=>?_
 obtain⟨i,hi,rfl⟩:=List.getElem_of_mem hx;exact h i hi
end
section
open Go.RowKit Go.Sort
def TickP (G:RcG) (c:Cfg) (t:List Int) (K:CluM) (time:Int) (w:World) (e:Ending) (w':World):Prop:=
 ∃G' vw ws vo rs,e=.returned (.tuple #[vo,.int .i64 0])∧TkS w G c t w' G' (tickK c t K time) vw ws vo rs∧repsK c t { K with mark:=max K.mark time } (low1 c (max K.mark time) (K.led.map (·.1))) rs
def badT (n:Int):Prop:=n<0∨1099511627776<n
theorem Rb_ (G:RcG) (c:Cfg) (t:List Int) (K:CluM) (N:Nat) (time:Int) (w:World) (h:RClu w G c t K) (hC:CfgW w c t G.F) (hOk:CluOk c K N) (hN:N<1000000000) (hT:¬badT time) :
  Calls prog 22 #[.pointer (some ⟨G.g,0,none⟩),.int .i64 time] w (TickP G c t K time w):=by
 have d1:decide (time<0)=false:=df_ fun h=>hT (.inl h)
 have d2:decide (1099511627776<time)=false:=df_ fun h=>hT (.inr h)
 have b0:=h.blk.cell;have f0:=h.blk.free;obtain⟨RM,MM⟩:=h.setM (Ab_ w none) (max K.mark time);have HRM:=hh_ RM;have HMM:=hh_ MM;have HC:=hh_ hC;have HOk:=hh_ (show CluOk c { K with mark:=max K.mark time } N from⟨hOk.str,hOk.acc,hOk.led,hOk.items,hOk.len,hOk.sh,hOk.its⟩);have hsl:G.sh.length=K.sh.length:=h.core.len;have hkl:=hOk.len;have HTk:=hh_ (show tickK c t K time =(low1 c (max K.mark time) (K.led.map (·.1))).foldl (closeK c t) { K with mark:=max K.mark time } from rfl);clear RM MM h hC hOk hT
 go_enter func22,ntmps22
 go_upto_region 4 with fail
 generalize w.setCell ⟨G.g,17,none⟩ (.int .i64 (max K.mark time))=w1 at *;obtain⟨m,hm⟩:∃m,max K.mark time=m:=⟨_,rfl⟩;rw[hm] at HRM HOk HTk;have hmm:=hh_ hm;obtain⟨K1,hK1⟩:∃K1:CluM,{ K with mark:=m }=K1:=⟨_,rfl⟩
 have hm1:K1.mark=m:=by rw[←hK1]
 have hl1:K1.led=K.led:=by rw[←hK1]
 have hs1:K1.sh.length=K.sh.length:=by rw[←hK1]
 rw[hK1] at HRM HOk HTk;have HP:=hh_ (show ∀G' vw ws vo rs z,TkS w G c t z G' ((low1 c m (K1.led.map (·.1))).foldl (closeK c t) K1) vw ws vo rs→repsK c t K1 (low1 c m (K1.led.map (·.1))) rs→TickP G c t K time w (.returned (.tuple #[vo,.int .i64 0])) z from fun G' vw ws vo rs z h1 h2=>⟨G',vw,ws,vo,rs,rfl,by rw[HTk.out,←hl1];exact h1,by rw[hmm.out,hK1,←hl1];exact h2⟩);have D1:TkS w G c t w1 G K1 (.slice none 0 0) [] (.slice none 0 0) []:=⟨HRM.out,HC.out.mov HMM.out,HMM.out,⟨Own.nil _ _ _ _ _,fun i hi=>absurd hi (Ax_ i),By_.nil _ _,fun i hi=>by rcases hi with hi |⟨_,hx,_⟩;exact absurd hi (Ax_ i);simp at hx,fun i hi=>absurd hi (Ax_ i)⟩,HC.out.low,rfl,rfl,rfl,rfl⟩;have HKy:=hh_ HRM.out.core.led.keys;have HRj:=hh_ (And.intro HRM.out.core.led.len HRM.out.core.led.rw);have CW:=hh_ (dy_ HRM.out HOk.out (by omega))
 have hwl :(K1.led.map (·.1)).length≤N:=by have:=HOk.out.led;simpa using this
 obtain⟨ws,hws⟩:∃ws,K1.led.map (·.1)=ws:=⟨_,rfl⟩;rw[hws] at CW HP hwl;have HKy:=hh_ (show ∀x∈ws,I64 x from fun x hx=>by rw[←hws] at hx;obtain⟨p,hp,rfl⟩:=List.mem_map.1 hx;exact HKy.out p hp);have b1:=HRM.out.blk.cell
 have hgl:0<G.sh.length:=by have:=HC.out.nums.shards;omega
 have hs1g:G.sh.length=K1.sh.length:=by omega
 obtain⟨ga,ca,hvs,hga⟩:=HRM.out.vsAt hgl;have Hvs:=hh_ hvs;have HD1:=hh_ D1;obtain⟨n,hnG⟩:∃n,G.sh.length=n:=⟨_,rfl⟩;have HnG:=hh_ hnG;have Hn1:=hh_ (show n=K1.sh.length by omega)
 have hn8:n≤8:=by have:=HC.out.nums.shards;omega
 rw[hnG] at Hvs;clear hsl hkl hs1 hs1g hgl hnG;clear HRM HMM b0 f0 D1 hK1 HTk hm hvs d1 d2 hws hl1 hga
 go_upto_region 6 with(go_at_call 53;refine CW.out.mono ?_;rintro e w2 ⟨vw,rfl,oW,gW⟩;obtain⟨wa,wc,rfl⟩:=oW.shape)
 have HD2:=hh_ (HD1.out.wins gW oW);have Hm1:=hh_ hm1;obtain⟨L,hL⟩:∃L,lowV c m=L:=⟨_,rfl⟩;have HLow:=hh_ (show ∀z mk,mk=m→Calls prog 54 #[c.val,.int .i64 mk] z (fun e w'=>e=.returned (.int .i64 L)∧z.grownBy w' none) from fun z mk e=>by rw[e,←hL];exact b3_ c m z);have hL0:=hh_ hL;clear HD1 oW gW CW b1 hm1;clear w1 hL
 go_loopw [6,37] (fun s6 s37 wk=>∃(k:Nat) (G':RcG) (K':CluM) (rs:List Rep),k≤ws.length∧s37=.int .i64 k∧TkS w G c t wk G' K' (.slice wa ws.length wc) ws s6 rs∧(ws.take k).foldl (closeK c t) K1=K'∧CluOk c K' N∧repsK c t K1 (ws.take k) rs∧∀i x,i<k→ws[i]?=some x→x<L) (fun _ s37 _=>ws.length-(RowKit.intOf s37).toNat)
 case atStart=>exact⟨0,G,K1,[],zl_ _,rfl,HD2.out,rfl,HOk.out,Xe_ c t K1,fun i x hi=>absurd hi (Nat.not_lt_zero i)⟩
 case round=>
  clear HD2 HOk;obtain⟨k,G',K',rs,hk,rfl,hD,hE,hO,hR,hlo⟩:=hrel
  by_cases hlt:k<ws.length
  ·obtain⟨gw,cw,hv,_,hgw,_,hcw,_⟩:=hD.fr.win.at_ Bc_ hlt
   cases hv;have c0:=hcw 0 _ rfl;rw[Nat.mul_one,Nat.add_zero] at c0;have hwk:ws[k]?=some ws[k]:=gq_ hlt;have HT:=hh_ (show ws.take (k+1)=ws.take k++[ws[k]] from tg_ hlt);have hwi:=HKy.out ws[k] (mg_ hlt)
   have hklt :(k:Int)<(ws.length:Int):=by omega
   have HD:=hh_ hD;have HE:=hh_ hE;have HO:=hh_ hO;have HR:=hh_ hR;have HL0:=hh_ hlo;have Hwk:=hh_ hwk;have HBr:=hh_ (show ¬ws[k]<lowV c m→low1 c m ws=ws.take k from fun h=>W8_ hlt (fun i hi=>by rw[hL0.out];exact hlo i _ hi (gq_ (by omega))) h);rw[hL0.out] at HBr;clear hcw hD hE hO hR hlo hwk;generalize ws[k]=win at *
   go_upto_region 8 with fail
   obtain⟨b,hb⟩:∃b,decide (L≤win)=b:=⟨_,rfl⟩;have KN:World.grownBy wr wr.drew none:=gw_;have HDz:=hh_ (HD.out.same KN);have HRr:=hh_ (HDz.out.clu);have hgg:=HDz.out.g;have hmk:=hh_ (show K'.mark=m by rw[←HE.out,Id_];exact Hm1.out);clear KN HD c0
   (refine rn_ 11 (fun j _ w v w'=>match j with | 9=>v=.int .i64 L∧World.grownBy w w' none | _=>False) ?_;simp only[ts_])
   generalize wr.drew=w3 at *
   (refine tq_ 4 ?_;(repeat(go_big_quiet_step (fail)));refine wn_ ?_)
   (refine to_ ?_;intro x4 mx4 dx4)
   clear dx4;have BX:=(HRr.out.same mx4).cfgIn;rw[hgg] at BX
   go_wp2_with (refine Bt_ rfl _ rfl _ rfl c BX ?_)
   refine⟨Ab_ _ _,?_⟩;clear BX
   (refine tq_ 3 ?_;(repeat(go_big_quiet_step (fail)));refine wn_ ?_)
   (refine to_ ?_;intro x8 mx8 dx8)
   clear dx8;have bx:=(HRr.out.same mx8).blk.cell;rw[hgg] at bx
   go_wp2_with fail
   refine⟨Ab_ _ _,?_⟩;clear bx
   (refine tc_ ?_;intro x9 mx9 dx9;refine⟨?_,?_⟩;· (unfold Rg.callSpec;go_simp;(refine(HLow.out x9 _ hmk.out).mono ?_;rintro e w' ⟨rfl,g⟩;exact⟨_,rfl,rfl,g⟩)))
   clear dx9;rintro vx9 yx9 ⟨rfl,gx9⟩;refine⟨gx9,?_⟩;clear gx9;simp only[pt_]
   (refine tq_ 1 ?_;(repeat(go_big_quiet_step (fail)));refine wn_ ?_)
   (refine Rg.tree_nil ?_;intro z1 mz1 dz1 cz1)
   have HD3:=hh_ (HDz.out.same mz1);clear mx4 mx8 mx9 mz1 dz1 cz1 HRr HDz;have hbb:=hh_ hb;clear hb;cases b
   case true=>
    have hge:L≤win:=of_decide_eq_true hbb.out;have eW:=hh_ (HBr.out (by omega));clear hge hbb
    go_wp2_with fail
    go_ret2
    exact HP.out G' _ _ _ _ _ (by rw[eW.out,HE.out];exact HD3.out) (by rw[eW.out];exact HR.out)
   case false=>
    have hge:¬L≤win:=of_decide_eq_false hbb.out;clear hbb;have hwL:=hh_ (show win<L by omega);have hn:=J4_ c t (ws.take k) K1;rw[HE.out] at hn;have hn:=hh_ hn;have bx:=HD3.out.clu.blk.cell;rw[hgg,HD3.out.vs,Hvs.out] at bx;have D4:=HD3.out;rw[←Y3_ c t K' win] at D4;have HD4:=hh_ D4;have HnK:=hh_ (show n=K'.sh.length by have:=Hn1.out;have:=hn.out;omega);have HTC:=hh_ HC.out.nums.tier.cfg;have HTC':=hh_ HC.out.nums.tier;clear hge D4 hn
    go_upto_region 11 with fail
    go_loopw [57] (fun s57 wk=>∃(j:Nat) (G2:RcG),j≤n∧s57=.int .i64 j∧TkS w G c t wk G2 (drK c t K' win j) (.slice (some ⟨gw,0,none⟩) ws.length wc) ws u6 rs) (fun s57 _=>n-(RowKit.intOf s57).toNat)
    case atStart=>exact⟨0,G',zl_ _,rfl,HD4.out⟩
    case round=>
     clear HD4 bx HD3;obtain⟨j,G2,hj,rfl,hD⟩:=hrel
     by_cases hjl:j<n
     ·have hjk:j<K'.sh.length:=by have:=HnK.out;omega
      have hg2:G2.sh.length=n:=by have:=congrArg List.length hD.gs;have h2:=HnG.out;simp at this;omega
      have hs:G2.sh[j]?=some G2.sh[j]:=gq_ (by omega);have hS :(drK c t K' win j).sh[j]?=some K'.sh[j]:=N9_ hjk;have cc:=hD.clu.shAt (hD.vs.trans Hvs.out) hs;have CDr:=hh_ (ba_ hD.clu hD.cfg (go_ HTC.out HO.out win j) (by omega) hs hS win)
      have hjlt :(j:Int)<(n:Int):=by omega
      have HDj:=hh_ hD;have Hs:=hh_ hs;have eK:=hh_ (show({ drK c t K' win j with sh:=(drK c t K' win j).sh.set j (drainS c t K'.sh[j] win) }:CluM)=drK c t K' win (j+1) by unfold drK;dsimp only;rw[Nx_ (f:=fun S=>drainS c t S win) hjk]);clear hD hs hS;generalize G2.sh[j]=s2 at *
      go_wp2_with (go_at_call 55;refine CDr.out.mono ?_;rintro e w5 ⟨⟨x,y,rfl⟩,s4,RC,MC,hgs⟩)
      have DC:=HDj.out.step RC MC rfl rfl rfl (Lh_ Hs.out hgs);rw[eK.out] at DC;exact⟨⟨j+1,_,by omega,by go_num,DC⟩,by simp[RowKit.intOf];omega⟩
     ·have hjn:j=K'.sh.length:=by have:=HnK.out;omega
      rw[hjn,Z4_] at hD;have hg2:=hD.g;have bx:=hD.clu.blk.cell;rw[hg2,hD.vs,Hvs.out] at bx;have HDB:=hh_ hD;clear hD hg2 hjn
      go_upto_region 16 with fail
      generalize wr=wB at *
      go_loopw [9,70] (fun s9 s70 wk=>∃(j:Nat) (l:List Summ),j≤n∧s70=.int .i64 j∧fz_ wB.heap.size wk s9 l∧l.map plainS =(sumsK c t K' win).take j∧wB.grownBy wk none) (fun _ s70 _=>n-(RowKit.intOf s70).toNat)
      case atStart=>exact⟨0,[],zl_ _,rfl,By_.nil _ _,rfl,Ab_ _ _⟩
      case round=>
       clear bx;obtain⟨j,l,hj,rfl,hL,hlp,hgB⟩:=hrel
       have hlj:l.length=min j K'.sh.length:=by have:=congrArg List.length hlp;simpa [sumsK] using this
       by_cases hjl:j<n
       ·have hjk:j<K'.sh.length:=by have:=HnK.out;omega
        have D5:=HDB.out.same hgB
        have hg2:G2.sh.length=n:=by have:=congrArg List.length D5.gs;have h2:=HnG.out;simp at this;omega
        have hs:G2.sh[j]?=some G2.sh[j]:=gq_ (by omega);have cc:=D5.clu.shAt (D5.vs.trans Hvs.out) hs;have CSm:=g5_ D5.clu HC.out.nums.tier (U2_ HTC.out HO.out win 0) hs (hw_ c t K' win hjk) win;have HTj:=Sm_ c t K' win hjk;obtain⟨p,hp⟩:∃p,sumOf (tierAt (drainS c t K'.sh[j] win).ts win)=p:=⟨_,rfl⟩;obtain⟨tot,es,un,rows⟩:=p;unfold Uy_ at CSm;rw[hp] at CSm HTj;dsimp only at CSm;rw[←hlp] at HTj;have HTj:=hh_ HTj;have CSm:=hh_ CSm;have HL:=hh_ hL;have hgB':=hh_ hgB
        have hjlt :(j:Int)<(n:Int):=by omega
        have hlj2:l.length=j:=by omega
        have hcb1 :(l.length+1)*64≤140737488355328:=by omega
        have hcb2:l.length+1≤9223372036854775807:=by omega
        clear hs hp hL hlp hgB D5 hlj;generalize G2.sh[j]=s2 at *
        go_upto_region 18 with fail
        go_upto_region 19 with(first
         |(go_at_call 56;refine CSm.out.mono ?_;rintro e w5 ⟨ve,vr,vs',rfl,oS,g5⟩;obtain⟨ea,ec,rfl⟩:=oS.es.shape;obtain⟨ra,rc,rfl⟩:=oS.rows.own.shape;have HoS:=hh_ oS;have Hg5:=hh_ g5;have hz5:=g5.size;have HL5:=hh_ (HL.out.same sumK g5);have hzB:wB.heap.size≤w5.heap.size:=lt_ hgB'.out.size g5.size;have Hcs:=hh_ (show(#[Value.int .u64 tot,.slice ea es.length ec,.int .u64 un,.slice ra vs'.length rc]:Array Value).toList=sumF ⟨tot,.slice ea es.length ec,un,.slice ra vs'.length rc,es,vs'.map SlR.v,rows⟩ from rfl);clear oS g5)
         |(at_builtin;refine Cd_ Yu_ Qs_ HL5.out.own ⟨tot,.slice ea es.length ec,un,.slice ra vs'.length rc,es,vs'.map SlR.v,rows⟩ (by intro u hu;simp[sumF] at hu;rcases hu with rfl|rfl|rfl|rfl <;> rfl) hcb1 hcb2 hzB Hcs.out (by rfl) _ _ (by rfl) (by rfl) (by rfl) ?_;intro v7 w7 o7 g7 l7))
        have hNw:=fun k hk=>(HL.out.own.lt k hk).2
        have L7:=HL5.out.snocN sumK (N:=wr.heap.size) ⟨vs',rfl,HoS.out.base' (zl_ _)⟩ hgB'.out.size (fun i hi=>by
         rcases hi with hi|hi |⟨v,hv,hi⟩
         ·exact(HoS.out.es.lt i hi).1
         ·exact HoS.out.base i (.inl hi)
         ·obtain⟨u,hu,rfl⟩:=List.mem_map.1 hv
          exact HoS.out.base i (.inr ⟨u,hu,hi⟩)) hNw o7 g7 l7
        have G7:=Aq_ (Aa_ hgB'.out Hg5.out) HL5.out.own (le_ _) g7;obtain⟨la,lc,rfl⟩:=o7.shape;simp only[la_,ls_,hlj2] at L7;have HE7:=hh_ (And.intro L7 G7);clear L7 G7 o7 g7 l7 HL5 HoS CSm HL hNw cc Hcs;simp only[la_,ls_,hlj2];clear hlj2 hcb1 hcb2
        go_wp2_with fail
        exact⟨⟨j+1,_,by omega,by go_num,HE7.out.1,by rw[HTj.out];simp[plainS],HE7.out.2⟩,by simp[RowKit.intOf];omega⟩
       ·have hjn:j=K'.sh.length:=by have:=HnK.out;omega
        have hSN:∀s∈l,SumN s:=Z8_ HTC'.out HO.out (win:=win) (by rw[hlp,hjn];exact tk_ (by simp[sumsK]))
        have hlp2:l.map plainS=sumsK c t K' win:=by rw[hlp,hjn];exact tk_ (by simp[sumsK])
        have hl8:l.length≤8:=by omega
        have D5:=HDB.out.same hgB;have FB:=Zc_ HC.out.nums D5.cfg.rcfg (hL.rd hSN) hSN hl8;have hLow:Low wr (fun i=>G2.F i):=D5.clu.low;obtain⟨la,lc,rfl⟩:=hL.own.shape;have hgg:=D5.g;have hrl:=D5.clu.core.led.len;have hrw:∀x∈K'.rej,W64 x:=D5.clu.core.led.rw;have hrl:K'.rej.length=7:=hrl;have CRj:=hh_ (show ∀z,wr.grownBy z none→Calls prog 58 #[.pointer (some ⟨G2.bl,0,none⟩)] z (RetOwn wordF 1 22 K'.rej z) from fun z q=>ex_ (K:=clK c t K' win 0) (D5.clu.same q))
        have CBd:=hh_ fun z (q:wr.grownBy z none) rv (hr:RdL wordF 1 z rv K'.rej)=>Va_ c t (.slice la l.length lc) l rv K'.rej win z (FB.same q) hr (by omega)
        unfold Ix_ at CBd;obtain⟨tot,htot⟩:∃x,totalF l=x:=⟨_,rfl⟩;obtain⟨ov,hov⟩:∃x,bOver c t l=x:=⟨_,rfl⟩;obtain⟨tk,htk⟩:∃x,(keysF l).length=x:=⟨_,rfl⟩;obtain⟨rst,hrst⟩:∃x,bRest c t l=x:=⟨_,rfl⟩;obtain⟨Ls,hLs⟩:∃x,bLs c t l=x:=⟨_,rfl⟩;rw[htot,hov,htk,hrst,hLs] at CBd;have HRO:=hh_ (show ∀vl vr,RepOf c t K' win ⟨win,tot,vl,ov,tk,rst,vr,Ls,K'.rej⟩ from fun vl vr=>⟨l,hSN,hwi,hrw,hlp2,rfl,htot.symm,hLs.symm,hov.symm,by rw[htk],hrst.symm,rfl⟩);have HD5:=hh_ D5;have Hrl:=hh_ hrl
        have hrs:rs.length=k:=by have:=HR.out.1;rw[lk_] at this;omega
        have hrs1 :(rs.length+1)*88≤140737488355328:=by omega
        have hrs2:rs.length+1≤9223372036854775807:=by omega
        have hrs3:w.heap.size≤wr.heap.size:=D5.mov.size;clear htot hov htk hrst hLs hSN hlp2 hlp FB hLow hL hgB D5 hrl hrw hjn hlj;generalize l.length=ln at *;generalize K'.rej=RJ at *
        go_upto_region 20 with fail
        have KN:World.grownBy wr wr.drew none:=gw_;have HDz:=hh_ (HD5.out.same KN);have HRr:=hh_ HDz.out.clu;have GN:=hh_ KN;clear KN HD5
        (refine rn_ 14 (fun j _ w v w'=>match j with | 11=>RdL wordF 1 w' v RJ∧World.grownBy w w' none | 12=>(∃vl vr,v=repV win tot vl ov tk rst vr∧RdL lnF 3 w' vl Ls∧RdL wordF 1 w' vr RJ∧CapOk vl∧CapOk vr∧From w.heap.size vl∧From w.heap.size vr)∧World.grownBy w w' none | _=>False) ?_;simp only[ts_])
        generalize wr.drew=wd at *
        (refine tq_ 4 ?_;(repeat(go_big_quiet_step (fail)));refine wn_ ?_)
        (refine to_ ?_;intro x4 mx4 dx4)
        clear dx4;have BX:=(HRr.out.same mx4).cfgIn;rw[hgg] at BX
        go_wp2_with (refine Bt_ rfl _ rfl _ rfl c BX ?_)
        refine⟨Ab_ _ _,?_⟩;clear BX
        (refine tq_ 5 ?_;(repeat(go_big_quiet_step (fail)));refine wn_ ?_)
        (refine to_ ?_;intro x10 mx10 dx10)
        clear dx10;have bx:=(HRr.out.same mx10).blk.cell;rw[hgg] at bx
        go_wp2_with fail
        refine⟨Ab_ _ _,?_⟩;clear bx
        (refine tc_ ?_;intro x11 mx11 dx11;refine⟨?_,?_⟩;· (unfold Rg.callSpec;go_simp;(refine(CRj.out x11 (Aa_ GN.out mx11)).mono ?_;rintro e w' ⟨v,rfl,o,g⟩;exact⟨_,rfl,o.rd,g⟩)))
        clear dx11;rintro v11 y11 ⟨R11,g11⟩;refine⟨g11,?_⟩;obtain⟨ja,jc,rfl⟩:=R11.shape;simp only[pt_]
        (refine tc_ ?_;intro x12 mx12 dx12;refine⟨?_,?_⟩;· (unfold Rg.callSpec;go_simp;(refine(CBd.out x12 (Aa_ GN.out mx12) _ (RdL.same R11 (dx12.out 11 (by omega) (by kernel_rfl)))).mono ?_;rintro e w' ⟨vl,vr,rfl,h1,h2,h3,h4,h5,h6,g⟩;exact⟨_,rfl,⟨vl,vr,rfl,h1,h2,h3,h4,h5,h6⟩,g⟩)))
        clear dx12;rintro v12 y12 ⟨⟨vl,vr,rfl,hl1,hr1,hc1,hc2,hf1,hf2⟩,g12⟩;refine⟨g12,?_⟩;obtain⟨a1,k1,rfl⟩:=hl1.shape;obtain⟨a2,k2,rfl⟩:=hr1.shape;simp only[pt_]
        (refine to_ ?_;intro x13 mx13 dx13)
        clear dx13
        go_wp2_with fail
        refine⟨ga_ _ _ _,?_⟩;have N13:=Blk.new x13 #[.int .i64 win,.int .u64 tot,.slice a1 Ls.length k1,.int .u64 ov,.int .i64 tk,.int .u64 rst,.slice a2 RJ.length k2] 26;generalize x13.alloc _=e13 at *;generalize x13.heap.size=g13 at *
        (refine Rg.tree_nil ?_;intro z2 mz2 dz2 cz2)
        have HD6:=hh_ (HDz.out.same mz2);have R6:RepRd z2 ⟨win,tot,.slice a1 Ls.length k1,ov,tk,rst,.slice a2 RJ.length k2,Ls,RJ⟩:=⟨hl1.same (dz2.out 12 (by omega)),hr1.same (dz2.out 12 (by omega)),hc1,hc2⟩;have N14:=hh_ ((N13.same (dz2.out 13 (by omega))).one I2_ ⟨win,tot,.slice a1 Ls.length k1,ov,tk,rst,.slice a2 RJ.length k2,Ls,RJ⟩ rfl);have hz12:=mx12.size;have hb6:=hh_ (show ∀i,repBl ⟨win,tot,.slice a1 Ls.length k1,ov,tk,rst,.slice a2 RJ.length k2,Ls,RJ⟩ i→wd.heap.size≤i from fun i hi=>hi.elim (fun h=>lt_ hz12 (Uh_ hf1 i h.2)) fun h=>lt_ hz12 (Uh_ hf2 i h.2));have HR6:=hh_ R6;have Hmz:=hh_ mz2;have HRO2:=hh_ (HRO.out (.slice a1 Ls.length k1) (.slice a2 RJ.length k2));have hrs4:w.heap.size≤z2.heap.size:=HD6.out.mov.size;clear mx4 mx10 mx11 mx12 mx13 g11 g12 R11 hl1 hr1 hc1 hc2 hf1 hf2 N13 mz2 dz2 cz2 HRr CRj CBd HRO R6 hz12 hrs3;generalize hrr :(⟨win,tot,.slice a1 Ls.length k1,ov,tk,rst,.slice a2 RJ.length k2,Ls,RJ⟩:Rep)=r at *;have Hone:=hh_ (show ∀u∈cellsOf repF [r],u.oneCell'=true by rw[←hrr];intro u hu;simp[cellsOf,repF] at hu;rcases hu with rfl|rfl|rfl|rfl|rfl|rfl|rfl <;> rfl);clear hrr
        go_upto_region 21 with(at_builtin;refine g2_ Oz_ Hone.out HD6.out.fr.out.own N14.out rfl hrs1 hrs2 hrs4 (by rfl) _ _ (by rfl) (by rfl) (by rfl) ?_;intro v7 w7 o7 g7 l7)
        have D7:=HDz.out.app Hmz.out HR6.out hb6.out o7 g7 l7;have hgD:=D7.g;have bx:=D7.clu.blk.cell;rw[hgD,D7.vs,Hvs.out] at bx;have HD7:=hh_ D7;have HR7:=hh_ (Sl_ HR.out (by rw[HE.out];exact HRO2.out));clear D7 hgD o7 g7 l7 Hone N14 hb6 HR6 Hmz HD6 HDz hrs1 hrs2 hrs4 hrs HRO2 HR Hrl hgg GN
        go_upto_region 22 with fail
        clear bx
        go_loopw [101] (fun s101 wk=>∃(j:Nat) (G3:RcG),j≤n∧s101=.int .i64 j∧TkS w G c t wk G3 (clK c t K' win j) (.slice (some ⟨gw,0,none⟩) ws.length wc) ws v7 (rs++[r])) (fun s101 _=>n-(RowKit.intOf s101).toNat)
        case atStart=>exact⟨0,G2,zl_ _,rfl,HD7.out⟩
        case round=>
         clear HD7 hj hjl;obtain⟨j,G3,hj,rfl,hD⟩:=hrel
         by_cases hjl:j<n
         ·have hjk:j<K'.sh.length:=by have:=HnK.out;omega
          have hg2:G3.sh.length=n:=by have:=congrArg List.length hD.gs;have h2:=HnG.out;simp at this;omega
          have hs:G3.sh[j]?=some G3.sh[j]:=gq_ (by omega);have cc:=hD.clu.shAt (hD.vs.trans Hvs.out) hs;have CCl:=hh_ (Sf_ hD.clu (U2_ HTC.out HO.out win j) (by omega) hs (d2_ c t K' win hjk) win)
          have hjlt :(j:Int)<(n:Int):=by omega
          have HDj:=hh_ hD;have Hs:=hh_ hs;have eK:=hh_ (Yh_ c t K' win hjk);clear hD hs;generalize G3.sh[j]=s2 at *
          go_wp2_with (go_at_call 59;refine CCl.out.mono ?_;rintro e w8 ⟨⟨x,rfl⟩,s4,RC,MC,hgs⟩)
          have DC:=HDj.out.step RC MC rfl rfl rfl (Lh_ Hs.out hgs);rw[eK.out] at DC;exact⟨⟨j+1,_,by omega,by go_num,DC⟩,by simp[RowKit.intOf];omega⟩
         ·have hjn:j=K'.sh.length:=by have:=HnK.out;omega
          rw[hjn] at hD;have hgD:=hD.g;have bx:=hD.clu.blk.cell;rw[hgD] at bx;have CLC:=hh_ (Zs_ hD.clu win (show K'.led.length<1000000000 by have:=HO.out.led;omega));have HDj:=hh_ hD;have hwi0:=hwi;clear hD hjn hgD
          go_wp2_with (go_at_call 60;refine CLC.out.mono ?_;rintro e w8 ⟨rfl,F',RC,MC⟩)
          have DC:=HDj.out.step RC MC rfl rfl rfl rfl;have eC :({ clK c t K' win K'.sh.length with led:=ldDel (clK c t K' win K'.sh.length).led win }:CluM)=closeK c t K' win:=Qo_ c t K' win;rw[eC] at DC
          have hrs5 :(rs++[r]).length=rs.length+1:=by simp
          exact⟨⟨k+1,_,_,rs++[r],by omega,by go_num,DC,by rw[HT.out,List.foldl_append,HE.out];rfl,Nm_ HTC.out HO.out win,by rw[HT.out];exact HR7.out,fun i x hi hx=>by
           by_cases hik:i<k
           ·exact HL0.out i x hik hx
           ·have:i=k:=by omega
            subst this;rw[Hwk.out] at hx;cases hx
            exact hwL.out⟩,by simp[RowKit.intOf];omega⟩
  ·have hkn:k=ws.length:=by omega
   rw[hkn,tk_ (le_ _)] at hE hR;have eW:=Ym_ (c:=c) (m:=m) (ws:=ws) (fun i hi=>by rw[hL0.out];exact hlo i _ (by omega) (gq_ hi));have HD:=hh_ hD;have HE:=hh_ hE;have HR:=hh_ hR;have eW:=hh_ eW;clear hkn hE hR hD hlo hO
   go_wp2_with fail
   go_ret2
   exact HP.out G' _ _ _ _ _ (by rw[eW.out,HE.out];exact HD.out) (by rw[eW.out];exact HR.out)
end
section
open Go.RowKit Go.Sort
attribute [local go_sem ↓] Ag_
attribute [local go_sem] Ah_
theorem du_:Elt 72 104 (.pointer none) 1 8:=⟨underlying72,by kernel_rfl,rfl,by decide⟩
def newK (n:Nat):CluM:=⟨0,⟨[],0,false⟩,[],0,[0,0,0,0,0,0,0],List.replicate n ⟨[],[]⟩,[]⟩
theorem Tq_ (n:Nat):newK (n+1)={ newK n with sh:=(newK n).sh++[⟨[],[]⟩] }:=by unfold newK;rw[List.replicate_succ']
theorem RClu.new0 {g b:Nat} {F:Fp} {c:Cfg} (h:Blk w g (rcluA c 0 (.slice none 0 0) 0 false b (.slice none 0 0) (.slice none 0 0))) (hl:RLed F w b [] 0 [0,0,0,0,0,0,0]) (hF:Low w F) (hg:¬F g) :
  RClu w ⟨g,.slice none 0 0,b,F,.slice none 0 0,.slice none 0 0,[]⟩ c t (newK 0):=by
 have ne:∀P:Fp,Off (ownF (.slice none 0 0)) P:=fun P i hi=>absurd hi (Ax_ i)
 refine⟨h,⟨h.lt,Own.nil _ _ _ _ _,hl,hF,Own.nil _ _ _ _ _,Own.nil _ _ _ _ _,rfl,fun i s S h1=>by simp at h1,?_⟩⟩
 show List.Pairwise Off [oneF g,ownF (.slice none 0 0),F,ownF (.slice none 0 0),ownF (.slice none 0 0)]
 simp only[List.pairwise_cons,List.mem_cons,List.not_mem_nil,or_false];refine⟨?_,?_,?_,?_,?_,List.Pairwise.nil⟩
 ·rintro P (rfl|rfl|rfl|rfl)
  ·exact(ne _).symm
  ·intro i hi hf;rw[show i=g from hi] at hf;exact hg hf
  ·exact(ne _).symm
  ·exact(ne _).symm
 ·exact fun P _=>ne P
 ·rintro P (rfl|rfl) <;> exact(ne _).symm
 ·exact fun P _=>ne P
 ·simp
theorem RClu.addS {G:RcG} {c:Cfg} {K:CluM} {wd:World} (h0:RClu wd G c t K) (gz:wd.grownBy w none) {s:RshG} {S:ShM} (hs:RSh w s c t S) (hn:∀i,s.F i→wd.heap.size≤i) {v':Value} (ho:Own ptrF 1 104 0 w' v' (G.sh.map (·.g)++[s.g])) (k:w.grownBy w' G.vs.ownBlock) (hL:Lies G.vs v' w.heap.size) :
  Blk w' G.g (rcluA c K.mark G.vb K.str.skip K.str.broken G.bl G.vs G.vi)∧RClu (w'.setCell ⟨G.g,22,none⟩ v') { G with vs:=v',sh:=G.sh++[s] } c t { K with sh:=K.sh++[S] }:=by
 have h:=h0.same gz;have hlow:=h.low;have hlow0:=h0.low;have hz:=gz.size
 have g:GrownS (ownF G.vs) w w':=GrownS.of k fun j hj=>hj
 have hb:=h.blk.keptS g (C1_ h.core.ap (i:=0) (j:=3) rfl rfl (by omega) G.g rfl)
 have hg:GrownS (oneF G.g) w' (w'.setCell ⟨G.g,22,none⟩ v'):=GrownS.of (Ac_ (Ab_ w' (some G.g)) 22 _) fun k e=>by cases e;rfl
 have hnew:∀i,ownF v' i→ownF G.vs i∨w.heap.size≤i:=fun i hi=>by
  rcases hL with e |⟨m,e1,e2⟩
  ·left;unfold ownF at hi ⊢;rw[←e];exact hi
  ·right;unfold ownF at hi;rw[e1] at hi;cases hi;exact e2
 have hsl:=hs.low;have hvsl:∀i,ownF G.vs i→i<wd.heap.size:=h0.core.sp.low
 have hsvs:Off s.F (ownF G.vs):=fun i hi hf=>by have:=hn i hi;have:=hvsl i hf;omega
 have hsv':Off s.F (ownF v'):=fun i hi hf=>by
  rcases hnew i hf with e|e
  ·exact hsvs i hi e
  ·have:=hsl i hi;omega
 have C1:RcC w' { G with vs:=v',sh:=G.sh++[s] } c t { K with sh:=K.sh++[S] }:=by
  refine⟨ll_ h.core.gl k.size,h.core.buf.offS g (h.core.off (i:=1) (j:=3) rfl rfl (by omega)),h.core.led.keptS g (h.core.off (i:=2) (j:=3) rfl rfl (by omega)),h.core.lel.up g.size,?_,h.core.it.offS g (h.core.off (i:=4) (j:=3) rfl rfl (by omega)),by simp[h.core.len],?_,?_⟩
  ·show Own ptrF 1 _ 0 w' v' ((G.sh++[s]).map (·.g))
   rw[List.map_append];exact ho
  ·intro i x X e1 e2
   have e1' :(G.sh++[s])[i]?=some x:=e1;have e2' :(K.sh++[S])[i]?=some X:=e2;have hl:=h.core.len
   by_cases hi:i<G.sh.length
   ·rw[List.getElem?_append_left hi] at e1'
    rw[List.getElem?_append_left (by omega)] at e2';exact(h.core.shd i x X e1' e2').keptS g (h.core.off (i:=5+i) (j:=3) (RcG.part_sh e1') rfl (by omega))
   ·have h1:=(gs_ e1').1
    simp only[la_,ls_] at h1
    have hi2:i=G.sh.length:=by omega
    subst hi2;rw[List.getElem?_append_right (by omega),Nat.sub_self] at e1';rw[List.getElem?_append_right (by omega),←hl,Nat.sub_self] at e2';simp only[List.getElem?_cons_zero,Option.some.injEq] at e1' e2';subst e1' e2';exact hs.keptS g hsvs
  ·have hp:RcG.parts { G with vs:=v',sh:=G.sh++[s] } =(G.parts.set 3 (ownF v'))++[s.F]:=by unfold RcG.parts;simp
   rw[hp];refine List.pairwise_append.2 ⟨Ea_ h.core.ap h.core.lows (j:=3) rfl hnew,by simp,fun P hP Q hQ=>?_⟩;rw[ms_ hQ]
   rcases List.mem_or_eq_of_mem_set hP with hP|rfl
   ·intro i hi hf
    have:=hn i hf
    have:=h0.core.lows P hP i hi
    omega
   ·exact hsv'.symm
 exact⟨hb,⟨hb.set_ 22 _ rfl,C1.own hg⟩⟩
theorem Ju_ {a b c:World} {r:Option Nat} (h:a.grownBy b none) (k:b.grownBy c r) (hr:∀q,r=some q→a.heap.size≤q):a.grownBy c none:=by
 cases r with
 | none=>exact Aa_ h k
 | some q=>exact Af_ h k (hr q rfl)
theorem W0_ (G:RcG) (v':Value) (s:RshG):RcG.parts { G with vs:=v',sh:=G.sh++[s] } =(G.parts.set 3 (ownF v'))++[s.F]:=by unfold RcG.parts;simp
theorem f3_ (c:Cfg) (l:List (Int×Int)) (t:List Int) (w:World) (hn:CfgNums c) (hm:CfgMem c l t w) (hc:ClsFit c l) :
  Calls prog 19 #[c.val] w (fun e w'=>∃G,e=.returned (.tuple #[.pointer (some ⟨G.g,0,none⟩),.int .i64 0])∧RClu w' G c t (newK c.Shards.toNat)∧(∀i,G.F i→w.heap.size≤i)∧w.grownBy w' none):=by
 have HN:=hh_ hn
 have HV:=hh_ fun z (q:w.grownBy z none)=>Pl_ c l t z hn (hm.same q) hc
 have hsh:=hn.shards;clear hm hc hn
 go_enter func19,ntmps19
 go_upto_region 1 with(refine At_ rfl _ rfl c rfl ?_;intro w1 B1 G1 z1)
 go_upto_region 4 with(first |(refine An_ rfl _ rfl _ rfl c (by assumption) ?_) |(go_at_call 41;refine(HV.out _ G1).mono ?_;rintro e w2 ⟨rfl,g2⟩))
 have B2:=B1.same g2;have G2:=Aa_ G1 g2;have KN:World.grownBy w2 w2.drew none:=gw_;have B6:=B2.same KN;have K6:=Aa_ G2 KN;clear B1 G1 g2 B2 G2 KN HV
 (refine rn_ 5 (fun j _ w v w'=>match j with | 1=>(∃b,v=.pointer (some ⟨b,0,none⟩)∧RLed (fun i=>w.heap.size≤i) w' b [] 0 [0,0,0,0,0,0,0])∧World.grownBy w w' none | _=>False) ?_;simp only[ts_])
 generalize w2.drew=w3 at *
 ((refine to_ ?_;intro x0 mx0 dx0);clear dx0;have BX:=B6.same mx0;go_wp2_with (refine An_ rfl _ rfl _ rfl c (by assumption) ?_);refine⟨Ab_ _ _,?_⟩;clear BX)
 (refine tc_ ?_;intro x1 mx1 dx1;refine⟨?_,?_⟩;· (unfold Rg.callSpec;go_simp;(refine(Wy_ x1).mono ?_;rintro e w' ⟨b,rfl,o,g⟩;exact⟨_,rfl,⟨b,rfl,o⟩,g⟩)))
 have hz1:=mx1.size;clear dx1;rintro v1 y1 ⟨⟨b,rfl,R1⟩,g1⟩;refine⟨g1,?_⟩;simp only[pt_]
 (refine tq_ 1 ?_;(repeat(go_big_quiet_step (fail)));refine wn_ ?_)
 (refine to_ ?_;intro x3 mx3 dx3)
 go_wp2_with fail
 refine⟨ga_ _ _ _,?_⟩;have R1x:=R1.same (dx3.out 1 (by omega) (by kernel_rfl));obtain⟨F,RF,hFl,hFs⟩:=R1x.tight;have gA:=ga_ x3 (.cells (rcluA c 0 (.slice none 0 0) 0 false b (.slice none 0 0) (.slice none 0 0)) 74) none;have C3:RClu _ ⟨x3.heap.size,.slice none 0 0,b,F,.slice none 0 0,.slice none 0 0,[]⟩ c t (newK 0):=RClu.new0 (c:=c) (t:=t) (Blk.new x3 (rcluA c 0 (.slice none 0 0) 0 false b (.slice none 0 0) (.slice none 0 0)) 74) (RF.same gA) (hFl.up gA.size) (fun h=>Nat.lt_irrefl _ (hFl _ h));have hx3:=mx3.size;have hz3:=K6.size;have hb6:=B6.lt
 have hF3:∀i,RcG.F ⟨x3.heap.size,.slice none 0 0,b,F,.slice none 0 0,.slice none 0 0,[]⟩ i→w.heap.size<i:=fun i ⟨P,hP,hi⟩=>by
  simp only[RcG.parts,List.map_nil,List.append_nil,List.mem_cons,List.not_mem_nil,or_false] at hP
  rcases hP with rfl|rfl|rfl|rfl|rfl
  ·have:i=x3.heap.size:=hi;omega
  ·exact absurd hi (Ax_ i)
  ·have:=hFs i hi;omega
  ·exact absurd hi (Ax_ i)
  ·exact absurd hi (Ax_ i)
 clear dx3 R1 R1x RF hFl hFs gA;generalize x3.alloc _=e3 at *;obtain⟨G0,hG0⟩:∃G0:RcG,⟨x3.heap.size,.slice none 0 0,b,F,.slice none 0 0,.slice none 0 0,[]⟩=G0:=⟨_,rfl⟩
 have hgg:G0.g=x3.heap.size:=by rw[←hG0]
 rw[hG0] at C3 hF3;generalize x3.heap.size=g at *;clear hG0
 (refine tq_ 1 ?_;(repeat(go_big_quiet_step (fail)));refine wn_ ?_)
 (refine Rg.tree_nil ?_;intro z mz dz cz)
 have C4:=C3.same (dz.out 3 (by omega));have B4:=B6.same mz;have K4:=Aa_ K6 mz;obtain⟨n,hnS⟩:=Int.eq_ofNat_of_zero_le (show 0≤c.Shards by omega);have HnS:=hh_ hnS
 have hn8:n≤8:=by omega
 have hCE:=hh_ (show c.Shards.toNat=n by omega);clear mx0 mx1 mx3 g1 mz dz cz B6 K6 C3 hnS hsh x0 x1 y1 hz1 hx3;clear hz3 hb6;clear e3 x3;have HC4:=hh_ C4;have HB4:=hh_ B4;have HK4:=hh_ K4;clear C4 B4 K4
 go_upto_region 6 with fail
 go_loopw [6] (fun s6 wk=>∃(j:Nat) (G:RcG),j≤n∧s6=.int .i64 j∧RClu wk G c t (newK j)∧G.g=g∧(∀i,G.F i→w.heap.size<i)∧BoxAt wk w.heap.size c∧w.grownBy wk none) (fun s6 _=>n-(RowKit.intOf s6).toNat)
 case atStart=>exact⟨0,G0,zl_ _,rfl,HC4.out,hgg,hF3,HB4.out,HK4.out⟩
 case round=>
  clear HC4 HB4 HK4 hgg hF3 G0;obtain⟨j,G,hj,rfl,hC,hg,hF,hB,hK⟩:=hrel;have bc:=hB.cell;have hSn:=HnS.out
  by_cases hjl:j<n
  ·have hjlt :(j:Int)<(n:Int):=by omega
   have HC:=hh_ hC;have HB:=hh_ hB;have HK:=hh_ hK;have HF:=hh_ hF;clear hC hB hK hF
   go_upto_region 8 with fail
   clear bc;have KN:World.grownBy wr wr.drew none:=gw_;have HCz:=hh_ (HC.out.same KN);have B6:=HB.out.same KN;have HK6:=hh_ (Aa_ HK.out KN);obtain⟨va,vcp,hvs⟩:=HC.out.core.sp.shape;rw[List.length_map] at hvs;have Hvs:=hh_ hvs
   have hGl:G.sh.length=j:=by rw[HC.out.core.len];simp[newK]
   have HGl:=hh_ hGl;clear KN HC HB HK hvs hGl hSn
   (refine rz_ 8 #[true] (fun j _ w v w'=>match j with | 6=>(∃s:RshG,v=.pointer (some ⟨s.g,0,none⟩)∧RSh w' s c t ⟨[],[]⟩∧∀i,s.F i→w.heap.size≤i)∧World.grownBy w w' none | _=>False) ?_;simp only[ts_])
   generalize wr.drew=wd at *
   (refine tq_ 4 ?_;(repeat(go_big_quiet_step (fail)));refine wn_ ?_)
   (refine to_ ?_;intro x4 mx4 dx4)
   clear dx4;have bx:=(HCz.out.same mx4).blk.cell;rw[hg,Hvs.out] at bx
   go_wp2_with fail
   refine⟨Ab_ _ _,?_⟩;clear bx
   ((refine to_ ?_;intro x5 mx5 dx5);clear dx5;have BX:=B6.same mx5;go_wp2_with (refine An_ rfl _ rfl _ rfl c (by assumption) ?_);refine⟨Ab_ _ _,?_⟩;clear BX)
   (refine tc_ ?_;intro x6 mx6 dx6;refine⟨?_,?_⟩;· (unfold Rg.callSpec;go_simp;(refine(Zn_ c t x6).mono ?_;rintro e w' ⟨s,rfl,h1,h2,g⟩;exact⟨_,rfl,⟨s,rfl,h1,h2⟩,g⟩)))
   clear dx6;have hz6:=mx6.size;rintro v6 y6 ⟨⟨s,rfl,R6,hs6⟩,g6⟩;refine⟨g6,?_⟩;simp only[pt_]
   (refine to_ ?_;intro x7 mx7 dx7)
   clear dx7
   go_wp2_with fail
   refine⟨ga_ _ _ _,?_⟩;have N7:=Blk.new x7 #[.pointer (some ⟨s.g,0,none⟩)] 104;generalize x7.alloc _=e7 at *;generalize x7.heap.size=g7 at *
   (refine Rg.tree_nil ?_;intro z2 mz2 dz2 cz2)
   have C2:=HCz.out.same mz2;have R2:=R6.same (dz2.out 6 (by omega));have HN7:=hh_ ((N7.same (dz2.out 7 (by omega))).one (f:=ptrF) (fun _=>rfl) s.g rfl);have HO2:=hh_ C2.core.sp;have hz6b:=hh_ (show ∀i,s.F i→wd.heap.size≤i from fun i hi=>lt_ hz6 (hs6 i hi));have HR2:=hh_ R2;have Hmz:=hh_ mz2;have HB2:=hh_ (B6.same mz2);have HK2:=hh_ (Aa_ HK6.out mz2);rw[Hvs.out] at HO2
   have hb1 :((G.sh.map (·.g)).length+[s.g].length)*8≤140737488355328:=by have:=HGl.out;simp;omega
   have hb2 :(G.sh.map (·.g)).length+[s.g].length≤9223372036854775807:=by have:=HGl.out;simp;omega
   have hlb:w.heap.size<wd.heap.size:=HB2.out.lt |> fun _=>by have:=B6.lt;omega
   clear mx4 mx5 mx6 mx7 mz2 dz2 cz2 g6 hs6 hz6 R6 N7 C2 R2 B6 HK6;clear x4 x5 x6 y6 x7 e7
   go_upto_region 7 with(at_builtin;refine app du_ Gi_ HO2.out HN7.out rfl hb1 hb2 (zl_ _) ?_;intro v7 w7 o7 g7 l7;rw[←Hvs.out] at g7 l7;have hA:=hh_ (HCz.out.addS Hmz.out HR2.out hz6b.out o7 g7 l7);have bz:=hA.out.1.cell;have bf:=hA.out.1.free;rw[hg,Hvs.out] at bz;rw[hg] at bf;have Hg7:=hh_ g7;have Hl7:=hh_ l7;have Ho7:=hh_ (fun i hi=>(o7.lt i hi));(obtain⟨a7,c7,rfl⟩:=o7.shape);clear g7 l7 o7)
   have hF':∀i,RcG.F { G with vs:=.slice a7 (G.sh.map (·.g)++[s.g]).length c7,sh:=G.sh++[s] } i→w.heap.size<i:=fun i ⟨P,hP,hi⟩=>by
    rw[W0_] at hP;have hz2:=Hmz.out.size
    rcases ma_ hP with hP|hP
    ·rcases List.mem_or_eq_of_mem_set hP with hP|rfl
     ·exact HF.out i ⟨P,hP,hi⟩
     ·rcases Hl7.out with e |⟨m,e1,e2⟩
      ·exact HF.out i (RcG.F_part (j:=3) (P:=ownF G.vs) rfl i (by unfold ownF at hi ⊢;rw[←e];exact hi))
      ·unfold ownF at hi;rw[e1] at hi;cases hi;omega
    ·rw[ms_ hP] at hi
     have:=hz6b.out i hi;omega
   have hvn:∀q,G.vs.ownBlock=some q→w.heap.size<q:=fun q e=>HF.out q (RcG.F_part (j:=3) (P:=ownF G.vs) rfl q e)
   have hgn:w.heap.size<g:=by rw[←hg];exact HF.out G.g (RcG.F_part (j:=0) (P:=oneF G.g) rfl G.g rfl)
   have hS7:=Ac_ (Ab_ w7 (some g)) 22 (.slice a7 (G.sh.map (·.g)++[s.g]).length c7);have hB7:=(HB2.out.kept Hg7.out (fun e=>Nat.lt_irrefl _ (hvn _ e))).kept hS7 (fun e=>by cases e;omega);have hK7:=Af_ (Ju_ HK2.out Hg7.out (fun q e=>Nat.le_of_lt (hvn q e))) hS7 (Nat.le_of_lt hgn);have hC7:=hA.out.2;rw[hg] at hC7 hF';have hKn :({ newK j with sh:=(newK j).sh++[⟨[],[]⟩] }:CluM)=newK (j+1):=(Tq_ j).symm;rw[hKn] at hC7;simp only[la_,List.length_map,ls_] at hC7 hF' hB7 hK7;have HE:=hh_ (And.intro hC7 (And.intro hF' (And.intro hB7 hK7)));clear hC7 hF' hB7 hK7 hS7 hA bz bf Hg7 Hl7 Ho7 hvn hgn HB2 HK2 hKn HCz HN7 HO2
   go_wp2_with fail
   exact⟨⟨j+1,_,by omega,by go_num,HE.out.1,rfl,HE.out.2.1,HE.out.2.2.1,HE.out.2.2.2⟩,by simp[RowKit.intOf];omega⟩
  ·have hjn:j=n:=by omega
   rw[hjn] at hC;have HC:=hh_ hC;have HF:=hh_ hF;have HK:=hh_ hK;have Hg:=hh_ hg;clear hC hF hK hjn hg
   go_wp2_with fail
   go_ret2
   exact⟨G,by rw[Hg.out];rfl,by rw[hCE.out];exact HC.out,fun i hi=>Nat.le_of_lt (HF.out i hi),HK.out⟩
end
section
open Go.RowKit
attribute [local go_sem ↓] Ag_
attribute [local go_sem] Ah_
theorem gj_ {n:Int} (h0:0≤n) (h1:n≤1099511627776):tok n=true:=dt_ ⟨h0,h1⟩
theorem Ug_ {c:Cfg} (hc:cok c=true) {m:Int} (h0:0≤m) (h1:m≤1099511627776):lowV c m=max (m-c.Lateness) 0/c.Length:=by
 unfold lowV;rw[hc,gj_ h0 h1];rfl
theorem Ty_ {c:Cfg} (hc:cok c=true) {m m':Int} (h0:0≤m) (h:m≤m') (h1:m'≤1099511627776):lowV c m≤lowV c m':=by
 rw[Ug_ hc h0 (by omega),Ug_ hc (by omega) h1];obtain⟨⟨l0,_⟩,_⟩:=Si_ hc;exact Int.ediv_le_ediv (by omega) (by omega)
end
section
open Go.RowKit Go.Sort
inductive ReachK (c:Cfg) (t:List Int):CluM→Prop
 | new:ReachK c t (newK c.Shards.toNat)
 | str {K:CluM} (s:StrM) (h:ReachK c t K):ReachK c t { K with str:=s }
 | mark {K:CluM} (time:Int) (ht:0≤time∧time≤1099511627776) (h:ReachK c t K):ReachK c t { K with mark:=max K.mark time }
 | inp {K:CluM} (x:InpR) (hx:InpOk c.Key x) (h:ReachK c t K):ReachK c t (inpK c t K x).1
 | close {K:CluM} (win:Int) (hw:win<lowV c K.mark) (h:ReachK c t K):ReachK c t (closeK c t K win)
 | step {K:CluM} (i:Nat) (h:ReachK c t K):ReachK c t { K with sh:=K.sh.modify i (stepS c t) }
section
variable {c:Cfg} {t:List Int} {K:CluM}
theorem ReachK.inps (h:ReachK c t K) (l:List InpR) (hl:∀x∈l,InpOk c.Key x):∀k,k≤l.length→ReachK c t (inpsK c t K (l.take k)).1:=by
 intro k
 induction k with
 | zero=>exact fun _=>by simpa [inpsK] using h
 | succ k ih=>
  intro hk;rw[tg_ (show k<l.length by omega),Gs_];exact(ih (by omega)).inp _ (hl _ (mg_ _))
theorem Jp_ {l:List ChM} (h:∀x∈l,ChOk x) :(∀y∈l.flatMap (chInps c),InpOk c.Key y)∧(l.flatMap (chInps c)).length≤65*l.length:=by
 refine⟨fun y hy=>?_,?_⟩
 ·obtain⟨x,hx,hy⟩:=List.mem_flatMap.1 hy
  exact(H2_ (h x hx)).2 y hy
 ·induction l with
  | nil=>simp
  | cons x l ih=>
   have h1:=(H2_ (c:=c) (h x (by simp))).1
   have h2:=ih fun y hy=>h y (by simp[hy])
   simp only[List.flatMap_cons,la_,lc_]
   omega
theorem ReachK.feed (h:ReachK c t K) (hs:StrOk K.str) (p:List UInt8):ReachK c t (feedK c t K p).1:=by
 obtain⟨_,h2,_⟩:=K2_ hs p p.length (le_ _);rw[List.take_length] at h2;have h3:=Jp_ (c:=c) h2
 have:=(h.str (strF K.str p).1).inps _ h3.1 _ (le_ _)
 rw[List.take_length] at this;exact this
theorem D4_:∀(ws:List Int) {K:CluM},ReachK c t K→(∀w∈ws,w<lowV c K.mark)→ReachK c t (ws.foldl (closeK c t) K)
 | [],_,h,_=>h
 | w::ws,_,h,hw=>by rw[List.foldl_cons];exact D4_ ws (h.close w (hw w (by simp))) fun v hv=>hw v (by simp[hv])
theorem X5_ {c:Cfg} {m:Int} {l:List Int}:∀w∈low1 c m l,w<lowV c m:=fun w hw=>by
 have:∀l:List Int,w∈l.takeWhile (fun w=>decide (w<lowV c m))→w<lowV c m:=by
  intro l
  induction l with
  | nil=>simp
  | cons a l ih=>
   intro h;rw[List.takeWhile_cons] at h
   split at h
   ·rcases List.mem_cons.1 h with rfl|h
    ·exact of_decide_eq_true (by assumption)
    ·exact ih h
   ·simp at h
 exact this l hw
theorem ReachK.tick (h:ReachK c t K) {time:Int} (ht:0≤time∧time≤1099511627776):ReachK c t (tickK c t K time):=D4_ _ (h.mark time ht) X5_
theorem Ka_:∀(ws:List Int) {K:CluM} {x:Int},Asc K.led→x∈K.led.map (·.1)→x∉ws→x∈(ws.foldl (closeK c t) K).led.map (·.1)
 | [],_,_,_,h,_=>h
 | w::ws,K,x,hA,h,hn=>by
  rw[List.foldl_cons]
  refine Ka_ ws (I8_ hA) ?_ fun e=>hn (by simp[e])
  rw[←Di_] at h ⊢
  show ldHas (ldDel K.led w) x=true
  rw[H6_ hA,h]
  have:x≠w:=fun e=>hn (by simp[e])
  simp[this]
theorem ReachK.len (hs:1≤c.Shards) (h:ReachK c t K) :(K.sh.length:Int)=c.Shards:=by
 induction h with
 | new=>simp[newK];omega
 | str s _ ih=>exact ih
 | mark m _ _ ih=>exact ih
 | inp x hx _ ih=>
  unfold inpK
  split
  ·exact ih
  ·simpa using ih
 | close win _ _ ih=>simpa [closeK] using ih
 | step i _ ih=>simpa using ih
theorem ReachK.asc (h:ReachK c t K):Asc K.led:=by
 induction h with
 | new=>simp[newK,Asc]
 | str s _ ih=>exact ih
 | mark m _ _ ih=>exact ih
 | inp x hx _ ih=>
  unfold inpK
  split
  ·exact ih
  ·exact Kw_ ih
 | close win _ _ ih=>exact I8_ ih
 | step i _ ih=>exact ih
end
end
section
open Go.RowKit Go.Sort
section
variable {c:Cfg} {t:List Int} {K:CluM}
theorem aa_ {N:Nat} (hn:CfgNums c) (h:CluOk c K N) (p:List UInt8):CluOk c (feedK c t K p).1 (N+65*p.length):=by
 obtain⟨h1,h2,h4⟩:=K2_ h.str p p.length (le_ _);rw[List.take_length] at h1 h2 h4;have h3:=Jp_ (c:=c) h2;have h5:CluOk c { K with str:=(strF K.str p).1 } N:=⟨h1,h.acc,h.led,h.items,h.len,h.sh,h.its⟩
 have:=(a5_ (t:=t) hn h5 _ h3.1 _ (le_ _)).1
 rw[List.take_length] at this;exact this.up (by omega)
theorem Nf_ {N:Nat} (hc:A7_ c):∀(ws:List Int) {K:CluM},CluOk c K N→CluOk c (ws.foldl (closeK c t) K) N
 | [],_,h=>h
 | w::ws,_,h=>by rw[List.foldl_cons];exact Nf_ hc ws (Nm_ hc h w)
theorem Rs_ {N:Nat} (hc:A7_ c) (h:CluOk c K N) (time:Int):CluOk c (tickK c t K time) N:=
 Nf_ hc _ ⟨h.str,h.acc,h.led,h.items,h.len,h.sh,h.its⟩
theorem fn_ (hn:CfgNums c):CluOk c (newK c.Shards.toNat) 0:=by
 have:=hn.shards
 refine⟨⟨by simp[newK],by simp[newK]⟩,⟨by simp[newK],by simp[newK]⟩,by simp[newK],by simp[newK],by simp[newK];omega,fun S hS=>?_,by simp[newK]⟩;have e:S =⟨[],[]⟩:=List.eq_of_mem_replicate hS;subst e;exact⟨⟨by have:=hn.queue;simp;omega,by simp,by simp⟩,by simp⟩
end
def Gg_ (c:Cfg) (t:List Int) (rs:List Rep):Prop:=∀r∈rs,∃K win,ReachK c t K∧win<lowV c K.mark∧win∈K.led.map (·.1)∧RepOf c t K win r
theorem Gg_.app {c:Cfg} {t:List Int} {rs rs':List Rep} (h:Gg_ c t rs) (h':Gg_ c t rs'):Gg_ c t (rs++rs'):=fun r hr=>(ma_ hr).elim (h r) (h' r)
theorem Qg_ {c:Cfg} {t:List Int} {K:CluM} {rs:List Rep} (hK:ReachK c t K) (h:repsK c t K (low1 c K.mark (K.led.map (·.1))) rs):Gg_ c t rs:=by
 intro r hr;obtain⟨i,hi,e⟩:=List.getElem_of_mem hr;have hA:=hK.asc;have hlt:=X5_ (c:=c) (m:=K.mark) (l:=K.led.map (·.1));have hsub :(low1 c K.mark (K.led.map (·.1))).Sublist (K.led.map (·.1)):=List.takeWhile_sublist _;have hnd :(low1 c K.mark (K.led.map (·.1))).Nodup:=List.Nodup.sublist hsub (Xr_ hA);obtain⟨h1,h2⟩:=h;generalize low1 c K.mark (K.led.map (·.1))=ws at *
 have hiw:i<ws.length:=by rw[←h1];exact hi
 have hm:∀(ws:List Int) (K:CluM),(ws.foldl (closeK c t) K).mark=K.mark:=by
  intro ws
  induction ws with
  | nil=>intro K;rfl
  | cons w ws ih=>intro K;rw[List.foldl_cons,ih];rfl
 refine⟨_,_,D4_ (ws.take i) hK fun w hw=>hlt w (List.mem_of_mem_take hw),?_,?_,h2 i r ws[i] (by rw[gq_ hi,e]) (gq_ hiw)⟩
 ·rw[hm];exact hlt _ (mg_ hiw)
 ·refine Ka_ (ws.take i) hA (hsub.subset (mg_ hiw)) fun hx=>?_
  obtain⟨j,hj,e2⟩:=List.getElem_of_mem hx;rw[lk_] at hj;rw[List.getElem_take] at e2;exact List.pairwise_iff_getElem.1 hnd j i (by omega) hiw (by omega) e2
theorem iu_ {l:List Summ} (h:∀s∈l,SumN s) (i:Int):W64 (uAt l i):=by
 unfold uAt
 cases hl:l[i.toNat]? with
 | none=>exact D3_
 | some s=>exact(h s (mo_ hl)).wf.untr
theorem uF_w {l:List Summ} (h:∀s∈l,SumN s) (is:List Int):W64 (uF l is):=by
 have:∀(is:List Int) (a:Int),W64 a→W64 (is.foldl (fun a i=>satA a (uAt l i)) a):=by
  intro is
  induction is with
  | nil=>exact fun a ha=>ha
  | cons i is ih=>exact fun a ha=>ih _ (Cr_ ha (iu_ h i))
 exact this is 0 D3_
theorem gm_ {a b:Int} (ha:W64 a) (hb:W64 b):W64 (max a b):=by unfold W64 at *;omega
theorem X0_ {l:List Summ} (h:∀s∈l,SumN s) (m:Int) (n:Nat):∀k,W64 (restI m n l k)
 | 0=>by simp[restI,rangeI];exact D3_
 | k+1=>by rw[Eo_];exact gm_ (X0_ h m n k) (uF_w h _)
theorem fc_ {c:Cfg} {l:List Summ} (h:∀s∈l,SumN s):W64 (restF c l):=by
 unfold restF
 split
 ·exact D3_
 ·exact X0_ h _ _ _
theorem f9_ {l:List Ln} {n:Int} (hn:W64 n) (h:∀x∈l,W64 x.hi):W64 (hiMax l n):=by
 unfold hiMax
 have:∀(l:List Int) (a:Int),W64 a→(∀x∈l,W64 x)→W64 (l.foldl max a):=by
  intro l
  induction l with
  | nil=>exact fun a ha _=>ha
  | cons x l ih=>exact fun a ha hl=>ih _ (gm_ ha (hl x (by simp))) fun y hy=>hl y (by simp[hy])
 exact this _ n hn fun x hx=>by obtain⟨y,hy,rfl⟩:=List.mem_map.1 hx;exact h y hy
theorem d6_ {c:Cfg} {t:List Int} {K:CluM} {win:Int} {r:Rep} (hn:CfgNums c) (h:RepOf c t K win r) (hK :(K.sh.length:Int)=c.Shards):RepW r∧r.lines.length≤64:=by
 obtain⟨l,hS,hw,hrj,hp,e1,e2,e3,e4,e5,e6,e7⟩:=h
 have hll:l.length=K.sh.length:=by have:=congrArg List.length hp;simpa [sumsK] using this
 have hsh:=hn.shards;have hok:F4_ l:=⟨fun s hs=>(hS s hs).wf,fun s hs=>(hS s hs).rows,fun s hs=>(hS s hs).len⟩
 have hsm:D7_ l:=fun s hs=>(hS s hs).small
 have hal:=Qb_ (c:=c) (t:=t) hok hsm
 have hsw:∀x∈sortLn (allF c t l),LnW x:=fun x hx=>hal x (Dl_ hx)
 have hlw:∀x∈bLs c t l,LnW x:=fun x hx=>hsw x (List.mem_of_mem_take hx)
 have hom:∀x∈bOm c t l,LnW x:=fun x hx=>hsw x (List.mem_of_mem_drop hx)
 have hkf :(keysF l).length≤768:=by have h1:=Fx_ l;have h2:=G8_ hS;omega
 have htop:=hn.top;refine⟨⟨by rw[e1];exact hw,by rw[e2];exact Gj_ hok,?_,by rw[e5];exact⟨by omega,by omega⟩,?_,by rw[e3];exact hlw,by rw[e7];exact hrj⟩,?_⟩
 ·rw[e4]
  have h1:=Gj_ hok;have h2:=Jr_ (loSum_pos fun x hx=>(hlw x hx).lo.1);unfold bOver subF;unfold W64 at *
  split <;> omega
 ·rw[e6]
  exact f9_ (fc_ hS) fun x hx=>(hom x hx).hi
 ·rw[e3]
  unfold bLs selN;rw[lk_]
  omega
end
section
open Go.RowKit Go.Sort
theorem hr_:Elt 159 164 (.agg #[.slice none 0 0,.int .i64 0,.int .u64 0]) 3 40:=⟨underlying159,by kernel_rfl,rfl,by decide⟩
structure EvsG (lo:Nat) (w:World) (v:Value) (l:List EvR):Prop where
 own:Own evF 3 164 lo w v l
 all:∀x∈l,RdL tagF 2 w x.vt x.tags∧InB lo w.heap.size x.vt∧EvOk x∧∀k,v.ownBlock=some k→NotIn x.vt k
theorem EvsG.nil (lo:Nat) (w:World):EvsG lo w (.slice none 0 0) []:=⟨Own.nil _ _ _ _ _,by simp⟩
theorem EvsG.rd {lo:Nat} {v:Value} {l:List EvR} (h:EvsG lo w v l):Ss_ w v l:=⟨h.own.rd,fun x hx=>(h.all x hx).1⟩
theorem EvsG.kept {lo:Nat} {v:Value} {l:List EvR} {r:Option Nat} (h:EvsG lo w v l) (hg:w.grownBy w' r) (hr:∀k,r=some k→k<lo):EvsG lo w' v l:=by
 refine⟨h.own.kept hg (fun k hk e=>by have:=(h.own.lt k hk).1;have:=hr k e;omega),fun x hx=>?_⟩;obtain⟨h1,h2,h3,h4⟩:=h.all x hx;exact⟨Rd.kept h1 hg fun k e=>h2.notIn (.inl (hr k e)),h2.wide (le_ _) hg.size,h3,h4⟩
theorem EvsG.snoc {lo:Nat} {v v':Value} {l:List EvR} {x:EvR} {n:Nat} (h:EvsG lo w v l) (h1:RdL tagF 2 w x.vt x.tags) (h2:InB n w.heap.size x.vt) (h3:EvOk x) (hn:lo≤n) (hv:∀k,v.ownBlock=some k→k<n)
  (ho:Own evF 3 164 lo w' v' (l++[x])) (hg:w.grownBy w' v.ownBlock) (hL:Lies v v' w.heap.size):EvsG lo w' v' (l++[x]):=by
 have hnew:∀y:EvR,InB lo w.heap.size y.vt→(∀k,v.ownBlock=some k→NotIn y.vt k)→∀k,v'.ownBlock=some k→NotIn y.vt k:=fun y hi hs k hk=>by
  rcases hL with e |⟨m,e1,e2⟩
  ·exact hs k (e▸hk)
  ·rw[e1] at hk;cases hk;exact hi.notIn (.inr e2)
 refine⟨ho,fun y hy=>?_⟩
 rcases ma_ hy with hy|hy
 ·obtain⟨a1,a2,a3,a4⟩:=h.all y hy
  exact⟨Rd.kept a1 hg fun k e=>a4 k e,a2.wide (le_ _) hg.size,a3,hnew y a2 a4⟩
 ·obtain rfl:=ms_ hy
  have a4:∀k,v.ownBlock=some k→NotIn y.vt k:=fun k hk=>h2.notIn (.inl (hv k hk))
  exact⟨Rd.kept h1 hg fun k e=>a4 k e,(h2.wide hn hg.size),h3,hnew y (h2.wide hn (le_ _)) a4⟩
theorem gr_ {a:Option Addr} {n c:Nat} {t wt:Int} {tg:List TagR}:∀u∈evF ⟨.slice a n c,t,wt,tg⟩,u.oneCell'=true:=by
 intro u hu;simp[evF] at hu;rcases hu with rfl|rfl|rfl <;> rfl
def EvsD (B b:Nat) (w:World) (e:Ending) (w':World):Prop:=∃v l,e=.returned v∧EvsG w.heap.size w' v l∧(1≤l.length∧l.length≤4)∧Deck B w' b∧w.grownBy w' (some b)
theorem ay_ {B:Nat} (b:Nat) (t:Int) (w:World) (hd:Deck B w b) (hB:B≤w.heap.size) (ht:0≤t∧t≤549755813888):Calls prog 80 #[.pointer (some ⟨b,0,none⟩),.int .i64 t,.int .i64 3] w (EvsD B b w):=by
 have hbB:=hd.below;have C1:=hh_ (Ba_ b 4 w hd (by omega) (by omega))
 go_enter func80,ntmps80
 go_upto_region 3 with(go_at_call 37;refine C1.out.mono ?_;rintro e w1 ⟨k0,rfl,hk0,hk1,hd1,hg1⟩)
 have HD1:=hh_ hd1;have HG1:=hh_ hg1;clear C1 hd1 hg1 hd
 go_loopw [8,7] (fun s8 s7 wk=>∃(k:Int) (l:List EvR),s8=.int .i64 k∧(-1≤k∧k≤3)∧(l.length:Int)=k0-k∧k≤k0∧EvsG w.heap.size wk s7 l∧Deck B wk b∧w.grownBy wk (some b)) (fun s8 _ _=>(RowKit.intOf s8+1).toNat)
 case atStart=>exact⟨k0,[],rfl,by omega,by simp,by omega,EvsG.nil _ _,HD1.out,HG1.out⟩
 case round=>
  clear HD1 HG1;obtain⟨k,l,rfl,⟨hk2,hk3⟩,hl,hkk,hE,hD,hg⟩:=hrel;have HE:=hh_ hE;have HD:=hh_ hD;have HG:=hh_ hg;have Hl:=hh_ hl
  have hl4:l.length≤4:=by omega
  obtain⟨oa,oc,rfl⟩:=hE.own.shape;clear hE hD hl
  by_cases hge:0≤k
  ·have C2:=hh_ (Ba_ b 60 wr HD.out (by omega) (by omega))
   go_upto_region 4 with(go_at_call 37;refine C2.out.mono ?_;rintro e w2 ⟨r,rfl,hr0,hr1,hd2,hg2⟩)
   have E2:=HE.out.kept hg2 (fun k e=>by cases e;omega);have hz2:=lt_ HG.out.size hg2.size;have HL:=hh_ (fun k hk=>(E2.own.lt k hk).2:∀k,(Value.slice oa l.length oc).ownBlock=some k→k<w2.heap.size);have HE2:=hh_ E2;have HG2:=hh_ (Aa_ HG.out hg2)
   have hb1 :(l.length+1)*40≤140737488355328:=by omega
   have hb2:l.length+1≤9223372036854775807:=by omega
   clear E2 HE HG HD hg2 C2;refine(dr_ b (max (t+r-20) 0) w2 hd2 (by omega) (by omega)).mono ?_;rintro e w3 ⟨x,rfl,hx,hR,hI,hd3,hg3⟩;obtain⟨xv,xt,xw,xg⟩:=x;obtain⟨xa,xc,e1⟩:=hR.shape;dsimp only at e1 hR hI;subst e1;have E3:=HE2.out.kept hg3 (fun k e=>by cases e;omega);have hz3:=lt_ hz2 hg3.size;have HE3:=hh_ E3;have HR:=hh_ hR;have HI:=hh_ hI;have Hx:=hh_ hx;have HG3:=hh_ (Aa_ HG2.out hg3);have HD3:=hh_ hd3;clear E3 hR hI hx hg3 hd3 HE2 HG2
   go_upto_region 4 with(at_builtin;refine Cd_ hr_ Wb_ HE3.out.own ⟨.slice xa xg.length xc,xt,xw,xg⟩ gr_ hb1 hb2 hz3 (by rfl) rfl _ _ (by rfl) (by rfl) (by rfl) ?_;intro v4 w4 o4 g4 l4)
   have E4:=HE3.out.snoc (x:=⟨.slice xa xg.length xc,xt,xw,xg⟩) (n:=w2.heap.size) HR.out HI.out Hx.out hz2 HL.out o4 g4 l4
   have hlo:∀k,(Value.slice oa l.length oc).ownBlock=some k→w.heap.size≤k:=fun k hk=>(HE3.out.own.lt k hk).1
   have D4:=HD3.out.kept g4 (fun k e=>by have:=hlo _ e;omega)
   have G4:w.grownBy w4 (some b):=by
    cases hv :(Value.slice oa l.length oc).ownBlock with
    | none=>rw[hv] at g4;exact Aa_ HG3.out (Ak_ g4 _)
    | some q=>rw[hv] at g4;exact Af_ HG3.out g4 (hlo q hv)
   have HF:=hh_ (And.intro E4 (And.intro D4 G4));clear E4 D4 G4 o4 g4 l4 HE3 HD3 HG3
   go_wp2_with fail
   exact⟨⟨k-1,_,rfl,by omega,by have:=Hl.out;simp;omega,by omega,HF.out.1,HF.out.2.1,HF.out.2.2⟩,by simp[RowKit.intOf];omega⟩
  ·obtain rfl:k=-1:=by omega
   go_wp2_with fail
   go_ret
   exact⟨_,l,rfl,HE.out,by have:=Hl.out;omega,HD.out,HG.out⟩
def dd_ (B b:Nat) (w:World) (e:Ending) (w':World):Prop:=∃v l,e=.returned v∧Own byF 1 5 w.heap.size w' v l∧l.length≤4096∧Deck B w' b∧w.grownBy w' (some b)
theorem Zv_ {B:Nat} (b:Nat) (t:Int) (w:World) (hd:Deck B w b) (hB:B≤w.heap.size) (ht:0≤t∧t≤549755813888):Calls prog 45 #[.pointer (some ⟨b,0,none⟩),.int .i64 t] w (dd_ B b w):=by
 have hbB:=hd.below;have C1:=hh_ (Ba_ b 2 w hd (by omega) (by omega))
 go_enter func45,ntmps45
 go_upto_region 3 with(go_at_call 37;refine C1.out.mono ?_;rintro e w1 ⟨k0,rfl,hk0,hk1,hd1,hg1⟩)
 have HD1:=hh_ hd1;have HG1:=hh_ hg1;clear C1 hd1 hg1 hd
 go_loopw [6,5] (fun s6 s5 wk=>∃(k:Int) (l:List UInt8),s6=.int .i64 k∧(-1≤k∧k≤1)∧(l.length:Int)≤1844*(1-k)∧Own byF 1 5 w.heap.size wk s5 l∧Deck B wk b∧w.grownBy wk (some b)) (fun s6 _ _=>(RowKit.intOf s6+1).toNat)
 case atStart=>exact⟨k0,[],rfl,by omega,by simp;omega,Own.nil _ _ _ _ _,HD1.out,HG1.out⟩
 case round=>
  clear HD1 HG1;obtain⟨k,l,rfl,⟨hk2,hk3⟩,hl,hO,hD,hg⟩:=hrel;have HO:=hh_ hO;have HD:=hh_ hD;have HG:=hh_ hg
  have hl4:l.length≤3688:=by omega
  obtain⟨oa,oc,rfl⟩:=hO.shape;have hzr:=hg.size;clear hO hD
  by_cases hge:0≤k
  ·have C2:=hh_ (ay_ b t wr HD.out (by omega) ht)
   go_upto_region 6 with(first
    |(go_at_call 80;refine C2.out.mono ?_;rintro e w2 ⟨v2,ev,rfl,hev,hel,hd2,hg2⟩;obtain⟨ea,ec,rfl⟩:=hev.own.shape;have C3:=hh_ (Zj_ _ ev w2 hev.rd (fun x hx=>(hev.all x hx).2.2.1) (by omega) (by omega)))
    |(go_at_call 79;refine C3.out.mono ?_;rintro e w3 ⟨v3,rfl,o3,g3⟩;obtain⟨fa,fc,rfl⟩:=o3.shape))
   have hfl:=fg_ (fun x hx=>(hev.all x hx).2.2.1) hel.2;have HO3:=hh_ ((HO.out.kept hg2 (fun q hq e=>by cases e;have:=(HO.out.lt _ hq).1;omega)).same g3);have HR3:=hh_ o3.rd;have HD3:=hh_ (hd2.kept g3 (by simp));have HG3:=hh_ (Aa_ (Aa_ HG.out hg2) (Ak_ g3 _));have hz3:=HG3.out.size;generalize frB ev=F at *
   have hb1 :(l.length+F.length)*1≤140737488355328:=by omega
   have hb2:l.length+F.length≤9223372036854775807:=by omega
   clear C2 C3 hev hd2 hg2 o3 g3 HO HD HG hg
   go_upto_region 4 with(at_builtin;refine app D6_ D9_ HO3.out HR3.out rfl hb1 hb2 hz3 ?_;intro v4 w4 o4 g4 l4)
   have hlo:∀k,(Value.slice oa l.length oc).ownBlock=some k→w.heap.size≤k:=fun k hk=>(HO3.out.lt k hk).1
   have D4:=HD3.out.kept g4 (fun k e=>by have:=hlo _ e;omega)
   have G4:w.grownBy w4 (some b):=by
    cases hv :(Value.slice oa l.length oc).ownBlock with
    | none=>rw[hv] at g4;exact Aa_ HG3.out (Ak_ g4 _)
    | some q=>rw[hv] at g4;exact Af_ HG3.out g4 (hlo q hv)
   have HF:=hh_ (And.intro o4 (And.intro D4 G4));clear D4 G4 o4 g4 l4 HO3 HD3 HG3
   go_wp2_with fail
   exact⟨⟨k-1,_,rfl,by omega,by simp;omega,HF.out.1,HF.out.2.1,HF.out.2.2⟩,by simp[RowKit.intOf];omega⟩
  ·obtain rfl:k=-1:=by omega
   clear hg hge
   by_cases h0:l.length=0
   ·obtain rfl:l=[]:=List.eq_nil_of_length_eq_zero h0
    clear h0
    go_wp2_with fail
    go_ret
    exact⟨_,[],rfl,HO.out,by simp,HD.out,HG.out⟩
   ·have i0 :(0:Int)<(l.length:Int):=by omega
    have H0:=hh_ h0;clear h0;have C2:=hh_ (Ba_ b 12 wr HD.out (by omega) (by omega))
    go_wp2_with fail
    refine C2.out.mono ?_;rintro e w2 ⟨q,rfl,hq0,hq1,hd2,hg2⟩;have HO2:=hh_ (HO.out.kept hg2 (fun k hk e=>by cases e;have:=(HO.out.lt _ hk).1;omega));have HG2:=hh_ (Aa_ HG.out hg2);have HD2:=hh_ hd2;clear HO HG HD hg2 hd2 C2
    by_cases hq:q=1
    ·subst hq
     have C3:=hh_ (Ba_ b l.length w2 HD2.out i0 (by omega))
     go_wp2_with fail
     refine C3.out.mono ?_;rintro e w3 ⟨i,rfl,hi0,hi1,hd3,hg3⟩;obtain⟨i,rfl⟩:=Int.eq_ofNat_of_zero_le hi0;have HO3:=hh_ (HO2.out.kept hg3 (fun k hk e=>by cases e;have:=(HO2.out.lt _ hk).1;omega));have HG3:=hh_ (Aa_ HG2.out hg3);have C4:=hh_ (Ba_ b 256 w3 hd3 (by omega) (by omega));clear HO2 HG2 HD2 hg3 hd3 C3
     go_wp2_with fail
     refine C4.out.mono ?_;rintro e w4 ⟨r,rfl,hr0,hr1,hd4,hg4⟩;obtain⟨r,rfl⟩:=Int.eq_ofNat_of_zero_le hr0;have HO4:=HO3.out.kept hg4 (fun k hk e=>by cases e;have:=(HO3.out.lt _ hk).1;omega);have HG4:=hh_ (Aa_ HG3.out hg4);have HD4:=hh_ hd4
     have hil:i<l.length:=by omega
     obtain⟨gv,cv,hv,hgb,hgv,-,hcx,hfz⟩:=HO4.at_ Bv_ hil
     obtain⟨rfl,-,rfl⟩:oa=some ⟨gv,0,none⟩∧l.length=l.length∧oc=cv:=by simpa only[Value.slice.injEq] using hv
     have c0:=hcx 0 _ rfl;rw[Nat.mul_one,Nat.add_zero] at c0;have hf:=hfz i
     have hwr:IntKind.u8.wrap (r:Int) =(r:Int):=by rw[P4_];omega
     have hst:=HO4.stored Bv_ hil (j:=0) (by omega) (.int .u8 r) (UInt8.ofNat r) (by
      have :((UInt8.ofNat r).toNat:Int) =(r:Int):=by rw[UInt8.toNat_ofNat'];omega
      rw[show byF (UInt8.ofNat r)=[Value.int .u8 ((UInt8.ofNat r).toNat:Int)] from rfl,this];rfl)
     rw[Nat.mul_one,Nat.add_zero] at hst;have HST:=hh_ hst;have HGB:=hh_ hgb;clear hv hcx hfz hst hgb HO3 HO4 C4 hg4 hd4 HG3
     go_wp2_with fail
     go_ret
     refine⟨.slice (some ⟨gv,0,none⟩) l.length oc,l.set i (UInt8.ofNat r),rfl,HST.out.1,by rw[List.length_set];omega,HD4.out.kept HST.out.2 (fun k e=>by cases e;have:=HGB.out;omega),Af_ HG4.out HST.out.2 HGB.out⟩
    ·have f1 :((q:Int)==1)=false:=by simpa using hq
     clear hq
     go_wp2_with fail
     go_ret
     exact⟨_,l,rfl,HO2.out,by omega,HD2.out,HG2.out⟩
end
section
open Go.RowKit Go.Sort
variable {B g bx:Nat} {R:List Nat} {w0 w w':World} {x:OpR} {l l':List UInt8} {e e':Int}
theorem Kq_ (lo hi:Nat) (n c:Nat):InB lo hi (.slice none n c):=fun a n' c' e=>by cases e
end
section
open Go.RowKit Go.Sort
theorem M4_:Elt 61 65 (.agg #[.int .i64 0,.slice none 0 0,.int .i64 0,.int .i64 0,.string ⟨#[]⟩,.slice none 0 0]) 6 88:=⟨underlying61,by kernel_rfl,rfl,by decide⟩
structure OpIn (lo hi:Nat) (o:OpR):Prop where
 vd:InB lo hi o.vd
 vp:InB lo hi o.vp
theorem OpIn.wide {lo hi lo' hi':Nat} {o:OpR} (h:OpIn lo hi o) (h1:lo'≤lo) (h2:hi≤hi'):OpIn lo' hi' o:=⟨h.vd.wide h1 h2,h.vp.wide h1 h2⟩
def OffO (k:Nat) (o:OpR):Prop:=NotIn o.vd k∧NotIn o.vp k
theorem OpIn.off {lo hi k:Nat} {o:OpR} (h:OpIn lo hi o) (hk:k<lo∨hi≤k):OffO k o:=⟨h.vd.notIn hk,h.vp.notIn hk⟩
theorem OpRd.off {o:OpR} {r:Option Nat} (h:OpRd w o) (hg:w.grownBy w' r) (hr:∀k,r=some k→OffO k o):OpRd w' o:=
 ⟨Rd.kept h.data hg fun k e=>(hr k e).1,Rd.kept h.picks hg fun k e=>(hr k e).2,h.dcap,h.pcap⟩
structure OpsG (lo:Nat) (w:World) (v:Value) (l:List OpR):Prop where
 own:Own opF 6 65 lo w v l
 all:∀o∈l,OpRd w o∧OpIn lo w.heap.size o∧∀k,v.ownBlock=some k→OffO k o
theorem OpsG.nil (lo:Nat) (w:World):OpsG lo w (.slice none 0 0) []:=⟨Own.nil _ _ _ _ _,by simp⟩
theorem OpsG.kept {lo:Nat} {v:Value} {l:List OpR} {r:Option Nat} (h:OpsG lo w v l) (hg:w.grownBy w' r) (hr:∀k,r=some k→k<lo):OpsG lo w' v l:=by
 refine⟨h.own.kept hg (fun k hk e=>by have:=(h.own.lt k hk).1;have:=hr k e;omega),fun o ho=>?_⟩;obtain⟨h1,h2,h3⟩:=h.all o ho;exact⟨h1.off hg fun k e=>h2.off (.inl (hr k e)),h2.wide (le_ _) hg.size,h3⟩
theorem OpsG.same {lo:Nat} {v:Value} {l:List OpR} (h:OpsG lo w v l) (hg:w.grownBy w' none):OpsG lo w' v l:=h.kept hg (by simp)
theorem OpsG.base {lo lo':Nat} {v:Value} {l:List OpR} (h:OpsG lo w v l) (hl:lo'≤lo):OpsG lo' w v l:=
 ⟨h.own.base fun k hk=>lt_ hl (h.own.lt k hk).1,fun o ho=>⟨(h.all o ho).1,(h.all o ho).2.1.wide hl (le_ _),(h.all o ho).2.2⟩⟩
theorem OpsG.snoc {lo:Nat} {v v':Value} {l:List OpR} {o:OpR} {n:Nat} (h:OpsG lo w v l) (h1:OpRd w o) (h2:OpIn n w.heap.size o) (hn:lo≤n) (hv:∀k,v.ownBlock=some k→k<n)
  (ho:Own opF 6 65 lo w' v' (l++[o])) (hg:w.grownBy w' v.ownBlock) (hL:Lies v v' w.heap.size):OpsG lo w' v' (l++[o]):=by
 have hnew:∀o,OpIn lo w.heap.size o→(∀k,v.ownBlock=some k→OffO k o)→∀k,v'.ownBlock=some k→OffO k o:=fun o hi hs k hk=>by
  rcases hL with e |⟨m,e1,e2⟩
  ·exact hs k (e▸hk)
  ·rw[e1] at hk;cases hk;exact hi.off (.inr e2)
 refine⟨ho,fun x hx=>?_⟩
 rcases ma_ hx with hx|hx
 ·obtain⟨a1,a2,a4⟩:=h.all x hx
  exact⟨a1.off hg a4,a2.wide (le_ _) hg.size,hnew x a2 a4⟩
 ·obtain rfl:=ms_ hx
  have a4:∀k,v.ownBlock=some k→OffO k x:=fun k hk=>h2.off (.inl (hv k hk))
  exact⟨h1.off hg a4,(h2.wide hn hg.size),hnew x (h2.wide hn (le_ _)) a4⟩
theorem Nj_ {k t s:Int} {y:ByteArray} {da pa:Option Addr} {dn dc pn pc:Nat} {d:List UInt8} {q:List Int}:∀u∈opF ⟨k,.slice da dn dc,t,s,y,.slice pa pn pc,d,q⟩,u.oneCell'=true:=by
 intro u hu;simp[opF] at hu;rcases hu with rfl|rfl|rfl|rfl|rfl|rfl <;> rfl
end
section
open Go.RowKit Go.Sort
attribute [local go_sem ↓] Ag_
attribute [local go_sem] Ah_
section
variable {α:Type} {f:α→List Value} {st e:TypeId} {z:Value} {size bytes:Nat} {w:World} {B:Nat} {v:Value} {l:List α}
variable {o:Oper} {a:Act} {ops:Array Oper} {rest:List Oper} {Q:Exit→Act→World→Prop}
theorem Vt_ (E:Elt st e z size bytes) (hf:∀x,(f x).length=size) (hown:Own f size e B w v l) (y:α) (h1:∀u∈f y,u.oneCell'=true) (hb :(l.length+1)*bytes≤140737488355328) (h63:l.length+1≤9223372036854775807) (hbase:B≤w.heap.size) {te:TypeId} (hcs:cs.toList=f y) {g:Nat} (hg:w.heap.size=g)
  (hgd:o.guard=none) (s x:Operand) (ho:o.op=.call { callee:=.builtin .append,args:=#[s,x],argTypes:=#[st,st] }) (hs:a.eval s=v) (hx:a.eval x=.slice (some ⟨g,0,none⟩) 1 1)
  (h:∀v' w',Own f size e B w' v' (l++[y])→w.grownBy w' v.ownBlock→Lies v v' w.heap.size→wpList prog ops Q rest (a.put o.dst v') w'):wpList prog ops Q (o::rest) a (w.alloc (.cells cs te)):=by
 subst hg;exact Cd_ E hf hown y h1 hb h63 hbase hcs hgd s x ho hs hx h
end
theorem h5_ {α:Type} {f:α→List Value} {size:Nat} {w:World} {g:Nat} (h:Blk w g cs) (hf:∀x,(f x).length=size) (l:List α) (hcs:cs.toList=cellsOf f l) (hl:l.length≤9223372036854775807):RdL f size w (.slice (some ⟨g,0,none⟩) l.length l.length) l:=by
 refine⟨As_ f size hf l,hl,.inr ⟨g,0,l.length,rfl,h.lt,fun j u hu=>?_⟩⟩;rw[Nat.zero_add,h.cell j];rw[←hcs] at hu
 simpa using hu
structure OpsK (B b bc:Nat) (c:Cfg) (w0:World) (v:Value) (l:List OpR) (w:World):Prop where
 deck:Deck B w b
 box:BoxAt w bc c
 ops:OpsG (bc+1) w v l
 ok:∀o∈l,opE o=0
 G:w0.grownBy w (some b)
 lt:b<B∧B≤bc∧w0.heap.size=bc∧bc<w.heap.size
section
variable {B b bc:Nat} {c:Cfg} {w0 w w':World} {v v':Value} {l:List OpR} {o:OpR}
theorem OpsK.next (h:OpsK B b bc c w0 v l w) (hd:Deck B w' b) (hg:w.grownBy w' (some b)):OpsK B b bc c w0 v l w':=by
 obtain⟨h1,h2,h3,h4⟩:=h.lt;have h5:=hg.size;exact⟨hd,h.box.kept hg (by simp;omega),h.ops.kept hg (fun k e=>by cases e;omega),h.ok,Aa_ h.G hg,h1,h2,h3,by omega⟩
theorem OpsK.same (h:OpsK B b bc c w0 v l w) (hg:w.grownBy w' none):OpsK B b bc c w0 v l w':=by
 obtain⟨h1,h2,h3,h4⟩:=h.lt;have h5:=hg.size;exact⟨h.deck.kept hg (by simp),h.box.kept hg (by simp),h.ops.same hg,h.ok,Aa_ h.G (Ak_ hg _),h1,h2,h3,by omega⟩
theorem OpsK.snoc {n:Nat} (h:OpsK B b bc c w0 v l w) (h1:OpRd w o) (h2:OpIn n w.heap.size o) (hn:bc+1≤n) (hv:∀k,v.ownBlock=some k→k<n) (hE:opE o=0)
  (ho:Own opF 6 65 (bc+1) w' v' (l++[o])) (hg:w.grownBy w' v.ownBlock) (hL:Lies v v' w.heap.size):OpsK B b bc c w0 v' (l++[o]) w':=by
 obtain⟨k1,k2,k3,k4⟩:=h.lt;have h5:=hg.size
 have hlo:∀k,v.ownBlock=some k→bc+1≤k:=fun k hk=>(h.ops.own.lt k hk).1
 refine⟨h.deck.kept hg (fun k e=>by have:=hlo _ e;omega),h.box.kept hg (fun e=>by have:=hlo _ e;omega),h.ops.snoc h1 h2 hn hv ho hg hL,fun x hx=>?_,?_,k1,k2,k3,by omega⟩
 ·rcases ma_ hx with hx|hx
  ·exact h.ok x hx
  ·rw[ms_ hx];exact hE
 ·cases hq:v.ownBlock with
  | none=>rw[hq] at hg;exact Aa_ h.G (Ak_ hg _)
  | some q=>rw[hq] at hg;exact Af_ h.G hg (by have:=hlo q hq;omega)
end
theorem V0_ (w:World):RdL byF 1 w (.slice none 0 0) []:=(Own.nil byF 1 5 0 w).rd
theorem Wr_ (w:World):RdL intF 1 w (.slice none 0 0) []:=(Own.nil intF 1 3 0 w).rd
theorem Pj_ (w:World) (k t s:Int) (y:ByteArray):OpRd w ⟨k,.slice none 0 0,t,s,y,.slice none 0 0,[],[]⟩:=⟨V0_ w,Wr_ w,fun a n c e=>by cases e;omega,fun a n c e=>by cases e;omega⟩
theorem P5_ (lo hi:Nat) (k t s:Int) (y:ByteArray):OpIn lo hi ⟨k,.slice none 0 0,t,s,y,.slice none 0 0,[],[]⟩:=⟨Kq_ _ _ _ _,Kq_ _ _ _ _⟩
theorem iv_:opE ⟨4,.slice none 0 0,0,0,⟨#[]⟩,.slice none 0 0,[],[]⟩=0:=by rfl
theorem in_ {s:Int} (h:0≤s∧s<5):opE ⟨3,.slice none 0 0,0,s,⟨#[]⟩,.slice none 0 0,[],[]⟩=0:=by
 rw[Ia_];refine⟨by rfl,by rfl,?_⟩
 simp[rangeB,inR];omega
theorem id_ {t:Int} {y:ByteArray} (h:0≤t∧t≤1099511627776) (hy:y.size≤255):opE ⟨5,.slice none 0 0,t,0,y,.slice none 0 0,[],[]⟩=0:=by
 rw[Ia_];refine⟨by rfl,?_,?_⟩
 ·simp[longB];omega
 ·simp[rangeB,inR];omega
theorem ir_ {v:Value} {d:List UInt8} (h:d.length≤4096):opE ⟨1,v,0,0,⟨#[]⟩,.slice none 0 0,d,[]⟩=0:=by
 rw[Ia_];refine⟨by rfl,?_,by rfl⟩
 simp[longB,ByteArray.size];omega
theorem ie_ {v:Value} {t q r:Int} (h:0≤t∧t≤1099511627776) (hq:0≤q∧q<9) (hr:0≤r∧r<9):opE ⟨2,.slice none 0 0,t,0,⟨#[]⟩,v,[],[q,r]⟩=0:=by
 rw[Ia_];refine⟨by rfl,by rfl,?_⟩
 simp[rangeB,inR];omega
def OpsD (B b:Nat) (n:Int) (w:World) (e:Ending) (w':World):Prop:=∃v L,e=.returned v∧OpsG w.heap.size w' v L∧(∀o∈L,opE o=0)∧(1≤L.length∧(L.length:Int)≤n+1)∧Deck B w' b∧w.grownBy w' (some b)
theorem h0_ {B:Nat} (b:Nat) (c:Cfg) (n:Int) (w:World) (hd:Deck B w b) (hB:B≤w.heap.size) (hn:0≤n∧n≤20) (hL:1≤c.Length∧c.Length≤20):Calls prog 20 #[.pointer (some ⟨b,0,none⟩),c.val,.int .i64 n] w (OpsD B b n w):=by
 have hbB:=hd.below
 go_enter func20,ntmps20
 go_upto_region 1 with(refine At_ rfl _ rfl c rfl ?_;intro w1 B1 G1 z1)
 have hd1:=hd.kept G1 (by simp);have C1:=hh_ (Ba_ b (n+1) w1 hd1 (by omega) (by omega));have HB1:=hh_ B1;have HG1:=hh_ G1;have hz1:=B1.lt;clear B1 G1 hd1 hd
 go_upto_region 4 with(go_at_call 37;refine C1.out.mono ?_;rintro e w2 ⟨k0,rfl,hk0,hk1,hd2,hg2⟩)
 obtain⟨bc,hbc⟩:∃bc,w.heap.size=bc:=⟨_,rfl⟩;have K0:=hh_ (show OpsK B b bc c w (.slice none 0 0) [] w2 from⟨hd2,by rw[←hbc];exact HB1.out.kept hg2 (by simp;omega),OpsG.nil _ _,by simp,Aa_ (Ak_ HG1.out _) hg2,hbB,by omega,hbc,by have:=hg2.size;omega⟩);rw[hbc];have HBC:=hh_ hbc;clear hbc C1 HB1 HG1 hd2 hg2 hz1
 go_loopw [9,7,8] (fun s9 s7 s8 wk=>∃(k:Int) (l:List OpR) (tm:Int),s9=.int .i64 k∧s8=.int .i64 tm∧(-1≤k∧k≤k0)∧(l.length:Int)=k0-k∧(0≤tm∧tm≤40*(k0-k))∧OpsK B b bc c w s7 l wk) (fun s9 _ _ _=>(RowKit.intOf s9+1).toNat)
 case atStart=>exact⟨k0,[],0,rfl,rfl,by omega,by simp,by omega,K0.out⟩
 case round=>
  clear K0;obtain⟨k,l,tm,rfl,rfl,⟨hk2,hk3⟩,hl,⟨ht0,ht1⟩,hK⟩:=hrel;have HK:=hh_ hK;have Hl:=hh_ hl
  have hl4:l.length≤21:=by omega
  obtain⟨oa,oc,rfl⟩:=hK.ops.own.shape;clear hK hl
  have hb1 :(l.length+1)*88≤140737488355328:=by omega
  have hb2:l.length+1≤9223372036854775807:=by omega
  by_cases hge:0≤k
  ·have C2:=hh_ (Ba_ b 10 wr HK.out.deck (by omega) (by omega))
   go_wp2_with fail
   refine C2.out.mono ?_;rintro e w3 ⟨r,rfl,hr0,hr1,hd3,hg3⟩;have HK3:=hh_ (HK.out.next hd3 hg3);clear HK C2 hd3 hg3;have hz3:bc+1≤w3.heap.size:=HK3.out.lt.2.2.2
   by_cases h3:r=3
   ·subst h3
    go_upto_region 5 with(at_builtin;refine Cd_ M4_ Gh_ (HK3).out.ops.own ⟨4,.slice none 0 0,0,0,⟨#[]⟩,.slice none 0 0,[],[]⟩ Nj_ hb1 hb2 hz3 (by rfl) rfl _ _ (by rfl) (by rfl) (by rfl) ?_;intro v4 w4 o4 g4 l4)
    have K5:=(HK3).out.snoc (o:=⟨4,.slice none 0 0,0,0,⟨#[]⟩,.slice none 0 0,[],[]⟩) (n:=w3.heap.size) (Pj_ _ _ _ _ _) (P5_ _ _ _ _ _ _) hz3 (fun k hk=>(HK3.out.ops.own.lt k hk).2) iv_ o4 g4 l4;have HK5:=hh_ K5;clear K5 o4 g4 l4 HK3
    go_wp2_with fail
    exact⟨⟨k-1,_,tm,rfl,rfl,by omega,by have:=Hl.out;simp;omega,by omega,HK5.out⟩,by simp[RowKit.intOf];omega⟩
   have f3 :((r:Int)==3)=false:=by simpa using h3
   by_cases h2:r=2
   ·subst h2
    clear h3 f3;have C3:=hh_ (Ba_ b 5 w3 HK3.out.deck (by omega) (by omega))
    go_wp2_with fail
    refine C3.out.mono ?_;rintro e w5 ⟨q,rfl,hq0,hq1,hd5,hg5⟩;have HK5':=hh_ (HK3.out.next hd5 hg5);have hz5:bc+1≤w5.heap.size:=HK5'.out.lt.2.2.2;clear HK3 C3 hd5 hg5
    go_upto_region 5 with(at_builtin;refine Cd_ M4_ Gh_ (HK5').out.ops.own ⟨3,.slice none 0 0,0,q,⟨#[]⟩,.slice none 0 0,[],[]⟩ Nj_ hb1 hb2 hz5 (by rfl) rfl _ _ (by rfl) (by rfl) (by rfl) ?_;intro v4 w4 o4 g4 l4)
    have K5:=(HK5').out.snoc (o:=⟨3,.slice none 0 0,0,q,⟨#[]⟩,.slice none 0 0,[],[]⟩) (n:=w5.heap.size) (Pj_ _ _ _ _ _) (P5_ _ _ _ _ _ _) hz5 (fun k hk=>(HK5'.out.ops.own.lt k hk).2) (in_ ⟨hq0,hq1⟩) o4 g4 l4;have HK5:=hh_ K5;clear K5 o4 g4 l4 HK5'
    go_wp2_with fail
    exact⟨⟨k-1,_,tm,rfl,rfl,by omega,by have:=Hl.out;simp;omega,by omega,HK5.out⟩,by simp[RowKit.intOf];omega⟩
   have f2 :((r:Int)==2)=false:=by simpa using h2
   by_cases h4:r=4
   ·subst h4
    clear h3 f3 h2 f2;have h34:=HK3.out.lt;have C3:=hh_ (gh_ b w3 HK3.out.deck (by omega))
    go_wp2_with fail
    refine C3.out.mono ?_;rintro e w5 ⟨L,rfl,-,hd5,hg5⟩;have HK5':=hh_ (HK3.out.next hd5 hg5);have C4:=hh_ (Ba_ b 40 w5 hd5 (by omega) (by omega));have hy:=G7_ L;clear HK3 C3 hd5 hg5 h34;generalize keyY L=y at *
    go_wp2_with fail
    refine C4.out.mono ?_;rintro e w6 ⟨q,rfl,hq0,hq1,hd6,hg6⟩;have HK6:=hh_ (HK5'.out.next hd6 hg6);have hz6:bc+1≤w6.heap.size:=HK6.out.lt.2.2.2;clear HK5' C4 hd6 hg6
    go_upto_region 5 with(at_builtin;refine Cd_ M4_ Gh_ (HK6).out.ops.own ⟨5,.slice none 0 0,max (tm+q-10) 0,0,y,.slice none 0 0,[],[]⟩ Nj_ hb1 hb2 hz6 (by rfl) rfl _ _ (by rfl) (by rfl) (by rfl) ?_;intro v4 w4 o4 g4 l4)
    have K5:=(HK6).out.snoc (o:=⟨5,.slice none 0 0,max (tm+q-10) 0,0,y,.slice none 0 0,[],[]⟩) (n:=w6.heap.size) (Pj_ _ _ _ _ _) (P5_ _ _ _ _ _ _) hz6 (fun k hk=>(HK6.out.ops.own.lt k hk).2) (id_ (by omega) hy) o4 g4 l4;have HK5:=hh_ K5;clear K5 o4 g4 l4 HK6
    go_wp2_with fail
    exact⟨⟨k-1,_,tm,rfl,rfl,by omega,by have:=Hl.out;simp;omega,by omega,HK5.out⟩,by simp[RowKit.intOf];omega⟩
   have f4 :((r:Int)==4)=false:=by simpa using h4
   by_cases h01:r=0∨r=1
   ·clear h2 h3 h4 f2 f3 f4
    rcases h01 with rfl|rfl
    all_goals
     have bx:=HK3.out.box.cell;have C3:=hh_ (Ba_ b (2*c.Length) w3 HK3.out.deck (by omega) (by omega))
     go_wp2_with fail
     refine C3.out.mono ?_;rintro e w5 ⟨q,rfl,hq0,hq1,hd5,hg5⟩;have HK5':=hh_ (HK3.out.next hd5 hg5);have C4:=hh_ (Ba_ b 9 w5 hd5 (by omega) (by omega));clear HK3 C3 hd5 hg5 bx
     go_wp2_with fail
     refine C4.out.mono ?_;rintro e w6 ⟨q1,rfl,hq10,hq11,hd6,hg6⟩;have HK6:=hh_ (HK5'.out.next hd6 hg6);have C5:=hh_ (Ba_ b 9 w6 hd6 (by omega) (by omega));clear HK5' C4 hd6 hg6
     go_wp2_with fail
     refine C5.out.mono ?_;rintro e w7 ⟨q2,rfl,hq20,hq21,hd7,hg7⟩;have HK7:=hh_ (HK6.out.next hd7 hg7);clear HK6 C5 hd7 hg7;have G8:=ga_ w7 (.cells #[.int .i64 q1,.int .i64 q2] 3) none;have HK8:=hh_ (HK7.out.same G8);have hz8:bc+1≤(w7.alloc (.cells #[.int .i64 q1,.int .i64 q2] 3)).heap.size:=HK8.out.lt.2.2.2;have hz7:bc+1≤w7.heap.size:=HK7.out.lt.2.2.2;have Hg8:=hh_ (show(w7.alloc (.cells #[.int .i64 q1,.int .i64 q2] 3)).heap.size=w7.heap.size+1 by simp);have HR8:=hh_ (h5_ (f:=intF) (size:=1) (Blk.new w7 #[.int .i64 q1,.int .i64 q2] 3) (fun _=>rfl) [q1,q2] rfl (by simp));have hlt7:=hh_ (fun k hk=>(HK7.out.ops.own.lt k hk).2:∀k,(Value.slice oa l.length oc).ownBlock=some k→k<w7.heap.size);clear G8 HK7
     go_upto_region 5 with(at_builtin;refine Vt_ M4_ Gh_ HK8.out.ops.own ⟨2,.slice none 0 0,tm+q,0,⟨#[]⟩,.slice (some ⟨w7.heap.size,0,none⟩) 2 2,[],[q1,q2]⟩ Nj_ hb1 hb2 hz8 (by rfl) Hg8.out rfl _ _ (by rfl) (by rfl) (by rfl) ?_;intro v4 w4 o4 g4 l4)
     have K5:=(HK8).out.snoc (o:=⟨2,.slice none 0 0,tm+q,0,⟨#[]⟩,.slice (some ⟨w7.heap.size,0,none⟩) 2 2,[],[q1,q2]⟩) (n:=w7.heap.size) ⟨V0_ _,HR8.out,fun a n c e=>by cases e;omega,fun a n c e=>by cases e;omega⟩ ⟨Kq_ _ _ _ _,fun a n c e=>by cases e;rw[Hg8.out];exact⟨le_ _,Nat.lt_succ_self _⟩⟩ hz7 hlt7.out (ie_ (by omega) ⟨hq10,hq11⟩ ⟨hq20,hq21⟩) o4 g4 l4;have HK5:=hh_ K5;clear K5 o4 g4 l4 HK8
     go_wp2_with fail
     exact⟨⟨k-1,_,(tm+q),rfl,rfl,by omega,by have:=Hl.out;simp;omega,by omega,HK5.out⟩,by simp[RowKit.intOf];omega⟩
   ·have f0 :((r:Int)==0)=false:=by simp;omega
    have f1 :((r:Int)==1)=false:=by simp;omega
    clear h01 h2 h3 h4;have h34:=HK3.out.lt;have C3:=hh_ (Zv_ b tm w3 HK3.out.deck (by omega) (by omega))
    go_wp2_with fail
    refine C3.out.mono ?_;rintro e w5 ⟨fv,F,rfl,oF,hF,hd5,hg5⟩;obtain⟨fa,fc,rfl⟩:=oF.shape;have HK5':=hh_ (HK3.out.next hd5 hg5);have hz5:bc+1≤w5.heap.size:=HK5'.out.lt.2.2.2;have HOF:=hh_ oF;have hlt3:=hh_ (fun k hk=>(HK3.out.ops.own.lt k hk).2:∀k,(Value.slice oa l.length oc).ownBlock=some k→k<w3.heap.size);clear HK3 C3 hd5 hg5 oF h34
    go_upto_region 5 with(at_builtin;refine Cd_ M4_ Gh_ (HK5').out.ops.own ⟨1,.slice fa F.length fc,0,0,⟨#[]⟩,.slice none 0 0,F,[]⟩ Nj_ hb1 hb2 hz5 (by rfl) rfl _ _ (by rfl) (by rfl) (by rfl) ?_;intro v4 w4 o4 g4 l4)
    have K5:=(HK5').out.snoc (o:=⟨1,.slice fa F.length fc,0,0,⟨#[]⟩,.slice none 0 0,F,[]⟩) (n:=w3.heap.size) ⟨HOF.out.rd,Wr_ _,fun a n c e=>by cases e;exact HOF.out.cap,fun a n c e=>by cases e;omega⟩ ⟨HOF.out.inB,Kq_ _ _ _ _⟩ hz3 hlt3.out (ir_ hF) o4 g4 l4;have HK5:=hh_ K5;clear K5 o4 g4 l4 HK5'
    go_wp2_with fail
    exact⟨⟨k-1,_,tm,rfl,rfl,by omega,by have:=Hl.out;simp;omega,by omega,HK5.out⟩,by simp[RowKit.intOf];omega⟩
  ·obtain rfl:k=-1:=by omega
   go_wp2_with fail
   go_ret
   have h4:=HK.out.lt;exact⟨_,l,rfl,HK.out.ops.base (by omega),HK.out.ok,by have:=Hl.out;omega,HK.out.deck,HK.out.G⟩
end
section
open Go.RowKit Go.Sort
def opBl (o:OpR):Fp:=fun i=>ownF o.vd i∨ownF o.vp i
def opsFp (v:Value) (L:List OpR):Fp:=fun i=>ownF v i∨∃o∈L,opBl o i
structure OpsQ (w:World) (lo:Nat) (v:Value) (L:List OpR):Prop where
 own:Own opF 6 65 lo w v L
 rd:∀o∈L,OpRd w o
 low:Low w (opsFp v L)
theorem Te_ {lo hi:Nat} {a:Option Addr} {n c:Nat} (h:InB lo hi (.slice a n c)):∀i,ownF (.slice a n c) i→lo≤i∧i<hi:=by
 intro i hi
 cases a with
 | none=>cases hi
 | some ad=>cases hi;exact h _ _ _ rfl
theorem OpRd.shapes {w:World} {o:OpR} (h:OpRd w o) :(∃a c,o.vd=.slice a o.data.length c)∧∃a c,o.vp=.slice a o.picks.length c:=⟨h.data.shape,h.picks.shape⟩
theorem OpsG.q {lo:Nat} {w:World} {v:Value} {L:List OpR} (h:OpsG lo w v L):OpsQ w lo v L∧∀i,opsFp v L i→lo≤i:=by
 have key:∀o∈L,∀i,opBl o i→lo≤i∧i<w.heap.size:=fun o ho i hi=>by
  obtain⟨h1,h2,_⟩:=h.all o ho;obtain⟨⟨a,c,e1⟩,⟨a2,c2,e2⟩⟩:=h1.shapes
  rcases hi with hi|hi
  ·have:=h2.vd;rw[e1] at this hi;exact Te_ this i hi
  ·have:=h2.vp;rw[e2] at this hi;exact Te_ this i hi
 exact⟨⟨h.own,fun o ho=>(h.all o ho).1,fun i hi=>hi.elim (fun e=>(h.own.lt i e).2) fun⟨o,ho,e⟩=>(key o ho i e).2⟩,fun i hi=>hi.elim (fun e=>(h.own.lt i e).1) fun⟨o,ho,e⟩=>(key o ho i e).1⟩
theorem OpRd.offS {w w':World} {o:OpR} {S:Fp} (h:OpRd w o) (k:GrownS S w w') (ho:Off (opBl o) S):OpRd w' o:=
 ⟨h.data.keptS k fun _ a n c e hs=>ho a.block (.inl (by rw[e];rfl)) hs,h.picks.keptS k fun _ a n c e hs=>ho a.block (.inr (by rw[e];rfl)) hs,h.dcap,h.pcap⟩
theorem OpsQ.offS {w w':World} {lo:Nat} {v:Value} {L:List OpR} {S:Fp} (h:OpsQ w lo v L) (k:GrownS S w w') (ho:Off (opsFp v L) S):OpsQ w' lo v L:=
 ⟨h.own.offS k (ho.left fun i hi=>.inl hi),fun o hm=>(h.rd o hm).offS k (ho.left fun i hi=>.inr ⟨o,hm,hi⟩),h.low.up k.size⟩
theorem OpsQ.base {w:World} {lo lo':Nat} {v:Value} {L:List OpR} (h:OpsQ w lo v L) (hl:lo'≤lo):OpsQ w lo' v L:=⟨h.own.base fun k hk=>lt_ hl (h.own.lt k hk).1,h.rd,h.low⟩
structure RpS (w0:World) (c:Cfg) (t:List Int) (vq:Value) (L:List OpR) (w:World) (G:RcG) (K:CluM) (vl:Value) (rs:List Rep):Prop where
 clu:RClu w G c t K
 hi:∀i,G.F i→w0.heap.size≤i
 ops:OpsQ w w0.heap.size vq L
 o0:Off (opsFp vq L) G.F
 out:Lf_ w0.heap.size w vl rs
 o2:Off (La_ vl rs) G.F
 o3:Off (opsFp vq L) (La_ vl rs)
 grown:w0.grownBy w none
section
variable {w0 w w' w'':World} {c:Cfg} {t:List Int} {vq:Value} {L:List OpR} {G G':RcG} {K K':CluM} {vl vl':Value} {rs xs:List Rep}
theorem RpS.mov (h:RpS w0 c t vq L w G K vl rs) (hc:RClu w' G' c t K') (m:Mov G.F G'.F w w'):RpS w0 c t vq L w' G' K' vl rs:=
 ⟨hc,m.above h.grown.size h.hi,h.ops.offS m.grown h.o0,m.off h.ops.low h.o0,h.out.offS m.grown h.o2,m.off h.out.low h.o2,h.o3,Mov.back h.grown m h.hi⟩
theorem RpS.same (h:RpS w0 c t vq L w G K vl rs) (g:w.grownBy w' none):RpS w0 c t vq L w' G K vl rs:=h.mov (h.clu.same g) (Mov.same g)
theorem RpS.cfg {l:List (Int×Int)} (h:RpS w0 c t vq L w G K vl rs) (hn:CfgNums c) (hm:CfgMem c l t w0) (htl:∀i,ownF c.Table i→i<w0.heap.size):CfgW w c t G.F:=
 ⟨hn,hm.table.same h.grown,hm.tlen,fun i hi=>ll_ (htl i hi) h.grown.size,fun i hi hf=>by have:=htl i hi;have:=h.hi i hf;omega⟩
theorem RpS.app (h:RpS w0 c t vq L w' G' K' vl rs) {N:Nat} (hN:∀i,ownF vl i→i<N) (hN0:w0.heap.size≤N) (hx:∀x∈xs,RepRd w' x) (hb:∀x∈xs,∀i,repBl x i→N≤i) (hox:∀x∈xs,Off (repBl x) G'.F) (hops:∀i,opsFp vq L i→i<N)
  (ho:Own repF 7 26 w0.heap.size w'' vl' (rs++xs)) (hg:w'.grownBy w'' vl.ownBlock) (hL:Lies vl vl' w'.heap.size):RpS w0 c t vq L w'' G' K' vl' (rs++xs):=by
 have gS:GrownS (ownF vl) w' w'':=GrownS.of hg fun k hk=>hk
 have hlo:∀i,ownF vl i→w0.heap.size≤i:=fun i hi=>(h.out.own.lt i hi).1
 have hnew:∀i,ownF vl' i→ownF vl i∨w'.heap.size≤i:=fun i hi=>by
  rcases hL with e |⟨m,e1,e2⟩
  ·left;unfold ownF at hi ⊢;rw[←e];exact hi
  ·right;unfold ownF at hi;rw[e1] at hi;cases hi;exact e2
 have hcl:=h.clu.low;have hol:=h.ops.low
 have hxl:∀x∈xs,Low w' (repBl x):=fun x hm=>repK.low (hx x hm)
 refine⟨h.clu.keptS gS (h.o2.symm.right fun i hi=>.inl hi),h.hi,h.ops.offS gS (h.o3.right fun i hi=>.inl hi),h.o0,⟨ho,fun x hm=>?_⟩,fun i hi hf=>?_,fun i hf hi=>?_,?_⟩
 ·rcases ma_ hm with hm|hm
  ·obtain⟨a1,a2,a3⟩:=h.out.all x hm
   refine⟨repK.keep a1 gS fun i hi hs=>a3 i hs hi,a2,fun k hk hi=>?_⟩
   rcases hnew k hk with e|e
   ·exact a3 k e hi
   ·have:=repK.low a1 k hi;omega
  ·refine⟨repK.keep (hx x hm) gS fun i hi hs=>?_,fun i hi=>lt_ hN0 (hb x hm i hi),fun k hk hi=>?_⟩
   ·have:=hN i hs;have:=hb x hm i hi;omega
   ·rcases hnew k hk with e|e
    ·have:=hN k e;have:=hb x hm k hi;omega
    ·have:=hxl x hm k hi;omega
 ·rcases hi with hi |⟨x,hm,hi⟩
  ·rcases hnew i hi with e|e
   ·exact h.o2 i (.inl e) hf
   ·have:=hcl i hf;omega
  ·rcases ma_ hm with hm|hm
   ·exact h.o2 i (.inr ⟨x,hm,hi⟩) hf
   ·exact hox x hm i hi hf
 ·rcases hi with hi |⟨x,hm,hi⟩
  ·rcases hnew i hi with e|e
   ·exact h.o3 i hf (.inl e)
   ·have:=hol i hf;omega
  ·rcases ma_ hm with hm|hm
   ·exact h.o3 i hf (.inr ⟨x,hm,hi⟩)
   ·have:=hb x hm i hi;have:=hops i hf;omega
 ·exact Ju_ h.grown hg fun q hq=>hlo q hq
end
theorem reps_one {w:World} {xs:List Rep} (h:∀x∈xs,RepRd w x):∀u∈cellsOf repF xs,u.oneCell'=true:=by
 intro u hu;obtain⟨x,hx,hu⟩:=List.mem_flatMap.1 hu;obtain⟨a,c,e1⟩:=(h x hx).lines.shape;obtain⟨a2,c2,e2⟩:=(h x hx).rej.shape;simp only[repF,List.mem_cons,List.not_mem_nil,or_false] at hu
 rcases hu with rfl|rfl|rfl|rfl|rfl|rfl|rfl
 ·rfl
 ·rfl
 ·rw[e1];rfl
 ·rfl
 ·rfl
 ·rfl
 ·rw[e2];rfl
section
variable {α:Type} {f:α→List Value} {st e:TypeId} {z:Value} {size bytes N:Nat} {P:List α→Prop} {w:World}
variable {v:Value} {l l2:List α} {A:Option Addr} {m c:Nat}
variable {o:Oper} {a:Act} {ops:Array Oper} {rest:List Oper} {Q:Exit→Act→World→Prop}
theorem Sx_ (E:Elt st e z size bytes) (h1:∀u∈cellsOf f l2,u.oneCell'=true) (hf:∀x,(f x).length=size) (hown:Own f size e N w v l) (hr:RdL f size w (.slice A m c) l2) (hm:m=l2.length) (hb :(l.length+l2.length)*bytes≤140737488355328) (h63:l.length+l2.length≤9223372036854775807) (hbase:N≤w.heap.size)
  (hP:∀T,P T→T.length≤l.length∨T <+: l++l2∨l++l2 <+: T)
  (hgd:o.guard=none) (s x:Operand) (ho:o.op=.call { callee:=.builtin .append,args:=#[s,x],argTypes:=#[st,st] }) (hs:a.eval s=v) (hx:a.eval x=.slice A m c)
  (h:∀v' w',Own f size e N w' v' (l++l2)→KeepR f size e N P v.ownBlock w w'→Lies v v' w.heap.size→wpList prog ops Q rest (a.put o.dst v') w'):wpList prog ops Q (o::rest) a w:=by
 refine wpList_plain hgd fun _ hK=>?_
 subst hm;obtain⟨v',w',hrun,h2,h3,h4⟩:=Hl_ (ty:=o.type) E hown hr h1 (by unfold maxLen;exact h63) hb hbase
 have h2':Own f size e N w' v' (l++l2):=by unfold Own;rw[Ar_,la_];exact h2
 obtain⟨v3,w3,hrun3,_,_,h5⟩:=Gu_ (ty:=o.type) E hown hr h1 (by unfold maxLen;exact h63) hb hbase;rw[hrun] at hrun3;cases hrun3;unfold Oper.wp execOp;simp only[ho,resolve,invoke,builtin,Sem.run_bind,Sem.run_pure,Result.andThen_ok,List.map_toArray,List.map_cons,List.map_nil,hs,hx,hrun];exact hK _ _ (h v' w' h2' ⟨h3,fun T u hp hu=>Fy_ hf E.pos hown h2' h3 h4 (hP T hp) hu⟩ h5)
end
theorem CfgMem.keptS {c:Cfg} {l:List (Int×Int)} {t:List Int} {w w':World} {S:Nat→Prop} (h:CfgMem c l t w) (k:GrownS S w w') (h1:∀a i m,c.Table=.slice (some a) i m→¬S a.block) (h2:0<l.length→∀a i m,c.Classes=.slice (some a) i m→¬S a.block):CfgMem c l t w':=
 ⟨Rd.keptS h.classes k h2,Rd.keptS h.table k fun _=>h1,h.tlen,h.twords⟩
theorem BoxAt.keptS {w w':World} {b:Nat} {c:Cfg} {S:Nat→Prop} (h:BoxAt w b c) (k:GrownS S w w') (hS:¬S b):BoxAt w' b c:=by
 obtain⟨t,f,e,he⟩:=h.block;exact⟨⟨t,f,(k.block b h.lt hS).trans e,he⟩⟩
section
variable {α:Type} {f:α→List Value} {size:Nat} {e:TypeId} {N:Nat} {P:List α→Prop} {r:Option Nat} {b:Nat} {c:Cfg} {w w' w'':World}
structure D2_ (f:α→List Value) (size:Nat) (e:TypeId) (N:Nat) (P:List α→Prop) (r:Option Nat) (b:Nat) (c:Cfg) (w w':World):Prop where
 grown:GrownS (fun i=>r=some i∨i=b) w w'
 own:∀T v,P T→Own f size e N w v T→Own f size e N w' v T
 b1:BoxAt w b c→BoxAt w' b c
 b2 :(∃c0,BoxAt w b c0)→∃c0,BoxAt w' b c0
theorem D2_.refl (f:α→List Value) (size:Nat) (e:TypeId) (N:Nat) (P:List α→Prop) (r:Option Nat) (b:Nat) (c:Cfg) (w:World):D2_ f size e N P r b c w w:=⟨GrownS.refl _ _,fun _ _ _ h=>h,id,id⟩
theorem D2_.trans (h:D2_ f size e N P r b c w w') (k:D2_ f size e N P r b c w' w''):D2_ f size e N P r b c w w'':=⟨h.grown.trans k.grown fun _ h _=>h,fun T v hp ho=>k.own T v hp (h.own T v hp ho),k.b1∘h.b1,k.b2∘h.b2⟩
theorem D2_.ofR (h:KeepR f size e N P r w w') (hr:r≠some b):D2_ f size e N P r b c w w':=
 ⟨GrownS.of h.grown fun k hk=>.inl hk,h.own,fun hb=>hb.kept h.grown hr,fun⟨c0,hb⟩=>⟨c0,hb.kept h.grown hr⟩⟩
theorem D2_.store (hg:w.grownBy w' (some b)) (hb:BoxAt w' b c) (hN:b<N):D2_ f size e N P r b c w w':=
 ⟨GrownS.of hg fun k hk=>.inr (by cases hk;rfl),fun T v _ ho=>ho.kept hg fun k hk e=>by have h1:=(ho.lt k hk).1;cases e;omega,fun _=>hb,fun _=>⟨c,hb⟩⟩
theorem D2_.blk {g:Nat} (h:D2_ f size e N P r b c w w') (hb:Blk w g cs) (hg:r≠some g) (hb':g≠b):Blk w' g cs:=hb.keptS h.grown fun hs=>hs.elim hg hb'
end
theorem RpS.fin {w0 w' w'':World} {c:Cfg} {t:List Int} {vq:Value} {L:List OpR} {G':RcG} {K':CluM} {vl vl':Value} {rs xs:List Rep} (h:RpS w0 c t vq L w' G' K' vl rs) {N b:Nat} (hN:∀i,ownF vl i→i<N) (hN0:w0.heap.size≤N) (hbl:b<w0.heap.size) (hx:∀x∈xs,RepRd w' x) (hb:∀x∈xs,∀i,repBl x i→N≤i) (hox:∀x∈xs,Off (repBl x) G'.F)
  (ho:Own repF 7 26 w0.heap.size w'' vl' (rs++xs)) (gS:GrownS (fun i=>vl.ownBlock=some i∨i=b) w' w'') (hL:Lies vl vl' w'.heap.size):RClu w'' G' c t K'∧Lf_ w0.heap.size w'' vl' (rs++xs)∧Off (La_ vl' (rs++xs)) G'.F:=by
 have hlo:∀i,ownF vl i→w0.heap.size≤i:=fun i hi=>(h.out.own.lt i hi).1
 have hnew:∀i,ownF vl' i→ownF vl i∨w'.heap.size≤i:=fun i hi=>by
  rcases hL with e |⟨m,e1,e2⟩
  ·left;unfold ownF at hi ⊢;rw[←e];exact hi
  ·right;unfold ownF at hi;rw[e1] at hi;cases hi;exact e2
 have hcl:=h.clu.low
 have hxl:∀x∈xs,Low w' (repBl x):=fun x hm=>repK.low (hx x hm)
 refine⟨h.clu.keptS gS fun i hi hs=>hs.elim (fun e=>h.o2 i (.inl e) hi) fun e=>by have:=h.hi i hi;omega,⟨ho,fun x hm=>?_⟩,fun i hi hf=>?_⟩
 ·rcases ma_ hm with hm|hm
  ·obtain⟨a1,a2,a3⟩:=h.out.all x hm
   refine⟨repK.keep a1 gS fun i hi hs=>hs.elim (fun e=>a3 i e hi) fun e=>by have:=a2 i hi;omega,a2,fun k hk hi=>?_⟩
   rcases hnew k hk with e|e
   ·exact a3 k e hi
   ·have:=repK.low a1 k hi;omega
  ·refine⟨repK.keep (hx x hm) gS fun i hi hs=>?_,fun i hi=>lt_ hN0 (hb x hm i hi),fun k hk hi=>?_⟩
   ·have h2:=hb x hm i hi
    rcases hs with e|e
    ·have:=hN i e;omega
    ·omega
   ·rcases hnew k hk with e|e
    ·have:=hN k e;have:=hb x hm k hi;omega
    ·have:=hxl x hm k hi;omega
 ·rcases hi with hi |⟨x,hm,hi⟩
  ·rcases hnew i hi with e|e
   ·exact h.o2 i (.inl e) hf
   ·have:=hcl i hf;omega
  ·rcases ma_ hm with hm|hm
   ·exact h.o2 i (.inr ⟨x,hm,hi⟩) hf
   ·exact hox x hm i hi hf
end
section
open Go.RowKit Go.Sort
attribute [local go_sem ↓] Ag_
attribute [local go_sem] Ah_
def if_ (w:World) (e:Ending) (w':World):Prop:=
 ∃(c:Cfg) (lc:List (Int×Int)) (t:List Int) (K:CluM) (vl vi:Value) (rs:List Rep),e=.returned (.tuple #[c.val,vl,vi])∧CfgNums c∧Nums0 c∧CfgMem c lc t w'∧ClsFit c lc∧Lf_ w.heap.size w' vl rs∧rs.length≤200000000∧Gg_ c t rs∧ReachK c t K∧CluOk c K 5000000∧Own itF 3 41 w.heap.size w' vi K.items∧Off (ownF vi) (La_ vl rs)∧w.grownBy w' none∧(∀i,ownF c.Table i→w.heap.size≤i∧i<w'.heap.size)
theorem V4_ (dv ov:Value) (xs ys:List Int) (n m:Nat) (w:World) (hd:Rd w 1 dv n (xs.map (fun x=>Value.int .i64 x))) (ho:Rd w 1 ov m (ys.map (fun x=>Value.int .i64 x))) :
  Calls prog 7 #[dv,ov] w (if_ w):=by
 have HD:=hh_ hd;have HO:=hh_ ho;obtain⟨da,dc,rfl⟩:=hd.shape;obtain⟨oa,oc,rfl⟩:=ho.shape;clear hd ho
 go_enter func7,ntmps7
 go_upto_region 1 with(refine Dp_ rfl rfl ?_;intro wa B4 Ga za)
 have HD1:=hh_ (Rd.same HD.out Ga);have HO1:=hh_ (Rd.same HO.out Ga);clear HD HO
 go_upto_region 2 with(first
  |(go_at_call 17;refine(he_ _ _ _ _ HD1.out).mono ?_;rintro e w1 ⟨rfl,D1,G1⟩)
  |(go_at_call 18;refine(Xy_ _ _ D1 (le_ _)).mono ?_;rintro e w2 ⟨c,lc,t,rfl,N2,M2,D2,G2,T2,C2,Z2,F2⟩;have oc1:=M2.one1;have oc2:=M2.one2;replace G2:=Af_ G1 G2 (le_ _);have hz12:=G1.size)
  |(refine Dp_ rfl rfl ?_;intro w3 B3 G3 z3)
  |(refine Dh_ rfl _ _ rfl _ rfl c rfl oc1 oc2 Cfg.zero B3 ?_;intro w5 B7 G5))
 have M5:=M2.same (Af_ G3 G5 (le_ _));have hw2:w.heap.size<w2.heap.size:=ll_ za G2.size;have H5:w.grownBy w5 none:=Af_ (Aa_ Ga (Aa_ G2 G3)) G5 (Nat.le_of_lt hw2);have B45:=(B4.same (Aa_ G2 G3)).kept G5 (by simp;omega);have HO5:=hh_ (Rd.same HO1.out (Af_ (Aa_ G2 G3) G5 G2.size))
 have htl:∀i,ownF c.Table i→w.heap.size<i∧i<w5.heap.size:=fun i hi=>⟨by
  obtain⟨a,cp,e⟩:=M2.table.shape;rw[e] at hi
  cases a with
  | none=>cases hi
  | some ad=>cases hi;have:=T2 _ _ _ e;omega,Ps_ M5.table (by rw[M5.tlen];decide) i hi⟩
 have Hcls:=hh_ (show 0<lc.length→∀a i m,c.Classes=.slice (some a) i m→w.heap.size<a.block∧a.block<w5.heap.size from fun h0 a i m e=>⟨by have:=C2 _ _ _ e;omega,M5.classes.blockLt h0 _ _ _ e⟩);have hb7:=B7.lt;clear M2 D1 D2 G1 G2 G3 G5 B3 B4 Ga T2 C2 HD1 HO1 z3 hz12;generalize w2.heap.size=b7 at *;have HN2:=hh_ N2;have HM5:=hh_ M5;have HF2:=hh_ F2;have HZ2:=hh_ Z2;have HH5:=hh_ H5;have HB7:=hh_ B7;have HB45:=hh_ B45;have Htl:=hh_ htl;have CN:=hh_ (f3_ c lc t w5 N2 M5 F2);clear N2 M5 F2 Z2 H5 htl
 go_upto_region 3 with(first |(refine An_ rfl _ rfl _ rfl c B7 ?_) |(go_at_call 19;refine CN.out.mono ?_;rintro e w6 ⟨G,rfl,hC,hi,g6⟩))
 have HCl:=hh_ hC;have Hhi:=hh_ hi;have Hg6:=hh_ g6;have B76:=B7.same g6;have HO6:=hh_ (Rd.same HO5.out g6);have hz56:=g6.size;clear hC hi g6 HO5 B7 B45 CN
 go_upto_region 4 with fail
 have KN:World.grownBy w6 w6.drew none:=gw_;have B7d:=B76.same KN;have HOd:=hh_ (Rd.same HO6.out KN);have HKN:=hh_ KN;clear KN HO6 B76;refine wp_region_any (by kernel_rfl) ?_
 (refine tp_ 5 30 (.int .i64 0) ?_);simp only[List.setIfInBounds_toArray,List.set_cons_zero,List.set_cons_succ]
 (refine Rg.wpAny_rg 3 #[] #[false,false,false,false,false,true] (fun w w'=>World.grownBy w w' none) (fun j _ w v w'=>match j with | 1=>(v=.pointer (some ⟨w.heap.size,0,none⟩)∧Deck w'.heap.size w' w.heap.size)∧World.grownBy w w' none | _=>False) (by kernel_rfl) (by kernel_rfl) rfl (by kernel_rfl) (by simp only[Rg.tailL,List.drop];decide) (fun w=>Ab_ w none) (fun _ _ _ h k=>Aa_ h k) (fun _ _ _ _ _ h=>h) ?_;simp only[List.take,List.drop,Rg.tailL];simp (decide:=true) only[if_true,if_false])
 (refine tq_ 1 ?_;(repeat(go_big_quiet_step (fail)));refine wn_ ?_)
 (refine tc_ ?_;intro x1 mx1 dx1;refine⟨?_,?_⟩;· (unfold Rg.callSpec;go_simp;(refine(he_ _ _ _ _ (Rd.same HOd.out mx1)).mono ?_;rintro e w' ⟨rfl,h1,h2⟩;exact⟨_,rfl,⟨rfl,h1⟩,h2⟩)))
 have hzx1:=mx1.size;clear dx1;rintro v1 y1 ⟨⟨rfl,D1⟩,g1⟩;refine⟨g1,?_⟩;simp only[pt_]
 (refine to_ ?_;intro x2 mx2 dx2)
 clear dx2;have BX:=B7d.same mx2
 go_wp2_with (refine An_ rfl _ rfl _ rfl c BX ?_)
 refine⟨Ab_ _ _,?_⟩;clear BX
 (refine Rg.tree_nil ?_;intro z mz dz cz)
 have Dz:=D1.kept (dz.out 1 (by omega)) (by simp);have hyz:=(dz.out 1 (by omega)).size;have HKz:=hh_ (Aa_ HKN.out mz);have HCz:=hh_ (HCl.out.same HKz.out);have CO:=hh_ (h0_ x1.heap.size c 14 z Dz hyz (by omega) HZ2.out.length);have hxz:w6.heap.size≤x1.heap.size:=lt_ HKN.out.size hzx1;have hxzz:w6.heap.size≤z.heap.size:=HKz.out.size;clear mx1 g1 mx2 mz dz cz D1 Dz HOd B7d hzx1 hyz
 go_upto_region 5 with(go_at_call 20;refine CO.out.mono ?_;rintro e w8 ⟨vq,L,rfl,hO,hE,hLl,hD8,g8⟩;obtain⟨qa,qc,rfl⟩:=hO.own.shape)
 obtain⟨hq1,hq2⟩:=hO.q;have R0:RpS w5 c t (.slice qa L.length qc) L w8 G (newK c.Shards.toNat) (.slice none 0 0) []:=⟨HCz.out.keptS (GrownS.of (S:=fun i=>some x1.heap.size=some i) g8 fun k e=>e) fun i hi e=>by cases e;have:=HCl.out.low _ hi;omega,Hhi.out,hq1.base (lt_ hz56 hxzz),fun i hi hf=>by have:=hq2 i hi;have:=HCl.out.low i hf;omega,By_.nil _ _,fun i hi=>by rcases hi with hi |⟨_,hx,_⟩;exact absurd hi (Ax_ i);simp at hx,fun i _ hi=>by rcases hi with hi |⟨_,hx,_⟩;exact absurd hi (Ax_ i);simp at hx,Af_ (Aa_ Hg6.out HKz.out) g8 (by omega)⟩;have HR0:=hh_ R0;have HE:=hh_ hE
 have hL15:L.length≤15:=by have:=hLl.2;omega
 have hgg:∃g0,G.g=g0:=⟨_,rfl⟩;obtain⟨g0,hg0⟩:=hgg;have Hg0:=hh_ hg0;rw[hg0];clear R0 hq1 hq2 hO hE hLl hD8 g8 CO HCz HKz HKN hxz hxzz hg0 HCl Hhi;clear hz56
 go_loopw [10,30] (fun s10 s30 wk=>∃(k:Nat) (G':RcG) (K':CluM) (rs:List Rep),k≤L.length∧s30=.int .i64 k∧RpS w5 c t (.slice qa L.length qc) L wk G' K' s10 rs∧G'.g=g0∧CluOk c K' (266240*k)∧ReachK c t K'∧Gg_ c t rs∧rs.length≤10000000*k) (fun _ s30 _=>L.length-(RowKit.intOf s30).toNat)
 case atStart=>exact⟨0,G,_,[],zl_ _,rfl,HR0.out,Hg0.out,fn_ HN2.out,.new,fun r hr=>by simp at hr,zl_ _⟩
 case round=>
  clear HR0 Hg0;obtain⟨k,G',K',rs,hk,rfl,hR,hg,hO,hK,hrs,hrl⟩:=hrel
  by_cases hlt:k<L.length
  ·have HR:=hh_ hR
   have HO:=hh_ hO;have HK:=hh_ hK;have Hrs:=hh_ hrs;obtain⟨gq,oq,hv,_,hgq,_,hcq,_⟩:=hR.ops.own.at_ Gh_ hlt;cases hv;have hor:=hR.ops.rd _ (mg_ hlt);have hoe:=HE.out _ (mg_ hlt);have Hc:=hh_ (show ∀j v,(opF (L[k]))[j]?=some v→wr.cell? ⟨gq,k*6+j,none⟩=some v from hcq)
   have hklt :(k:Int)<(L.length:Int):=by omega
   clear hR hO hK hrs hcq;generalize L[k]=o at *;obtain⟨kd,vd,tm,sd,ky,vp,d,q⟩:=o;obtain⟨⟨da',dc',e1⟩,⟨pa,pc,e2⟩⟩:=hor.shapes;dsimp only at *;subst e1 e2;have Hor:=hh_ hor;obtain⟨_,hlong,hrange⟩:=Ia_.1 hoe
   have hdl:d.length≤4096:=by simp[longB] at hlong;omega
   have htm:¬badT tm:=by
    simp only[rangeB,Bool.and_eq_true,de_] at hrange;unfold badT;omega
   have htm2:0≤tm∧tm≤1099511627776:=by unfold badT at htm;omega
   clear hor hoe hlong hrange
   go_upto_region 7 with(first
    |(refine Su_ rfl _ rfl _ _ rfl Hc.out ?_)
    |(refine Zr_ rfl rfl ?_;intro wa' Aa ga za')
    |(refine Yt_ rfl _ _ rfl _ rfl rfl rfl rfl _ rfl Aa ?_;intro wb Ab gb))
   have gab:=Af_ ga gb (le_ _);have ab:=Ab.cell;have HRb:=hh_ (HR.out.same gab);have Hdat:=hh_ (Hor.out.data.same gab)
   have hNk:266240*k+65*d.length≤266240*(k+1):=by omega
   have hNb:266240*k<4000000:=by omega
   clear ga gb gab Aa Ab za' HR Hc Hor;have HCF:=hh_ (HRb.out.cfg HN2.out HM5.out fun i hi=>(Htl.out i hi).2)
   by_cases h1:kd=1
   ·subst h1
    have CF:=aq_ G' c t K' (266240*k) (.slice da' d.length dc') d wb HRb.out.clu HCF.out HO.out Hdat.out (by omega) (by omega);rw[hg] at CF;unfold cu_ at CF;have CF:=hh_ CF
    go_wp2_with (go_at_call 21;refine CF.out.mono ?_;rintro e w9 ⟨G2,vo,rfl,FD⟩)
    have R9:=HRb.out.mov FD.clu FD.mov;have O9:=(aa_ (t:=t) HN2.out HO.out d).up hNk;have K9:=HK.out.feed HO.out.str d;exact⟨⟨k+1,_,_,rs,by omega,by go_num,R9,FD.g.trans hg,O9,K9,Hrs.out,by omega⟩,by simp[RowKit.intOf];omega⟩
   ·have e1 :(kd==1)=false:=bf_ h1
    by_cases h2:kd=2
    ·subst h2
     have CT:=Rb_ G' c t K' (266240*k) tm wb HRb.out.clu HCF.out HO.out (by omega) htm;rw[hg] at CT;unfold TickP at CT;have CT:=hh_ CT;clear e1 h1
     go_upto_region 12 with(go_at_call 22;refine CT.out.mono ?_;rintro e w9 ⟨G2,vw,ws,vo,xs',rfl,TD,TR⟩)
     have R9:=HRb.out.mov TD.clu TD.mov;have HR9:=hh_ R9;have HTD:=hh_ TD
     have hxl:xs'.length≤10000000:=by
      have h1:=TR.1;have h2:=(List.takeWhile_prefix (l:=K'.led.map (·.1)) (fun w=>decide (w<lowV c (max K'.mark tm)))).length_le;have h3:=HO.out.led;rw[List.length_map] at h2;have h4 :(low1 c (max K'.mark tm) (K'.led.map (·.1))).length≤K'.led.length:=h2
      omega
     have HTR:=hh_ (Qg_ (HK.out.mark tm htm2) TR);obtain⟨xa,xc,rfl⟩:=TD.fr.out.own.shape;have hxr:=hh_ (fun x hx=>(TD.fr.out.all x hx).1)
     have hb1 :(rs.length+xs'.length)*88≤140737488355328:=by omega
     have hb2:rs.length+xs'.length≤9223372036854775807:=by omega
     have hbs:w5.heap.size≤w9.heap.size:=R9.grown.size;have HRx:=hh_ TD.fr.out.own.rd;clear TD TR R9 CT
     go_upto_region 13 with(at_builtin;refine g2_ Oz_ (reps_one hxr.out) HR9.out.out.own HRx.out rfl hb1 hb2 hbs (by rfl) _ _ (by rfl) (by rfl) (by rfl) ?_;intro v7 w7 o7 g7 l7)
     have hz:=HRb.out.grown.size;have R7:=HR9.out.app (N:=wb.heap.size) (fun i hi=>HRb.out.out.own.low i hi) hz hxr.out (fun x hx i hi=>(HTD.out.fr.out.all x hx).2.1 i hi) (fun x hx i hi hf=>HTD.out.fr.o2 i (.inr ⟨x,hx,hi⟩) hf) (fun i hi=>HRb.out.ops.low i hi) o7 g7 l7;have HR7:=hh_ R7;have HG2:=hh_ (HTD.out.g.trans hg);have O7:=hh_ ((Rs_ (t:=t) HN2.out.tier.cfg HO.out tm).up (show 266240*k≤266240*(k+1) by omega));have K7:=hh_ (HK.out.tick htm2);clear R7 o7 g7 l7 HRx hxr HR9 HTD
     go_wp2_with fail
     exact⟨⟨k+1,_,_,rs++xs',by omega,by go_num,HR7.out,HG2.out,O7.out,K7.out,Hrs.out.app HTR.out,by rw[la_];omega⟩,by simp[RowKit.intOf];omega⟩
    ·have e2 :(kd==2)=false:=bf_ h2
     clear h1 h2
     go_wp2_with fail
     exact⟨⟨k+1,_,_,rs,by omega,by go_num,HRb.out,hg,HO.out.up (by omega),HK.out,Hrs.out,by omega⟩,by simp[RowKit.intOf];omega⟩
  ·have hkl:k≤15:=by omega
   have hO2:=hO.up (show 266240*k≤4000000 by omega);have HCF:=hh_ (hR.cfg HN2.out HM5.out fun i hi=>(Htl.out i hi).2);have CT:=Rb_ G' c t K' 4000000 1099511627776 wr hR.clu HCF.out hO2 (by omega) (by unfold badT;omega);rw[hg] at CT;unfold TickP at CT;have CT:=hh_ CT;have HR:=hh_ hR;have HO:=hh_ hO2;have HK:=hh_ hK;have Hrs:=hh_ hrs
   have hrl2:rs.length≤150000000:=by omega
   clear hR hO hO2 hK hrs hrl hk
   go_upto_region 15 with(go_at_call 22;refine CT.out.mono ?_;rintro e w9 ⟨G2,vw,ws,vo,xs',rfl,TD,TR⟩)
   have R9:=HR.out.mov TD.clu TD.mov
   have hxl:xs'.length≤10000000:=by
    have h1:=TR.1;have h2:=(List.takeWhile_prefix (l:=K'.led.map (·.1)) (fun w=>decide (w<lowV c (max K'.mark 1099511627776)))).length_le;have h3:=HO.out.led;rw[List.length_map] at h2;have h4 :(low1 c (max K'.mark 1099511627776) (K'.led.map (·.1))).length≤K'.led.length:=h2
    omega
   have HTR:=hh_ (Qg_ (HK.out.mark 1099511627776 (by omega)) TR);have HTD:=hh_ TD;obtain⟨xa,xc,rfl⟩:=TD.fr.out.own.shape
   have hb1 :(rs.length+xs'.length)*88≤140737488355328:=by omega
   have hb2:rs.length+xs'.length≤9223372036854775807:=by omega
   have hg9:=TD.g.trans hg;have KN:World.grownBy w9 w9.drew none:=gw_;have HRd:=hh_ (R9.same KN);have HTz:=hh_ (TD.same KN);have HKN:=hh_ KN;have HB7d:=hh_ (HB7.out.same HRd.out.grown);have hbs:w5.heap.size≤w9.drew.heap.size:=HRd.out.grown.size;obtain⟨r,hr⟩:∃r,u10.ownBlock=r:=⟨_,rfl⟩
   have hr5:∀k,r=some k→w5.heap.size≤k∧k<wr.heap.size:=fun k e=>HR.out.out.own.lt k (hr.trans e)
   have hr7:r≠some b7:=fun e=>by have:=hr5 _ e;omega
   have hrg:r≠some g0:=fun e=>HRd.out.o2 g0 (.inl (hr.trans e)) (by rw[←hg9];exact RcG.F_part (j:=0) (P:=oneF G2.g) rfl G2.g rfl)
   obtain⟨ia,ic,hvi⟩:=HRd.out.clu.core.it.shape;have Hvi:=hh_ hvi;have Hr:=hh_ hr;have HBk:=hh_ HRd.out.clu.blk;clear TD TR R9 CT KN hr hvi
   have hrb:r≠some w.heap.size:=fun e=>by have:=hr5 _ e;omega
   have hgb:g0≠w.heap.size:=fun e=>by have:=HRd.out.hi G2.g (RcG.F_part (j:=0) (P:=oneF G2.g) rfl G2.g rfl);omega
   have hb7b:b7≠w.heap.size:=by omega
   have hbN:w.heap.size<w5.heap.size:=by omega
   have HB4d:=hh_ (HB45.out.same HRd.out.grown)
   (refine Rg.wp_region_rgZ 11 #[] (D2_ repF 7 26 w5.heap.size (fun T=>T=rs∨T=rs++xs') r w.heap.size c) (fun _ _ _ _ _=>False) (by kernel_rfl) (by kernel_rfl) (D2_.refl _ _ _ _ _ _ _ _) (fun _ _ _ h k=>h.trans k) (fun _ _ _ _ _ h=>h) ?_;simp only[List.take,List.drop])
   generalize w9.drew=wd at *
   (refine to_ ?_;intro y0 my0 dy0)
   clear dy0;have BX:=HB7d.out.keptS my0.grown (fun h=>h.elim hr7 hb7b)
   go_wp2_with (refine An_ rfl _ rfl _ rfl c BX ?_)
   refine⟨D2_.refl _ _ _ _ _ _ _ _ _,?_⟩;clear BX
   (refine tq_ 2 ?_;(repeat(go_big_quiet_step (fail)));refine wn_ ?_)
   (refine to_ ?_;intro y3 my3 dy3)
   have O3:=my3.own _ _ (.inl rfl) HRd.out.out.own
   have R3:RdL repF 7 y3 (.slice xa xs'.length xc) xs':=(HTz.out.fr.out.own.keptS my3.grown fun g hg hs=>by
    have h2:=(HTz.out.fr.out.own.lt g hg).1;have h3:=HR.out.grown.size
    rcases hs with e|e
    ·have:=hr5 _ e;omega
    ·omega).rd
   have z3:=my3.grown.size;clear dy3
   go_wp2_with (at_builtin;refine Sx_ (P:=fun T=>T=rs∨T=rs++xs') Oz_ (reps_one fun x hx=>(HTz.out.fr.out.all x hx).1) I2_ O3 R3 rfl hb1 hb2 (lt_ hbs z3) (fun T e=>e.elim (fun e=>.inl (by rw[e];exact le_ _)) (fun e=>.inr (.inl (by rw[e];exact List.prefix_refl _)))) (by rfl) _ _ (by rfl) (by rfl) (by rfl) ?_;intro v3 e3 o3 k3 l3;have Hk3:=hh_ k3;clear k3)
   rw[Hr.out] at Hk3;refine⟨D2_.ofR Hk3.out hrb,?_⟩
   have L3:Lies u10 v3 wd.heap.size:=l3.imp id fun⟨m,e1,e2⟩=>⟨m,e1,lt_ z3 e2⟩
   obtain⟨a3,c3,rfl⟩:=o3.shape
   (refine tq_ 3 ?_;(repeat(go_big_quiet_step (fail)));refine wn_ ?_)
   (refine to_ ?_;intro y7 my7 dy7)
   clear dy7;have bx:=(my7.blk HBk.out (by rw[hg9];exact hrg) (by rw[hg9];exact hgb)).cell;rw[hg9,Hvi.out] at bx
   go_wp2_with fail
   refine⟨D2_.refl _ _ _ _ _ _ _ _ _,?_⟩;clear bx
   (refine to_ ?_;intro y8 my8 dy8)
   clear dy8;obtain⟨c0,B8⟩:=my8.b2 ⟨_,HB4d.out⟩
   go_wp2_with (refine Dh_ rfl _ _ rfl _ rfl c rfl oc1 oc2 c0 B8 ?_;intro e8 B9 G9)
   refine⟨D2_.store G9 B9 hbN,?_⟩
   try simp only[pt_]
   (refine tq_ 2 ?_;(repeat(go_big_quiet_step (fail)));refine wn_ ?_)
   (refine Rg.tree_nil ?_;intro z2 mz2 dz2 cz2)
   have OZ:=(dz2.out 3 (by omega)).own _ _ (.inr rfl) o3;have BZ:=(dz2.out 8 (by omega)).b1 B9;have gS:=mz2.grown;rw[←Hr.out] at gS;obtain⟨CZ,RZ,FZ⟩:=HRd.out.fin (N:=wr.heap.size) (xs:=xs') (fun i hi=>HR.out.out.own.low i hi) HR.out.grown.size hbN (fun x hx=>(HTz.out.fr.out.all x hx).1) (fun x hx i hi=>(HTz.out.fr.out.all x hx).2.1 i hi) (fun x hx i hi hf=>HTz.out.fr.o2 i (.inr ⟨x,hx,hi⟩) hf) OZ gS L3
   have hla :(rs++xs').length=rs.length+xs'.length:=by simp
   rw[hla] at RZ FZ;have HCZ:=hh_ CZ;have HRZ:=hh_ RZ;have HFZ:=hh_ FZ;have HBZ:=hh_ BZ;have HgS:=hh_ gS;clear my0 my3 my7 my8 mz2 dz2 cz2 OZ L3 o3 l3 Hk3 O3 R3 HTz HBk B8 B9 G9 CZ RZ FZ BZ gS
   go_wp2_with fail
   obtain⟨tb,fb,hbl,hba⟩:=HBZ.out.block;have L1:=run_loadVar_row (P:=prog) z2 w.heap.size tb 31 _ fb _ hbl underlying31 rfl Dt_;refine bodyPost_ret (v:=.tuple #[c.val,.slice a3 (rs.length+xs'.length) c3,.slice ia (tickK c t K' 1099511627776).items.length ic]) (by simp[results,results7,asAddr,L1,Cfg.val]) rfl ?_;have hz05:=HH5.out.size;have hz5z:w5.heap.size≤z2.heap.size:=lt_ hbs HgS.out.size
   have hS:∀i,(u10.ownBlock=some i∨i=w.heap.size)→w5.heap.size≤i∨i=w.heap.size:=fun i hs=>hs.imp (fun e=>(HR.out.out.own.lt i e).1) id
   have hIt:=HCZ.out.core.it
   have hvi4:∀i,ownF G2.vi i→w5.heap.size≤i:=fun i hi=>HRd.out.hi i (RcG.F_part (j:=4) (P:=ownF G2.vi) rfl i hi)
   have hItB:=hIt.base (fun k hk=>lt_ hz05 (hvi4 k hk));have hOf:Off (ownF G2.vi) (La_ (.slice a3 (rs.length+xs'.length) c3) (rs++xs')):=HFZ.out.symm.left (RcG.F_part (j:=4) (P:=ownF G2.vi) rfl);rw[Hvi.out] at hItB hOf;refine⟨c,lc,t,_,_,_,rs++xs',rfl,HN2.out,HZ2.out,?_,HF2.out,HRZ.out.base hz05,by rw[hla];omega,Hrs.out.app HTR.out,HK.out.tick (by omega),(Rs_ (t:=t) HN2.out.tier.cfg HO.out _).up (by omega),hItB,hOf,?_,fun i hi=>⟨Nat.le_of_lt (Htl.out i hi).1,by have:=(Htl.out i hi).2;omega⟩⟩
   ·refine CfgMem.keptS ((CfgMem.same HM5.out HRd.out.grown)) HgS.out (fun a i m e hs=>?_) (fun h0 a i m e hs=>?_)
    ·have:=Htl.out a.block (by rw[e];rfl)
     have:=hS _ hs;omega
    ·have:=Hcls.out h0 a i m e
     have:=hS _ hs;omega
   ·exact HgS.out.base (Aa_ HH5.out HRd.out.grown) fun i hs=>by have:=hS i hs;omega
end
section
open Go.RowKit
theorem Xx_ (n:Int) (k:Nat) (hk:k≤62):bits .and .i64 n (2 ^ k-1)=n%2 ^ k:=by
 have h2 :(BitVec.ofInt 64 (2 ^ k-1)).toNat=2 ^ k-1:=by
  have hp :(2:Nat) ^ k≤2 ^ 62:=Nat.pow_le_pow_right (by omega) hk;have h0:0<(2:Nat) ^ k:=Nat.two_pow_pos k;rw[BitVec.toNat_ofInt]
  have e :((2:Int) ^ k-1) =((2 ^ k-1:Nat):Int):=by rw[Int.natCast_sub h0];simp
  rw[e,show((2 ^ 64:Nat):Int)=18446744073709551616 by decide]
  omega
 have key :(BitVec.ofInt 64 n &&& BitVec.ofInt 64 (2 ^ k-1)).toNat =(n%((2 ^ 64:Nat):Int)).toNat%2 ^ k:=by
  rw[BitVec.toNat_and,BitVec.toNat_ofInt,h2,Nat.and_two_pow_sub_one_eq_mod]
 show IntKind.i64.wrap ((BitVec.ofInt 64 n &&& BitVec.ofInt 64 (2 ^ k-1)).toNat:Nat)=n%2 ^ k
 rw[key,IntKind.wrap_i64];have hp :(2:Nat) ^ k≤2 ^ 62:=Nat.pow_le_pow_right (by omega) hk;have h0:0<(2:Nat) ^ k:=Nat.two_pow_pos k
 have hdv :((2:Int) ^ k) ∣ ((2 ^ 64:Nat):Int):=by
  refine⟨2 ^ (64-k),?_⟩;rw[←Int.pow_add,show k+(64-k)=64 by omega];rfl
 have hmm:n%((2 ^ 64:Nat):Int)%2 ^ k=n%2 ^ k:=Int.emod_emod_of_dvd n hdv;have hn:0≤n%((2 ^ 64:Nat):Int):=Int.emod_nonneg _ (by decide)
 have e2 :(((n%((2 ^ 64:Nat):Int)).toNat%2 ^ k:Nat):Int)=n%2 ^ k:=by
  rw[Int.natCast_emod,Int.toNat_of_nonneg hn];rw[←hmm];simp
 rw[e2];have b1:=Int.emod_nonneg n (show(2:Int) ^ k≠0 by have :(0:Int)<2 ^ k:=Int.pow_pos (by omega);omega);have b2:=Int.emod_lt_of_pos n (show(0:Int)<2 ^ k from Int.pow_pos (by omega))
 have b3 :(2:Int) ^ k≤4611686018427387904:=by
  have :(((2:Nat) ^ k:Nat):Int)≤((2 ^ 62:Nat):Int):=Int.ofNat_le.2 hp
  simpa using this
 omega
end
section
open Go.RowKit Go.Sort
def Qr_ (r:Rep) (w:World) (e:Ending) (w':World):Prop:=
 ∃x:Rep,e=.returned (repV x.win x.tot x.vl x.over x.trk x.rest x.vr)∧RepRd w' x∧RepW x∧x.lines.length≤r.lines.length∧x.rej.length=r.rej.length∧w.grownBy w' none
structure SpE4 (r:Rep) (w0:World) (B br rb:Nat) (w:World) (x:Rep):Prop where
 A:Blk w br (repA x.win x.tot x.vl x.over x.trk x.rest x.vr)
 C:Blk w rb rep0
 rd:RepRd w x
 fl:From B x.vl
 jl:0<x.rej.length→∀a n c,x.vr=.slice (some a) n c→a.block<w0.heap.size
 W:RepW x
 G:w0.grownBy w none
 lo:w0.heap.size≤rb
 hi:rb<B
 n3:x.lines.length≤r.lines.length
 nj:x.rej.length=r.rej.length
theorem SpE4.fin {r:Rep} {w0:World} {B br rb:Nat} {x:Rep} (h:SpE4 r w0 B br rb w x) (hg:w.grownBy w' (some rb)):Qr_ r w0 (.returned (repV x.win x.tot x.vl x.over x.trk x.rest x.vr)) w':=
 ⟨x,rfl,⟨h.rd.lines.keptFrom h.fl hg h.hi,h.rd.rej.kept0 hg fun h0 b e a n c hv=>by cases e;have:=h.jl h0 a n c hv;have:=h.lo;omega,h.rd.lcap,h.rd.rcap⟩,h.W,h.n3,h.nj,Af_ h.G hg h.lo⟩
structure Sp4 (w0:World) (B br rb:Nat) (w:World) (x:Rep):Prop where
 A:Blk w br (repA x.win x.tot x.vl x.over x.trk x.rest x.vr)
 C:Blk w rb rep0
 ol:Own lnF 3 46 B w x.vl x.lines
 oj:RdL wordF 1 w x.vr x.rej
 jl:0<x.rej.length→∀a n c,x.vr=.slice (some a) n c→a.block<w0.heap.size
 jc:∀a n c,x.vr=.slice a n c→n≤c
 W:RepW x
 G:w0.grownBy w none
 lb:w0.heap.size≤br
 lo:w0.heap.size≤rb
 hi:rb<B
 hb:br<B
 ne:br≠rb
theorem Sp4.e {r:Rep} {w0:World} {B br rb:Nat} {x:Rep} (h:Sp4 w0 B br rb w x) (n3:x.lines.length≤r.lines.length) (nj:x.rej.length=r.rej.length):SpE4 r w0 B br rb w x:=
 ⟨h.A,h.C,⟨h.ol.rd,h.oj,h.ol.capOk,h.jc⟩,h.ol.from_,h.jl,h.W,h.G,h.lo,h.hi,n3,nj⟩
theorem Sp4.set {w0:World} {B br rb:Nat} {x:Rep} (h:Sp4 w0 B br rb w x) (y:Rep) (i:Nat) (v:Value) (e :(repA x.win x.tot x.vl x.over x.trk x.rest x.vr).setIfInBounds i v=repA y.win y.tot y.vl y.over y.trk y.rest y.vr)
  (ol:Own lnF 3 46 B w y.vl y.lines) (oj:RdL wordF 1 w y.vr y.rej) (jl:0<y.rej.length→∀a n c,y.vr=.slice (some a) n c→a.block<w0.heap.size) (jc:∀a n c,y.vr=.slice a n c→n≤c) (hW:RepW y):Sp4 w0 B br rb (w.setCell ⟨br,i,none⟩ v) y:=by
 have hg:=Ac_ (Ab_ w (some br)) i v;have hb:=h.hb;have hlb:=h.lb;exact⟨h.A.set_ i v e,h.C.kept hg (by simp;exact h.ne),ol.kept hg (fun k hk e=>by cases e;have:=(ol.lt _ hk).1;omega),oj.kept0 hg (fun h0 k e a n c hv=>by cases e;have:=jl h0 a n c hv;omega),jl,jc,hW,Ai_ (p:=⟨br,i,none⟩) h.G h.lb v,h.lb,h.lo,h.hi,h.hb,h.ne⟩
theorem Sp4.drewN {w0:World} {B br rb:Nat} {x:Rep} (h:Sp4 w0 B br rb w x) (k:Nat):Sp4 w0 B br rb (w.drewN k) x:=by
 have g:=Ae_ (Ab_ w none) k;exact⟨h.A.same g,h.C.same g,h.ol.same g,RdL.same h.oj g,h.jl,h.jc,h.W,Ae_ h.G k,h.lb,h.lo,h.hi,h.hb,h.ne⟩
theorem Sp4.line {w0:World} {B br rb:Nat} {x:Rep} (h:Sp4 w0 B br rb w x) {gl n cap:Nat} (hv:x.vl=.slice (some ⟨gl,0,none⟩) n cap) {i j:Nat} (hi:i<x.lines.length) (hj:j<3) (u:Value) (y:Ln) (hy:lnF y =(lnF x.lines[i]).set j u) (hw:LnW y) :
  Sp4 w0 B br rb (w.setCell ⟨gl,i*3+j,none⟩ u) ⟨x.win,x.tot,x.vl,x.over,x.trk,x.rest,x.vr,x.lines.set i y,x.rej⟩:=by
 have ho:=h.ol;rw[hv] at ho;have hl:=ho.lt gl rfl;have hb:=h.hb;have hr:=h.hi;have hlb:=h.lb;obtain⟨st,hg⟩:=ho.stored Ay_ hi hj u y hy;refine⟨h.A.kept hg (by simp;omega),h.C.kept hg (by simp;omega),by rw[hv];exact st,h.oj.kept0 hg (fun h0 k e a n c hv=>by cases e;have:=h.jl h0 a n c hv;omega),h.jl,h.jc,⟨h.W.win,h.W.tot,h.W.over,h.W.trk,h.W.rest,fun z hz=>?_,h.W.rej⟩,Ai_ (p:=⟨gl,i*3+j,none⟩) h.G (by simp only;omega) _,h.lb,h.lo,h.hi,h.hb,h.ne⟩
 rcases List.mem_or_eq_of_mem_set hz with h1|h1
 ·exact h.W.lines z h1
 ·rw[h1];exact hw
theorem wrapW4 (n:Int):W64 (IntKind.u64.wrap n):=by have:=IntKind.wrap_u64 n;unfold W64;rw[this];omega
theorem ha_ {xx:Ln} (x:Ln) (h:x=xx) (k:Int):lnF ⟨xx.key,k,xx.hi⟩ =(lnF x).set 1 (.int .u64 k):=by subst h;rfl
theorem Rh_ (n:Int):I64 (wrap64 n):=by unfold wrap64 I64;omega
theorem ho_ (n k:Int):W64 (bits .and .u64 n k):=wrapW4 _
theorem Xc_ (x:Rep) (at_ n:Int) (w:World) (hR:RepRd w x) (hW:RepW x) (hl:x.lines.length≤100000) :
  Calls prog 10 #[repV x.win x.tot x.vl x.over x.trk x.rest x.vr,.int .i64 at_,.int .u64 n] w (Qr_ x w):=by
 have HR:=hh_ hR;have HW:=hh_ hW;obtain⟨win,tot,vl,over,trk,rest,vr,ls,rj⟩:=x;obtain⟨la,lc,e1⟩:=hR.lines.shape;obtain⟨ja,jc,e2⟩:=hR.rej.shape;dsimp only at *;subst e1 e2;clear hR hW;have ha7:bits .and .i64 at_ 7=at_%8:=Xx_ at_ 3 (by omega);have ha8:bits .and .i64 (at_/8) 7=at_/8%8:=Xx_ _ 3 (by omega)
 go_enter func10,ntmps10
 go_upto_region 1 with fail
 have A1:=(Blk.new w (repA win tot (.slice la ls.length lc) over trk rest (.slice ja rj.length jc)) 26).same (ga_ _ (.cells rep0 26) none);have C1:=Blk.new' (w.alloc (.cells (repA win tot (.slice la ls.length lc) over trk rest (.slice ja rj.length jc)) 26)) rep0 26 (g:=w.heap.size+1) (by simp);have G1:=Ad_ (Ad_ (Ab_ w none) (.cells (repA win tot (.slice la ls.length lc) over trk rest (.slice ja rj.length jc)) 26)) (.cells rep0 26)
 have z1 :((w.alloc (.cells (repA win tot (.slice la ls.length lc) over trk rest (.slice ja rj.length jc)) 26)).alloc (.cells rep0 26)).heap.size=w.heap.size+2:=by simp
 generalize (w.alloc _).alloc _=w1 at *;obtain⟨br,hbr⟩:∃br,w.heap.size=br:=⟨_,rfl⟩;obtain⟨rb,hrb⟩:∃rb,w.heap.size+1=rb:=⟨_,rfl⟩;obtain⟨B,hB⟩:∃B,w1.heap.size=B:=⟨_,rfl⟩;rw[hrb] at C1 ⊢;rw[hbr] at A1 ⊢
 have hbB:br<B:=by omega
 have hrB:rb<B:=by omega
 have hne:br≠rb:=by omega
 have hlo:w.heap.size≤rb:=by omega
 have hlb:w.heap.size≤br:=by omega
 have HB:=hh_ hB;clear hbr hrb z1 hB
 have hml:ls.length*32≤140737488355328:=by omega
 have hml2:ls.length≤9223372036854775807:=by omega
 have R1:=hh_ (RdL.same HR.out.lines G1);have A1b:=A1.same (ga_ w1 (.cells #[] 46) none);have N1:=A0_ (e:=46) lnF 3 (le_ w1.heap.size);have RL:=RdL.same R1.out (ga_ w1 (.cells #[] 46) none);have ab:=A1b.cell;have tok:=hh_ hml
 go_upto_region 2 with(at_builtin;have _t:=tok;refine A5_ J0_ Ki_ N1 RL rfl hml hml2 (by simp) ?_;intro v2 w2 o2 g2 l2;clear tok ab;have A2:=A1b.same g2;have C2:=(C1.same (ga_ w1 (.cells #[] 46) none)).same g2;have K2:=Aa_ (ga_ w1 (.cells #[] 46) none) g2;clear A1b N1 RL g2 l2;have f2:=A2.free;have a2:=A2.cell;obtain⟨la2,lc2,rfl⟩:=o2.shape)
 have o2':Own lnF 3 46 B w2 (.slice la2 ls.length lc2) ls:=HB.out▸o2;have gs:=Ac_ (Ab_ w2 (some br)) 2 (.slice la2 ls.length lc2);have HWo:=HW.out
 have S0:Sp4 w B br rb (w2.setCell ⟨br,2,none⟩ (.slice la2 ls.length lc2)) ⟨win,tot,.slice la2 ls.length lc2,over,trk,rest,.slice ja rj.length jc,ls,rj⟩:=
  ⟨A2.set_ 2 (.slice la2 ls.length lc2) rfl,C2.kept gs (by simp;exact hne),o2'.kept gs (fun k hk e=>by cases e;have:=(o2'.lt _ hk).1;omega),
   (RdL.same HR.out.rej (Aa_ G1 K2)).kept0 gs (fun h0 k e a n' c hv=>by cases e;have:=(HR.out.rej.blockLt h0 _ _ _ hv);omega),fun h0 a n c hv=>HR.out.rej.blockLt h0 a n c hv,HR.out.rcap,⟨HWo.win,HWo.tot,HWo.over,HWo.trk,HWo.rest,HWo.lines,HWo.rej⟩,Ai_ (p:=⟨br,2,none⟩) (Aa_ G1 K2) hlb _,hlb,hlo,hrB,hbB,hne⟩
 generalize w2.setCell ⟨br,2,none⟩ (.slice la2 ls.length lc2)=w5 at *;clear f2 a2 gs A2 C2 o2 o2' A1 C1 K2 HWo R1 G1 HR;obtain⟨r0,hr0⟩:∃r0:Rep,(⟨win,tot,.slice la ls.length lc,over,trk,rest,.slice ja rj.length jc,ls,rj⟩:Rep)=r0:=⟨_,rfl⟩
 have hq1:rj.length=r0.rej.length:=by rw[←hr0]
 have hq2:ls.length≤r0.lines.length:=by rw[←hr0];exact le_ _
 have HW0:=HW.out;have Hr0:=hh_ hr0;have Hq1:=hh_ hq1;clear HW HB hr0 hq1
 go_upto_region 4 with fail
 obtain⟨i,hi⟩:∃i:Nat,at_/8%8=i:=⟨(at_/8%8).toNat,by omega⟩;rw[hi];obtain⟨r,hr⟩:∃r,at_%8=r:=⟨_,rfl⟩;rw[hr]
 have hr8:r=0∨r=1∨r=2∨r=3∨r=4∨r=5∨r=6∨r=7:=by omega
 have hi0 :(0:Int)≤(i:Int):=by omega
 clear ha7 ha8 hi hr;obtain⟨m3,h3⟩:∃q,bits .and .u64 n 3=q:=⟨_,rfl⟩;obtain⟨m6,h6⟩:∃q,bits .and .u64 n 63=q:=⟨_,rfl⟩;have hm6:W64 m6:=h6▸ho_ n 63;have a5:=S0.A.cell;have f5:=S0.A.free
 rcases hr8 with rfl|rfl|rfl|rfl|rfl|rfl|rfl|rfl
 ·go_upto_region 6 with fail
  have S1:=S0.set ⟨win,IntKind.u64.wrap (tot+m3),.slice la2 ls.length lc2,over,trk,rest,.slice ja rj.length jc,ls,rj⟩ 1 (.int .u64 (IntKind.u64.wrap (tot+m3))) rfl S0.ol S0.oj S0.jl S0.jc ⟨HW0.win,wrapW4 _,HW0.over,HW0.trk,HW0.rest,HW0.lines,HW0.rej⟩;have hT:=wrapW4 (tot+m3);generalize w5.setCell ⟨br,1,none⟩ (.int .u64 (IntKind.u64.wrap (tot+m3)))=w6 at *;generalize IntKind.u64.wrap (tot+m3)=T2 at *;clear S0 a5 f5;have a5:=S1.A.cell;have f5:=S1.A.free
  go_upto_region 23 with fail
  have S2:=S1.set ⟨win,T2,.slice la2 ls.length lc2,IntKind.u64.wrap (over+m3),trk,rest,.slice ja rj.length jc,ls,rj⟩ 3 (.int .u64 (IntKind.u64.wrap (over+m3))) rfl S1.ol S1.oj S1.jl S1.jc ⟨HW0.win,hT,wrapW4 _,HW0.trk,HW0.rest,HW0.lines,HW0.rej⟩;have hE:=S2.e (r:=r0) hq2 Hq1.out;generalize w6.setCell ⟨br,3,none⟩ (.int .u64 (IntKind.u64.wrap (over+m3)))=w7 at *;generalize IntKind.u64.wrap (over+m3)=O2 at *;clear S1 S2 a5 f5;have hA:=(hE).A;have hC:=(hE).C;dsimp only at hA hC
  go_wp2_with (first
   |(refine A2_ rfl _ rfl _ rfl hA ?_)
   |(refine A4_ rfl _ _ rfl _ rfl rfl rfl rfl _ rfl hC ?_;intro wz Cz Gz))
  (try simp only[pt_])
  have hF:=(hE).fin Gz;obtain⟨td,hbd⟩:=Cz.blk;have L2:=run_loadVar_row (P:=prog) wz rb td 26 _ _ _ hbd underlying26 rfl (by kernel_rfl);refine bodyPost_ret (v:=repV win T2 (.slice la2 ls.length lc2) O2 trk rest (.slice ja rj.length jc)) (by simp[results,results10,asAddr,L2]) rfl ?_;rw[←Hr0.out] at hF;exact hF
 ·go_upto_region 23 with fail
  have S1:=S0.set ⟨win,tot,.slice la2 ls.length lc2,over,trk,m6,.slice ja rj.length jc,ls,rj⟩ 5 (.int .u64 m6) rfl S0.ol S0.oj S0.jl S0.jc ⟨HW0.win,HW0.tot,HW0.over,HW0.trk,hm6,HW0.lines,HW0.rej⟩;have hE:=S1.e (r:=r0) hq2 Hq1.out;generalize w5.setCell ⟨br,5,none⟩ (.int .u64 m6)=w6 at *;clear S0 S1 a5 f5;have hA:=(hE).A;have hC:=(hE).C;dsimp only at hA hC
  go_wp2_with (first
   |(refine A2_ rfl _ rfl _ rfl hA ?_)
   |(refine A4_ rfl _ _ rfl _ rfl rfl rfl rfl _ rfl hC ?_;intro wz Cz Gz))
  (try simp only[pt_])
  have hF:=(hE).fin Gz;obtain⟨td,hbd⟩:=Cz.blk;have L2:=run_loadVar_row (P:=prog) wz rb td 26 _ _ _ hbd underlying26 rfl (by kernel_rfl);refine bodyPost_ret (v:=repV win tot (.slice la2 ls.length lc2) over trk m6 (.slice ja rj.length jc)) (by simp[results,results10,asAddr,L2]) rfl ?_;rw[←Hr0.out] at hF;exact hF
 ·obtain⟨q3,hq3⟩:∃q,IntKind.i64.wrap m3=q:=⟨_,rfl⟩
  go_upto_region 23 with fail
  have S1:=S0.set ⟨win,tot,.slice la2 ls.length lc2,over,wrap64 (trk+q3),rest,.slice ja rj.length jc,ls,rj⟩ 4 (.int .i64 (wrap64 (trk+q3))) rfl S0.ol S0.oj S0.jl S0.jc ⟨HW0.win,HW0.tot,HW0.over,Rh_ _,HW0.rest,HW0.lines,HW0.rej⟩;have hE:=S1.e (r:=r0) hq2 Hq1.out;generalize w5.setCell ⟨br,4,none⟩ (.int .i64 (wrap64 (trk+q3)))=w6 at *;clear S0 S1 a5 f5;have hA:=(hE).A;have hC:=(hE).C;dsimp only at hA hC
  go_wp2_with (first
   |(refine A2_ rfl _ rfl _ rfl hA ?_)
   |(refine A4_ rfl _ _ rfl _ rfl rfl rfl rfl _ rfl hC ?_;intro wz Cz Gz))
  (try simp only[pt_])
  have hF:=(hE).fin Gz;obtain⟨td,hbd⟩:=Cz.blk;have L2:=run_loadVar_row (P:=prog) wz rb td 26 _ _ _ hbd underlying26 rfl (by kernel_rfl);refine bodyPost_ret (v:=repV win tot (.slice la2 ls.length lc2) over (wrap64 (trk+q3)) rest (.slice ja rj.length jc)) (by simp[results,results10,asAddr,L2]) rfl ?_;rw[←Hr0.out] at hF;exact hF
 ·by_cases hil:i<ls.length
  ·obtain⟨gl,cap',hv',hgB,hgl,hcap,hcx,hfz⟩:=S0.ol.at_ Ay_ hil
   cases hv';have fz:=hfz (i*3+2)
   (try rw[Nat.add_zero] at fz)
   have c0:=hcx 0 _ rfl;have c1:=hcx 1 _ rfl;have c2:=hcx 2 _ rfl;rw[Nat.add_zero] at c0;clear hcx hfz
   have hi1 :(i:Int)<(ls.length:Int):=by omega
   have Hil:=hh_ hil
   go_upto_region 23 with fail
   have S1:=S0.line rfl Hil.out (show 2<3 by omega) (.int .u64 (IntKind.u64.wrap (ls[i].hi+m3))) (⟨ls[i].key,ls[i].lo,IntKind.u64.wrap (ls[i].hi+m3)⟩) rfl ⟨(HW0.lines _ (mg_ Hil.out)).lo,wrapW4 _,(HW0.lines _ (mg_ Hil.out)).key⟩
   (try rw[Nat.add_zero] at S1)
   have hE:=S1.e (r:=r0) (by simp only[List.length_set];exact hq2) Hq1.out;clear S1;generalize w5.setCell ⟨gl,i*3+2,none⟩ (.int .u64 (IntKind.u64.wrap (ls[i].hi+m3)))=w6 at *;clear S0 a5 f5 fz c0 c1 c2;have hA:=(hE).A;have hC:=(hE).C;dsimp only at hA hC
   go_wp2_with (first
    |(refine A2_ rfl _ rfl _ rfl hA ?_)
    |(refine A4_ rfl _ _ rfl _ rfl rfl rfl rfl _ rfl hC ?_;intro wz Cz Gz))
   (try simp only[pt_])
   have hF:=(hE).fin Gz;obtain⟨td,hbd⟩:=Cz.blk;have L2:=run_loadVar_row (P:=prog) wz rb td 26 _ _ _ hbd underlying26 rfl (by kernel_rfl);refine bodyPost_ret (v:=repV win tot (.slice (some ⟨gl,0,none⟩) ls.length lc2) over trk rest (.slice ja rj.length jc)) (by simp[results,results10,asAddr,L2]) rfl ?_;rw[←Hr0.out] at hF;exact hF
  ·have hi1:¬((i:Int)<(ls.length:Int)):=by omega
   clear hil
   go_upto_region 23 with fail
   have hE:=S0.e (r:=r0) hq2 Hq1.out;clear S0 a5 f5;have hA:=(hE).A;have hC:=(hE).C;dsimp only at hA hC
   go_wp2_with (first
    |(refine A2_ rfl _ rfl _ rfl hA ?_)
    |(refine A4_ rfl _ _ rfl _ rfl rfl rfl rfl _ rfl hC ?_;intro wz Cz Gz))
   (try simp only[pt_])
   have hF:=(hE).fin Gz;obtain⟨td,hbd⟩:=Cz.blk;have L2:=run_loadVar_row (P:=prog) wz rb td 26 _ _ _ hbd underlying26 rfl (by kernel_rfl);refine bodyPost_ret (v:=repV win tot (.slice la2 ls.length lc2) over trk rest (.slice ja rj.length jc)) (by simp[results,results10,asAddr,L2]) rfl ?_;rw[←Hr0.out] at hF;exact hF
 ·by_cases hil:i<ls.length
  ·obtain⟨gl,cap',hv',hgB,hgl,hcap,hcx,hfz⟩:=S0.ol.at_ Ay_ hil
   cases hv';have fz:=hfz (i*3+1);have c1':=hcx 1 _ rfl;clear hcx hfz
   have hi1 :(i:Int)<(ls.length:Int):=by omega
   have Hil:=hh_ hil;have hxw':=HW0.lines _ (mg_ hil);obtain⟨xx,hxx,c1,hxw⟩:∃x,ls[i]'hil=x∧w5.cell? ⟨gl,i*3+1,none⟩=some (.int .u64 x.lo)∧LnW x:=⟨_,rfl,c1',hxw'⟩;clear c1' hxw';have Hxx:=hh_ hxx;clear hxx
   by_cases hlo0:0<xx.lo
   ·have e0:decide (0<xx.lo)=true:=dt_ hlo0
    go_upto_region 15 with fail
    have S1:=S0.line rfl Hil.out (show 1<3 by omega) (.int .u64 (IntKind.u64.wrap (xx.lo-1))) ⟨xx.key,IntKind.u64.wrap (xx.lo-1),xx.hi⟩ (ha_ _ Hxx.out _) ⟨wrapW4 _,hxw.hi,hxw.key⟩;generalize w5.setCell ⟨gl,i*3+1,none⟩ (.int .u64 (IntKind.u64.wrap (xx.lo-1)))=w6 at *;generalize hls2:ls.set i ⟨xx.key,IntKind.u64.wrap (xx.lo-1),xx.hi⟩=ls2 at *
    have hl2:ls2.length=ls.length:=by rw[←hls2];simp
    have Hl2:=hh_ hl2;clear S0 a5 f5 fz c1 hl2 hls2;have a5:=S1.A.cell;have f5:=S1.A.free
    go_upto_region 23 with fail
    have S2:=S1.set ⟨win,tot,.slice (some ⟨gl,0,none⟩) ls.length lc2,IntKind.u64.wrap (over+1),trk,rest,.slice ja rj.length jc,ls2,rj⟩ 3 (.int .u64 (IntKind.u64.wrap (over+1))) rfl S1.ol S1.oj S1.jl S1.jc ⟨S1.W.win,S1.W.tot,wrapW4 _,S1.W.trk,S1.W.rest,S1.W.lines,S1.W.rej⟩;have hE:=S2.e (r:=r0) (by have:=Hl2.out;dsimp only;omega) Hq1.out;generalize w6.setCell ⟨br,3,none⟩ (.int .u64 (IntKind.u64.wrap (over+1)))=w7 at *;generalize IntKind.u64.wrap (over+1)=O2 at *;clear S1 S2 a5 f5;have hA:=(hE).A;have hC:=(hE).C;dsimp only at hA hC
    go_wp2_with (first
     |(refine A2_ rfl _ rfl _ rfl hA ?_)
     |(refine A4_ rfl _ _ rfl _ rfl rfl rfl rfl _ rfl hC ?_;intro wz Cz Gz))
    (try simp only[pt_])
    have hF:=(hE).fin Gz;obtain⟨td,hbd⟩:=Cz.blk;have L2:=run_loadVar_row (P:=prog) wz rb td 26 _ _ _ hbd underlying26 rfl (by kernel_rfl);refine bodyPost_ret (v:=repV win tot (.slice (some ⟨gl,0,none⟩) ls.length lc2) O2 trk rest (.slice ja rj.length jc)) (by simp[results,results10,asAddr,L2]) rfl ?_;rw[←Hr0.out] at hF;exact hF
   ·have e0:decide (0<xx.lo)=false:=df_ hlo0
    clear hlo0
    go_upto_region 23 with fail
    have hE:=S0.e (r:=r0) hq2 Hq1.out;clear S0 a5 f5 c1 fz;have hA:=(hE).A;have hC:=(hE).C;dsimp only at hA hC
    go_wp2_with (first
     |(refine A2_ rfl _ rfl _ rfl hA ?_)
     |(refine A4_ rfl _ _ rfl _ rfl rfl rfl rfl _ rfl hC ?_;intro wz Cz Gz))
    (try simp only[pt_])
    have hF:=(hE).fin Gz;obtain⟨td,hbd⟩:=Cz.blk;have L2:=run_loadVar_row (P:=prog) wz rb td 26 _ _ _ hbd underlying26 rfl (by kernel_rfl);refine bodyPost_ret (v:=repV win tot (.slice (some ⟨gl,0,none⟩) ls.length lc2) over trk rest (.slice ja rj.length jc)) (by simp[results,results10,asAddr,L2]) rfl ?_;rw[←Hr0.out] at hF;exact hF
  ·have hi1:¬((i:Int)<(ls.length:Int)):=by omega
   clear hil
   go_upto_region 23 with fail
   have hE:=S0.e (r:=r0) hq2 Hq1.out;clear S0 a5 f5;have hA:=(hE).A;have hC:=(hE).C;dsimp only at hA hC
   go_wp2_with (first
    |(refine A2_ rfl _ rfl _ rfl hA ?_)
    |(refine A4_ rfl _ _ rfl _ rfl rfl rfl rfl _ rfl hC ?_;intro wz Cz Gz))
   (try simp only[pt_])
   have hF:=(hE).fin Gz;obtain⟨td,hbd⟩:=Cz.blk;have L2:=run_loadVar_row (P:=prog) wz rb td 26 _ _ _ hbd underlying26 rfl (by kernel_rfl);refine bodyPost_ret (v:=repV win tot (.slice la2 ls.length lc2) over trk rest (.slice ja rj.length jc)) (by simp[results,results10,asAddr,L2]) rfl ?_;rw[←Hr0.out] at hF;exact hF
 ·by_cases hil:0<ls.length
  ·obtain⟨gl,cap',hv',hgB,hgl,hcap,hcx,hfz⟩:=S0.ol.at_ Ay_ (show ls.length-1<ls.length by omega)
   cases hv';have c1':=hcx 1 _ rfl;have hxw':=HW0.lines _ (mg_ (show ls.length-1<ls.length by omega));obtain⟨xx,c1,hxw⟩:∃x:Ln,w5.cell? ⟨gl,(ls.length-1)*3+1,none⟩=some (.int .u64 x.lo)∧LnW x:=⟨_,c1',hxw'⟩;clear c1' hxw';clear hcx hfz
   have hi1 :(0:Int)<(ls.length:Int):=by omega
   have hI0 :(0:Int)≤(ls.length:Int)-1:=by omega
   have hI1 :(ls.length:Int)-1<(ls.length:Int):=by omega
   have hI2 :((ls.length:Int)-1).toNat=ls.length-1:=by omega
   go_upto_region 17 with fail
   (refine Tail.wp_region_tail_drawn 13 (by kernel_rfl) (by kernel_rfl) ?_;simp only[List.take,List.drop];(repeat(go_big_quiet_step (fail)));refine wn_ ?_;rintro _ ⟨nq,rfl⟩)
   have S1:=(S0.drewN nq).set ⟨win,tot,.slice (some ⟨gl,0,none⟩) ls.length lc2,IntKind.u64.wrap (over+xx.lo),trk,rest,.slice ja rj.length jc,ls,rj⟩ 3 (.int .u64 (IntKind.u64.wrap (over+xx.lo))) rfl (S0.drewN nq).ol (S0.drewN nq).oj S0.jl S0.jc ⟨HW0.win,HW0.tot,wrapW4 _,HW0.trk,HW0.rest,HW0.lines,HW0.rej⟩
   go_upto_region 18 with fail
   generalize (w5.drewN nq).setCell ⟨br,3,none⟩ (.int .u64 (IntKind.u64.wrap (over+xx.lo)))=w6 at *;generalize IntKind.u64.wrap (over+xx.lo)=ov at *;clear S0 a5 f5 c1;have a6:=S1.A.cell;have f6:=S1.A.free;have hcap2:ls.length≤lc2:=hcap
   have hI3 :(ls.length:Int)-1≤(lc2:Int):=by omega
   go_upto_region 23 with fail
   have hlt2 :(ls.take (ls.length-1)).length=ls.length-1:=by simp
   have Rl:RdL lnF 3 w6 (.slice (some ⟨gl,0,none⟩) (ls.length-1) lc2) (ls.take (ls.length-1)):=S1.ol.rd.take Ay_ (by dsimp only;omega) lc2
   have Fl:From B (.slice (some ⟨gl,0,none⟩) (ls.length-1) lc2):=fun a n c e=>by cases e;exact hgB
   have gs:=Ac_ (Ab_ w6 (some br)) 2 (.slice (some ⟨gl,0,none⟩) (ls.length-1) lc2)
   have hE:SpE4 r0 w B br rb (w6.setCell ⟨br,2,none⟩ (.slice (some ⟨gl,0,none⟩) (ls.length-1) lc2)) ⟨win,tot,.slice (some ⟨gl,0,none⟩) (ls.length-1) lc2,ov,trk,rest,.slice ja rj.length jc,ls.take (ls.length-1),rj⟩:=
    ⟨S1.A.set_ 2 _ rfl,S1.C.kept gs (by simp;exact hne),⟨Rl.keptFrom Fl gs hbB,S1.oj.kept0 gs (fun h0 k e a n c hv=>by cases e;have:=S1.jl h0 a n c hv;omega),fun a n c e=>by cases e;omega,S1.jc⟩,Fl,S1.jl,
     ⟨S1.W.win,S1.W.tot,S1.W.over,S1.W.trk,S1.W.rest,fun z hz=>HW0.lines z (List.mem_of_mem_take hz),HW0.rej⟩,
     Ai_ (p:=⟨br,2,none⟩) S1.G hlb _,hlo,hrB,by dsimp only;rw[hlt2];omega,Hq1.out⟩
   generalize w6.setCell ⟨br,2,none⟩ (.slice (some ⟨gl,0,none⟩) (ls.length-1) lc2)=w7 at *;clear S1 a6 f6 Rl Fl gs hI2 hlt2;have hA:=(hE).A;have hC:=(hE).C;dsimp only at hA hC
   go_wp2_with (first
    |(refine A2_ rfl _ rfl _ rfl hA ?_)
    |(refine A4_ rfl _ _ rfl _ rfl rfl rfl rfl _ rfl hC ?_;intro wz Cz Gz))
   (try simp only[pt_])
   have hF:=(hE).fin Gz;obtain⟨td,hbd⟩:=Cz.blk;have L2:=run_loadVar_row (P:=prog) wz rb td 26 _ _ _ hbd underlying26 rfl (by kernel_rfl);refine bodyPost_ret (v:=repV win tot (.slice (some ⟨gl,0,none⟩) (ls.length-1) lc2) ov trk rest (.slice ja rj.length jc)) (by simp[results,results10,asAddr,L2]) rfl ?_;rw[←Hr0.out] at hF;exact hF
  ·have hi1:¬((0:Int)<(ls.length:Int)):=by omega
   clear hil
   go_upto_region 23 with fail
   have hE:=S0.e (r:=r0) hq2 Hq1.out;clear S0 a5 f5;have hA:=(hE).A;have hC:=(hE).C;dsimp only at hA hC
   go_wp2_with (first
    |(refine A2_ rfl _ rfl _ rfl hA ?_)
    |(refine A4_ rfl _ _ rfl _ rfl rfl rfl rfl _ rfl hC ?_;intro wz Cz Gz))
   (try simp only[pt_])
   have hF:=(hE).fin Gz;obtain⟨td,hbd⟩:=Cz.blk;have L2:=run_loadVar_row (P:=prog) wz rb td 26 _ _ _ hbd underlying26 rfl (by kernel_rfl);refine bodyPost_ret (v:=repV win tot (.slice la2 ls.length lc2) over trk rest (.slice ja rj.length jc)) (by simp[results,results10,asAddr,L2]) rfl ?_;rw[←Hr0.out] at hF;exact hF
 ·by_cases hil:i<ls.length
  ·obtain⟨gl,cap',hv',hgB,hgl,hcap,hcx,hfz⟩:=S0.ol.at_ Ay_ hil
   cases hv';have fz:=hfz (i*3+0)
   (try rw[Nat.add_zero] at fz)
   have c0:=hcx 0 _ rfl;have c1:=hcx 1 _ rfl;have c2:=hcx 2 _ rfl;rw[Nat.add_zero] at c0;clear hcx hfz
   have hi1 :(i:Int)<(ls.length:Int):=by omega
   have Hil:=hh_ hil
   go_upto_region 23 with fail
   have S1:=S0.line rfl Hil.out (show 0<3 by omega) (.string ⟨#[120]⟩) (⟨⟨#[120]⟩,ls[i].lo,ls[i].hi⟩) rfl ⟨(HW0.lines _ (mg_ Hil.out)).lo,(HW0.lines _ (mg_ Hil.out)).hi,(by show(1:Nat)≤_;omega)⟩
   (try rw[Nat.add_zero] at S1)
   have hE:=S1.e (r:=r0) (by simp only[List.length_set];exact hq2) Hq1.out;clear S1;generalize w5.setCell ⟨gl,i*3,none⟩ (.string ⟨#[120]⟩)=w6 at *;clear S0 a5 f5 fz c0 c1 c2;have hA:=(hE).A;have hC:=(hE).C;dsimp only at hA hC
   go_wp2_with (first
    |(refine A2_ rfl _ rfl _ rfl hA ?_)
    |(refine A4_ rfl _ _ rfl _ rfl rfl rfl rfl _ rfl hC ?_;intro wz Cz Gz))
   (try simp only[pt_])
   have hF:=(hE).fin Gz;obtain⟨td,hbd⟩:=Cz.blk;have L2:=run_loadVar_row (P:=prog) wz rb td 26 _ _ _ hbd underlying26 rfl (by kernel_rfl);refine bodyPost_ret (v:=repV win tot (.slice (some ⟨gl,0,none⟩) ls.length lc2) over trk rest (.slice ja rj.length jc)) (by simp[results,results10,asAddr,L2]) rfl ?_;rw[←Hr0.out] at hF;exact hF
  ·have hi1:¬((i:Int)<(ls.length:Int)):=by omega
   clear hil
   go_upto_region 23 with fail
   have hE:=S0.e (r:=r0) hq2 Hq1.out;clear S0 a5 f5;have hA:=(hE).A;have hC:=(hE).C;dsimp only at hA hC
   go_wp2_with (first
    |(refine A2_ rfl _ rfl _ rfl hA ?_)
    |(refine A4_ rfl _ _ rfl _ rfl rfl rfl rfl _ rfl hC ?_;intro wz Cz Gz))
   (try simp only[pt_])
   have hF:=(hE).fin Gz;obtain⟨td,hbd⟩:=Cz.blk;have L2:=run_loadVar_row (P:=prog) wz rb td 26 _ _ _ hbd underlying26 rfl (by kernel_rfl);refine bodyPost_ret (v:=repV win tot (.slice la2 ls.length lc2) over trk rest (.slice ja rj.length jc)) (by simp[results,results10,asAddr,L2]) rfl ?_;rw[←Hr0.out] at hF;exact hF
 ·obtain⟨q3,hq3⟩:∃q,IntKind.i64.wrap m3=q:=⟨_,rfl⟩
  go_upto_region 23 with fail
  have S1:=S0.set ⟨wrap64 (win+q3),tot,.slice la2 ls.length lc2,over,trk,rest,.slice ja rj.length jc,ls,rj⟩ 0 (.int .i64 (wrap64 (win+q3))) rfl S0.ol S0.oj S0.jl S0.jc ⟨Rh_ _,HW0.tot,HW0.over,HW0.trk,HW0.rest,HW0.lines,HW0.rej⟩;have hE:=S1.e (r:=r0) hq2 Hq1.out;generalize w5.setCell ⟨br,0,none⟩ (.int .i64 (wrap64 (win+q3)))=w6 at *;clear S0 S1 a5 f5;have hA:=(hE).A;have hC:=(hE).C;dsimp only at hA hC
  go_wp2_with (first
   |(refine A2_ rfl _ rfl _ rfl hA ?_)
   |(refine A4_ rfl _ _ rfl _ rfl rfl rfl rfl _ rfl hC ?_;intro wz Cz Gz))
  (try simp only[pt_])
  have hF:=(hE).fin Gz;obtain⟨td,hbd⟩:=Cz.blk;have L2:=run_loadVar_row (P:=prog) wz rb td 26 _ _ _ hbd underlying26 rfl (by kernel_rfl);refine bodyPost_ret (v:=repV (wrap64 (win+q3)) tot (.slice la2 ls.length lc2) over trk rest (.slice ja rj.length jc)) (by simp[results,results10,asAddr,L2]) rfl ?_;rw[←Hr0.out] at hF;exact hF
def kA:ByteArray:=⟨#[1,97,0]⟩
def kB:ByteArray:=⟨#[1,98,0]⟩
def tA:TagR:=⟨⟨#[97]⟩,⟨#[]⟩⟩
def tB:TagR:=⟨⟨#[98]⟩,⟨#[]⟩⟩
theorem V6_:keyE [tA]=0:=by decide
theorem co_:keyE [tB]=0:=by decide
theorem hk_:keyY [tA]=kA:=by unfold keyY;rw[if_pos V6_];rfl
theorem ik_:keyY [tB]=kB:=by unfold keyY;rw[if_pos co_];rfl
theorem dv_:splitE kA=0:=by
 refine(F1_ (L:=[tA]) (by decide) ?_ V6_ hk_).1
 show splitP [1,97,0]=_
 rw[Gv_ (t:=tA) (s:=[]) (by simp) rfl,Gl_];rfl
def awk34C:Cfg:=⟨10,0,1,0,0,0,1,4,0,0,0,0,1,0,.slice none 0 0,.slice none 0 0,0⟩
def Cf_ (vl vr:Value):Rep:=⟨0,7,vl,2,2,2,vr,[⟨kA,5,5⟩],[0,0,0,0,0,0,0]⟩
theorem W2_ (vl vr:Value):repErr (Cf_ vl vr)=0:=by rfl
theorem Tg_ (vl vr:Value):audBad awk34C (Cf_ vl vr)=false:=by rfl
theorem H7_ (vl vr:Value):auditE awk34C (Cf_ vl vr)=0:=by
 unfold auditE;rw[W2_,if_neg (by simp),Tg_,if_neg (by simp),if_neg]
 show ¬([⟨kA,5,5⟩]:List Ln).any (lineBad 1)=true
 simp[lineBad,dv_]
def itA:ItR:=⟨kA,3,5⟩
def itB:ItR:=⟨kB,4,2⟩
def itC:ItR:=⟨kA,5,1⟩
theorem bt_:cntL awk34C 0 [itA,itB]=[([1,97,0],5),([1,98,0],2)]:=by rfl
theorem Zi_:cntL awk34C 0 [itA,itB,itC]=[([1,97,0],6),([1,98,0],2)]:=by rfl
theorem db_ {c:Cfg} {r:Rep} {l:List ItR} {L:List KW} (hL:cntL c r.win l=L) (h:auditE c r=0):agE c r l=if (agT L).2=false∨(agT L).1≠r.tot then 13
 else if r.lines.any (lineOff L)=true then 13
 else if (delAll L (keysN r.lines)).any (fun p=>decide (r.rest<p.2))=true then 13 else 0:=by
 subst hL;unfold agE;rw[if_neg (by omega)]
theorem Wv_ (vl vr:Value):agE awk34C (Cf_ vl vr) [itA,itB]=0:=by
 rw[db_ (r:=Cf_ vl vr) bt_ (H7_ vl vr)]
 rfl
theorem Th_ (vl vr:Value):agE awk34C (Cf_ vl vr) [itA,itB,itC]=13:=by
 rw[db_ (r:=Cf_ vl vr) Zi_ (H7_ vl vr)]
 rfl
theorem Oo_ (vl vr:Value):RepW (Cf_ vl vr):=by
 refine⟨by unfold I64 Cf_;simp,by unfold W64 Cf_;simp,by unfold W64 Cf_;simp,by unfold I64 Cf_;simp,by unfold W64 Cf_;simp,fun x hx=>?_,fun n hn=>?_⟩
 ·simp only[Cf_,List.mem_singleton] at hx
  subst hx;exact⟨by unfold W64;simp,by unfold W64;simp,by show(3:Nat)≤_;omega⟩
 ·simp only[Cf_,List.mem_cons,List.not_mem_nil,or_false,or_self] at hn
  subst hn;unfold W64;simp
theorem T1_:∀x∈[itA,itB,itC],ItW x:=by
 intro x hx;simp only[List.mem_cons,List.not_mem_nil,or_false] at hx
 rcases hx with rfl|rfl|rfl
 ·exact⟨by show(-9223372036854775808:Int)≤3∧(3:Int)≤_;omega,by show W64 5;unfold W64;omega,by show(3:Nat)≤_;omega⟩
 ·exact⟨by show(-9223372036854775808:Int)≤4∧(4:Int)≤_;omega,by show W64 2;unfold W64;omega,by show(3:Nat)≤_;omega⟩
 ·exact⟨by show(-9223372036854775808:Int)≤5∧(5:Int)≤_;omega,by show W64 1;unfold W64;omega,by show(3:Nat)≤_;omega⟩
theorem cz_ {t:TagR} (h:t.name.size=1∧t.value.size=0):TagW t:=⟨by omega,by omega⟩
theorem Blk.many {α:Type} {f:α→List Value} {size:Nat} {g:Nat} (h:Blk w g cs) (hf:∀x,(f x).length=size) (l:List α) (hcs:cs.toList=cellsOf f l) (hl:l.length≤9223372036854775807):RdL f size w (.slice (some ⟨g,0,none⟩) l.length l.length) l:=by
 refine⟨As_ f size hf l,hl,.inr ⟨g,0,l.length,rfl,h.lt,fun j u hu=>?_⟩⟩;rw[Nat.zero_add,h.cell j];rw[←hcs] at hu
 simpa using hu
end
end Go.Proofs.YtckmgjmeanloaaaGreat
