/- Several texts in one file: contracts of functions of the given program, and plain laws, for the proof of a statement. -/
import Derived.Test.YtckmgjmeanloaaaGreatBsak
import Derived.Test.YtckmgjmeanloaaaGreatBsaj
import Derived.Test.YtckmgjmeanloaaaGreatBsab
import Derived.Deep.RegionWith
import Derived.Lib.MinMax
import Derived.Test.YtckmgjmeanloaaaGreatBsad
import Derived.Test.YtckmgjmeanloaaaGreatBsae
import Derived.Test.YtckmgjmeanloaaaGreatBsai
import Derived.Test.YtckmgjmeanloaaaGreatBsah
import Derived.Test.YtckmgjmeanloaaaGreatBsaa
set_option maxHeartbeats 8000000
set_option maxRecDepth 100000
namespace Go.Proofs.YtckmgjmeanloaaaGreat
section
open Go.RowKit
attribute [local go_sem ↓] Ag_
attribute [local go_sem] Ah_
theorem Yd_ (c:Cfg) (t:List Int) (lv:Value) (l:List Summ) (w:World) (h:RCfg w c t) (hl:Cj_ w lv l) (hs:Dr_ l) :
  Calls Tryz.prog 129 #[c.val,lv] w (RetInt (mergeErr c l) w):=by
 obtain⟨la,lc,rfl⟩:=hl.rd.shape;have H:=hh_ h;have HL:=hh_ hl;have Hs:=hh_ hs;have hlm:=hl.rd.2.1
 have h11 :(l.length:Int)≠c.Shards→mergeErr c l=11:=fun h=>by unfold mergeErr;rw[if_pos h]
 have hme :(l.length:Int)=c.Shards→mergeErr c l=if Dx_ c l≠0 then Dx_ c l else if 9223372036854775808<totalF l then 12 else 0:=fun h=>by unfold mergeErr;rw[if_neg (fun e=>e h)]
 have H11:=hh_ h11;have Hme:=hh_ hme
 have Ht:=hh_ fun w' (hg:w.grownBy w' none)=>N5_ _ l w' (hl.same hg)
 clear h hl hs h11 hme;generalize mergeErr c l=ME at *
 go_enter Tryz.func129,Tryz.ntmps129
 go_upto_region 1 with(refine As_ rfl _ rfl c rfl ?_;intro w1 B1 G1 z1)
 go_wp2_with (first |(refine Al_ rfl _ rfl _ rfl c (by assumption) ?_) |(go_at_call 110;refine(Eq_ c t _ (H.out.same G1)).mono ?_;rintro e w2 ⟨rfl,G2⟩;have BC:=B1.same G2;have bc:=BC.cell))
 ·go_ret
  exact Ai_ (H11.out (bne_iff_ne.1 (by assumption))) (Aa_ G1 G2)
 have h18 :((l.length:Int) != c.Shards)=false:=by assumption
 have HM:=hh_ (Hme.out (bne_eq_false_iff_eq.1 h18));rw[h18]
 rename_i h19 _ _
 clear h18 h19;have hg:=Aa_ G1 G2;clear H11 Hme G1 B1 G2 bc
 go_loopw [21] (fun s21 wr=>∃(j:Nat),j≤l.length∧s21=.int .i64 j∧(∀i,(hi:i<l.length)→i<j→sumErr c.Depth c.Width l[i]=0)∧w2.grownBy wr none) (fun s21 _=>l.length-(RowKit.intOf s21).toNat)
 case atStart=>exact⟨0,Nat.zero_le _,rfl,by intro i _ h;omega,Ab_ _ _⟩
 case round=>
  obtain⟨j,hj,rfl,hall,hgr⟩:=hrel;have Hall:=hh_ hall;clear hall;have hgg:=Aa_ hg hgr;have BCr:=BC.same hgr
  by_cases hlt:j<l.length
  ·obtain⟨g,off,cap,hv,hgl,c0,c1,c2,c3,hR,hW⟩:=(HL.out.same hgg).at_ hlt
   cases hv;have hsm:=Hs.out _ (mg_ hlt)
   have hcall:=fun w' (h':wr.grownBy w' none)=>Pn_ c l[j] w' (hR.same h') hW hsm
   obtain⟨a1,k1,e1⟩:=hR.es.shape;obtain⟨a2,k2,e2⟩:=hR.vs.shape;rw[e1] at c1 hcall;rw[e2] at c3 hcall
   have hat:=fun h=>al_ (c:=c) hlt Hall.out h
   have hno:=fun(h:sumErr c.Depth c.Width l[j]=0)=>(fun i hi (hij:i<j+1)=>by
    by_cases e:i=j
    ·subst e;exact h
    ·exact Hall.out i hi (by omega):∀i,(hi:i<l.length)→i<j+1→sumErr c.Depth c.Width l[i]=0)
   clear hR hW hsm e1 e2
   by_cases hz:sumErr c.Depth c.Width l[j]=0
   ·have Hno:=hh_ (hno hz)
    rw[hz] at hcall;have Hc:=hh_ hcall;clear hz hno hat hcall;generalize l[j].total=x0 at *;generalize l[j].untr=x2 at *
    go_wp2_with (first |(refine Al_ rfl _ rfl _ rfl c (BCr.same (ga_ _ _ _)) ?_) |(go_at_call 169;refine(Hc.out _ gw_).mono ?_;rintro e w5 ⟨rfl,G5⟩))
    exact⟨⟨j+1,by omega,by go_num,Hno.out,Aa_ hgr (Aa_ (ga_ _ _ _) G5)⟩,by simp[RowKit.intOf];omega⟩
   ·have Hq:=hh_ (p:=ME=sumErr c.Depth c.Width l[j]) (by rw[HM.out,hat hz,if_pos hz])
    have Hc:=hh_ hcall;clear hno hat hcall HM;generalize sumErr c.Depth c.Width l[j]=ee at *;have hz2 :(ee != 0)=true:=bne_iff_ne.2 hz;generalize l[j].total=x0 at *;generalize l[j].untr=x2 at *
    go_wp2_with (first |(refine Al_ rfl _ rfl _ rfl c (BCr.same (ga_ _ _ _)) ?_) |(go_at_call 169;refine(Hc.out _ gw_).mono ?_;rintro e w5 ⟨rfl,G5⟩))
    go_ret
    exact Ai_ Hq.out (Aa_ hgg (Aa_ (ga_ _ _ _) G5))
  ·have hsz:Dx_ c l=0:=an_ fun i hi=>Hall.out i hi (by omega)
   have hME:ME=if 9223372036854775808<totalF l then 12 else 0:=by rw[HM.out,hsz,if_neg (by decide)]
   have HME:=hh_ hME;clear hsz hME HM Hall;generalize totalF l=T at *
   go_wp2_with (first |(refine Al_ rfl _ rfl _ rfl c (by assumption) ?_) |(go_at_call 97;refine(Ht.out _ hgg).mono ?_;rintro e w5 ⟨rfl,G5⟩))
   ·go_ret
    exact Ai_ (HME.out.trans (if_pos (by assumption))) (Aa_ hgg G5)
   ·go_ret
    exact Ai_ (HME.out.trans (if_neg (by omega))) (Aa_ hgg G5)
end
section
open Go.RowKit
attribute [local go_sem ↓] Ag_
attribute [local go_sem] Ah_
theorem a4_ (c:Cfg) (t:List Int) (lv:Value) (l:List Summ) (w:World) (h:RCfg w c t) (hl:Cj_ w lv l) (hs:Dr_ l) :
  Calls Tryz.prog 100 #[c.val,lv] w (RetWord (restF c l) w):=by
 obtain⟨la,lc,rfl⟩:=hl.rd.shape;have HL:=hh_ hl;have hlm:=hl.rd.2.1;obtain⟨s1,s2⟩:=h.shards;obtain⟨s3,s4⟩:=h.spread
 have Hc:=hh_ fun w' (hg:w.grownBy w' none)=>Yd_ c t _ l w' (h.same hg) (hl.same hg) hs
 clear h hl hs
 by_cases hz:mergeErr c l=0
 ·have hlen:=T0_ hz
  obtain⟨N,hN⟩:∃N,c.Spread.toNat=N:=⟨_,rfl⟩;have HR:=hh_ (p:=restF c l=restI c.Shards N l l.length) (by unfold restF;rw[if_neg (by omega),hN,←hlen];rfl)
  have hN1:c.Spread =(N:Int):=by omega
  have hN2:N≤8:=by omega
  have hl8:l.length≤8:=by omega
  have hl1:1≤l.length:=by omega
  have Hlen:=hh_ hlen;have HN1:=hh_ hN1
  have HAf:=hh_ fun(k:Nat) (hk:k<l.length) (w':World)=>Tz_ c k w' ⟨s1,s2⟩ ⟨s3,s4⟩ ⟨by omega,by omega⟩
  have HIn:Hid (∀k:Nat,∀x∈setN (k:Int) c.Shards N,0≤x∧x<(l.length:Int)):=hh_ fun k x hx=>by
   have:=Mx_ s1 x hx
   rw[hlen];exact this
  rw[hN] at HAf
  have hmod:∀(h:Nat) (i:Nat),0≤((h:Int)+i)%c.Shards∧((h:Int)+i)%c.Shards<l.length:=fun h i=>⟨Int.emod_nonneg _ (by omega),by rw[hlen];exact Int.emod_lt_of_pos _ (by omega)⟩
  have Hmod:=hh_ hmod;rw[hz] at Hc;have hsz :(c.Shards==0)=false:=beq_eq_false_iff_ne.2 (by omega);clear hz hN hN1 hlen hmod
  go_enter Tryz.func100,Tryz.ntmps100
  go_upto_region 1 with(refine As_ rfl _ rfl c rfl ?_;intro w1 B1 G1 z1)
  go_wp2_with (first |(refine Al_ rfl _ rfl _ rfl c (by assumption) ?_) |(go_at_call 129;refine(Hc.out _ G1).mono ?_;rintro e w2 ⟨rfl,G2⟩;have BC:=B1.same G2;have bc:=BC.cell))
  have hg:=Aa_ G1 G2;clear G1 B1 G2 bc Hc
  go_loopw [5,6] (fun s5 s6 wr=>∃(k:Nat),k≤l.length∧s6=.int .i64 k∧s5=.int .u64 (restI c.Shards N l k)∧W64 (restI c.Shards N l k)∧w2.grownBy wr none) (fun _ s6 _=>l.length-(RowKit.intOf s6).toNat)
  case atStart=>exact⟨0,Nat.zero_le _,rfl,rfl,Dq_,Ab_ _ _⟩
  case round=>
   obtain⟨k,hk,rfl,rfl,hT,hgr⟩:=hrel;have BCr:=BC.same hgr;have bcr:=BCr.cell
   by_cases hlt:k<l.length
   ·have hlt2 :(k:Int)<c.Shards:=by have:=Hlen.out;omega
    have HS:=hh_ (Ie_ c.Shards N l k);have hin:=HIn.out k;have hON:=Fu_ k c.Shards N;have HA2:=hh_ (HAf.out k hlt);generalize restI c.Shards N l k=T at *;generalize setN k c.Shards N=O at *;have Hin:=hh_ hin;clear hin
    go_wp2_with (first |(refine Al_ rfl _ rfl _ rfl c (by assumption) ?_) |(go_at_call 130;refine(HA2.out _).mono ?_;rintro e w3 ⟨ov,rfl,hov,G3⟩;obtain⟨oa,oc,rfl⟩:=hov.shape))
    have HO:=hh_ hov.rd;have hgg:=Aa_ (Aa_ hg hgr) G3;clear hov bcr
    go_loopw [7,24] (fun s7 s24 wi=>∃(i:Nat),i≤O.length∧s24=.int .i64 i∧s7=.int .u64 (uF l (O.take i))∧W64 (uF l (O.take i))∧w3=wi) (fun _ s24 _=>O.length-(RowKit.intOf s24).toNat)
    case atStart=>exact⟨0,Nat.zero_le _,rfl,rfl,Dq_,rfl⟩
    case round=>
     obtain⟨i,hi,rfl,rfl,hU,rfl⟩:=hrel
     by_cases hil:i<O.length
     ·obtain⟨go,offo,capo,hvo,hgo,co⟩:=HO.out.one M8_ hil
      cases hvo;obtain⟨m1,m2⟩:=Hin.out _ (mg_ hil);have HS2:=hh_ (B2_ hil);have HU2:=hh_ (Z8_ l (O.take i) O[i]);generalize O[i]=q at *;obtain⟨n,rfl⟩:=Int.eq_ofNat_of_zero_le m1
      have hnl:n<l.length:=by omega
      obtain⟨g,off,cap,hv,hgl,c0,c1,c2,c3,hR,hW⟩:=(HL.out.same hgg).at_ hnl;cases hv;have hwu:=hW.untr;have HA:=hh_ (d6_ hnl);have hW2:=B5_ hU hwu;generalize l[n].untr=u at *;generalize uF l (O.take i)=U at *;clear hR hW c0 c1 c3
      go_wp2_with (go_at_call 68;refine(Er_ U u _ hU hwu).mono ?_;rintro e w' ⟨rfl,rfl⟩)
      exact⟨⟨i+1,by omega,by go_num,by rw[HS2.out,HU2.out,HA.out],by rw[HS2.out,HU2.out,HA.out];exact hW2,trivial⟩,by simp[RowKit.intOf];omega⟩
     ·have hle:O.take i=O:=tk_ (by omega)
      rw[hle] at hU ⊢;clear hle;generalize uF l O=U at *
      go_wp2_with fail
      refine⟨⟨k+1,by omega,by go_num,?_,?_,Aa_ hgr G3⟩,by simp[RowKit.intOf];omega⟩
      ·rw[HS.out]
      ·rw[HS.out];unfold W64 at *;omega
   ·have hlt2:¬(k:Int)<c.Shards:=by have:=Hlen.out;omega
    have hkl:k=l.length:=by omega
    have HF:=hh_ (p:=restF c l=restI c.Shards N l k) (by rw[hkl];exact HR.out);generalize restI c.Shards N l k=T at *
    go_wp2_with fail
    go_ret
    exact Br_ HF.out (Aa_ hg hgr)
 ·have HF:=hh_ (p:=restF c l=0) (by unfold restF;rw[if_pos hz])
  generalize mergeErr c l=ME at *;have hz2 :(ME != 0)=true:=bne_iff_ne.2 hz
  go_enter Tryz.func100,Tryz.ntmps100
  go_upto_region 1 with(refine As_ rfl _ rfl c rfl ?_;intro w1 B1 G1 z1)
  go_wp2_with (first |(refine Al_ rfl _ rfl _ rfl c (by assumption) ?_) |(go_at_call 129;refine(Hc.out _ G1).mono ?_;rintro e w2 ⟨rfl,G2⟩))
  go_ret
  exact Br_ HF.out (Aa_ G1 G2)
end
section
open Go.RowKit Go.Sort
attribute [local go_sem ↓] Ag_
attribute [local go_sem] Ah_
structure FewB (c:Cfg) (t:List Int) (lv:Value) (l:List Summ) (w:World):Prop where
 rcfg:RCfg w c t
 sums:Cj_ w lv l
 ok:Fk_ l
 small:Dr_ l
 keys :(keysL l).length≤10000
 top:1≤c.Top∧c.Top≤64
theorem FewB.same {c:Cfg} {t:List Int} {lv:Value} {l:List Summ} {w w':World} (h:FewB c t lv l w) (hg:w.grownBy w' none):FewB c t lv l w':=⟨h.rcfg.same hg,h.sums.same hg,h.ok,h.small,h.keys,h.top⟩
theorem Ff_ {l:List Summ} (h:Fk_ l):W64 (totalF l):=by
 have:∀(l:List Summ) (a:Int),(∀s∈l,SumW s)→W64 a→W64 (l.foldl (fun n s=>satA n s.total) a):=by
  intro l
  induction l with
  | nil=>exact fun a _ ha=>ha
  | cons s l ih=>exact fun a hl ha=>ih _ (fun x hx=>hl x (by simp[hx])) (B5_ ha (hl s (by simp)).total)
 exact this l 0 h.wf Dq_
theorem N7_ {c:Cfg} {t:List Int} {l:List Summ} (ho:Fk_ l) (hs:Dr_ l):∀x∈allF c t l,LnW x:=by
 intro x hx;obtain⟨b,hb,rfl⟩:=List.mem_map.1 hx
 have:=Uo_ (c:=c) (t:=t) ho (bA b) ((setF c t (bA b)).filter (fun i:Int=>decide (i<(l.length:Int))))
 refine⟨this.1,this.2,?_⟩;obtain⟨s,hs',e,he,rfl⟩:=K6_ hb
 have:=(hs s hs').key e he
 show(entK e).toArray.size≤_
 simpa [entK] using this
theorem R1_ (c:Cfg) (t:List Int) (lv:Value) (l:List Summ) (rv:Value) (rej:List Int) (win:Int) (w:World) (hF:FewB c t lv l w) (hr:RdL wordF 1 w rv rej) (hrl:rej.length≤1000000) :
  Calls Tryz.prog 57 #[c.val,.int .i64 win,lv,rv] w (Gm_ c t l win rej w):=by
 have hHt:=Ff_ hF.ok
 have hlw:∀x∈bLs c t l,LnW x:=fun x hx=>N7_ hF.ok hF.small x (Il_ (List.mem_of_mem_take hx))
 have hk13:=lt_ (He_ l) hF.keys;have hal:=Vh_ c t l;have htop:=hF.top
 have key_few:∀s∈l,∀e∈s.es,e.key.size≤9223372036854775807:=fun s hs e he=>(hF.small s hs).key e he
 have hkl:=hF.keys;have HP:=hh_ (p:=∀(e:Ending) (w':World),(∃vl vr,e=.returned (repV win (totalF l) vl (bOver c t l) ((keysF l).length:Int) (bRest c t l) vr)∧RdL lnF 3 w' vl (bLs c t l)∧RdL wordF 1 w' vr rej∧CapOk vl∧CapOk vr∧From w.heap.size vl∧From w.heap.size vr∧w.grownBy w' none)→Gm_ c t l win rej w e w') (fun _ _ h=>h)
 have Hc1:=hh_ fun w' (h:World.grownBy w w' none)=>eh_ c t _ l w' (hF.same h).rcfg (hF.same h).sums (hF.same h).ok (by omega) key_few
 have Hc2:=hh_ (p:=∀w' v,RdL lnF 3 w' v (allF c t l)→Calls Tryz.prog 95 #[v,.int .i64 c.Top] w' (fun e w2=>∃v1 v2,e=.returned (.tuple #[v1,v2])∧RdL lnF 3 w2 v1 (bLs c t l)∧RdL lnF 3 w2 v2 (bOm c t l)∧CapOk v1∧From w'.heap.size v1∧From w'.heap.size v2∧w'.grownBy w2 none)) (fun w' v h=>c3_ v _ c.Top w' h (by omega) (by omega) (by omega))
 have Hc3:=hh_ fun w' (h:World.grownBy w w' none)=>N5_ lv l w' (hF.same h).sums
 have HLW:=hh_ hlw;have Hc5:=hh_ (p:=∀w',∃q,Calls Tryz.prog 101 #[.int .u64 (totalF l),.int .u64 (satL (loSum (bLs c t l)))] w' (fun e w2=>e=.returned (.tuple #[.int .u64 (bOver c t l),.bool q])∧w'=w2)) (fun w'=>⟨_,dl_ _ _ w' hHt (H7_ (loSum_pos fun x hx=>(hlw x hx).lo.1))⟩);have Hc6:=hh_ (p:=∀w',World.grownBy w w' none→Calls Tryz.prog 98 #[lv] w' (fun e w2=>∃a cp,e=.returned (.slice a (keysF l).length cp)∧w'.grownBy w2 none)) (fun w' h=>(R8_ lv l w' (hF.same h).sums (by omega)).mono fun e w2 ⟨v,h1,h2,h3⟩=>by obtain⟨a,cp,hv⟩:=h2.shape;exact⟨a,cp,hv▸h1,h3⟩)
 have Hc7:=hh_ fun w' (h:World.grownBy w w' none)=>a4_ c t lv l w' (hF.same h).rcfg (hF.same h).sums (hF.same h).small
 have Hc8:=hh_ (p:=∀w' v,RdL lnF 3 w' v (bOm c t l)→Calls Tryz.prog 99 #[v,.int .u64 (restF c l)] w' (RetWord (bRest c t l) w')) (fun w' v h=>b6_ v _ _ w' h);have HR:=hh_ hr;have hrb:=hr.2.1
 have hb1:rej.length*8≤140737488355328:=by omega
 have hb2:rej.length≤9223372036854775807:=by omega
 obtain⟨ra,rc,rfl⟩:=hr.shape;obtain⟨la,lcp,rfl⟩:=hF.sums.rd.shape;clear hF hr hHt hlw hk13 hal htop hrl hrb key_few hkl;generalize allF c t l=AL at *;generalize bLs c t l=Ls at *;generalize bOm c t l=Om at *;generalize totalF l=tot at *;generalize bOver c t l=ov at *;generalize bRest c t l=rst at *;generalize restF c l=rs0 at *;generalize (keysF l).length=K at *
 go_enter Tryz.func57,Tryz.ntmps57
 go_upto_region 1 with(refine As_ rfl _ rfl c rfl ?_;intro w1 B1 G1 z1)
 have hb0:w.heap.size<w1.heap.size:=z1;have hbb:w.heap.size≤w1.heap.size:=Nat.le_of_lt z1;have B2:=B1.same (ga_ w1 (.cells #[.int .i64 0,.int .u64 0,.slice none 0 0,.int .u64 0,.int .i64 0,.int .u64 0,.slice none 0 0] 26) none);have A2:=Blk.new w1 #[.int .i64 0,.int .u64 0,.slice none 0 0,.int .u64 0,.int .i64 0,.int .u64 0,.slice none 0 0] 26;have G2:=Ad_ G1 (.cells #[.int .i64 0,.int .u64 0,.slice none 0 0,.int .u64 0,.int .i64 0,.int .u64 0,.slice none 0 0] 26);generalize w1.alloc (.cells #[.int .i64 0,.int .u64 0,.slice none 0 0,.int .u64 0,.int .i64 0,.int .u64 0,.slice none 0 0] 26)=w2 at *;generalize w1.heap.size=rb at *;clear B1 G1 z1;have B6:=B2.same (w':=w2.drew) gw_;have C6:=A2.same (w':=w2.drew) gw_;have K6:=Aa_ G2 (show World.grownBy w2 w2.drew none from gw_);have hbr6:rb<w2.drew.heap.size:=C6.lt
 (refine rn_ 11 (fun k _ w v w'=>match k with | 2=>RdL lnF 3 w' v AL∧World.grownBy w w' none | 5=>(∃v1 v2,v=.tuple #[v1,v2]∧RdL lnF 3 w' v1 Ls∧RdL lnF 3 w' v2 Om∧CapOk v1∧From w.heap.size v1∧From w.heap.size v2)∧World.grownBy w w' none | _=>False) ?_;simp only[ts_])
 clear A2 B2 G2;generalize w2.drew=w6 at *
 (refine Rg.tree_op rfl rfl ?_;intro x0 mx0 dx0)
 clear dx0;have BX:=B6.same mx0
 go_wp2_with (refine Al_ rfl _ rfl _ rfl c (by assumption) ?_)
 refine⟨Ab_ _ _,?_⟩;clear BX
 (refine tq_ 1 ?_;simp only[ts_,Nat.reduceAdd];(repeat(go_big_quiet_step (fail)));refine wpQuiet_nil ?_)
 (refine Rg.tree_call rfl rfl rfl ?_;intro x3 mx3 dx3;refine⟨?_,?_⟩;· (unfold Rg.callSpec;go_simp;(refine(Hc1.out x3 (Aa_ K6 mx3)).mono ?_;rintro e w' ⟨v,rfl,o,g⟩;exact⟨v,rfl,o.rd,g⟩)))
 clear dx3;rintro v3 y3 ⟨R3,g3⟩;refine⟨g3,?_⟩;simp only[pt_]
 (refine tq_ 1 ?_;simp only[ts_,Nat.reduceAdd];(repeat(go_big_quiet_step (fail)));refine wpQuiet_nil ?_)
 (refine Rg.tree_op rfl rfl ?_;intro x5 mx5 dx5)
 clear dx5;have bx:=(B6.same mx5).cell
 go_wp2_with fail
 refine⟨Ab_ _ _,?_⟩;clear bx
 (refine Rg.tree_call rfl rfl rfl ?_;intro x6 mx6 dx6;refine⟨?_,?_⟩;· (unfold Rg.callSpec;go_simp;(refine(Hc2.out x6 _ (RdL.same R3 (dx6.out 2 (by omega) (by kernel_rfl)))).mono ?_;rintro e w' ⟨v1,v2,rfl,h1,h2,h3,h4,h5,g⟩;exact⟨_,rfl,⟨v1,v2,rfl,h1,h2,h3,h4,h5⟩,g⟩)))
 clear dx6;rintro v6 y6 ⟨⟨v1,v2,rfl,R1,R2,hc1,hf1,hf2⟩,g6⟩;refine⟨g6,?_⟩;simp only[pt_];have hbx6:rb<x6.heap.size:=Nat.lt_of_lt_of_le hbr6 mx6.size
 (refine tq_ 5 ?_;simp only[ts_,Nat.reduceAdd];(repeat(go_big_quiet_step (fail)));refine wpQuiet_nil ?_)
 (refine Rg.tree_nil ?_;intro x7 mx7 dx7 cx7)
 have RA7:=R1.same (dx7.out 5 (by omega));have RB7:=R2.same (dx7.out 5 (by omega));have C7:=C6.same mx7;have B7:=B6.same mx7;have K7:=Aa_ K6 mx7;clear R1 R2 R3 g3 g6 mx0 mx3 mx5 mx6 mx7 dx7 cx7 C6 B6 K6 y3 y6;obtain⟨a1,k1,rfl⟩:=RA7.shape;obtain⟨a2,k2,rfl⟩:=RB7.shape
 have hx6:w.heap.size≤x6.heap.size:=by omega
 clear x0 x3 x5
 go_upto_region 2 with fail
 have hb7:rb<x7.heap.size:=C7.lt;have B8:=B7.same (w':=x7.drew) gw_;have C8:=C7.same (w':=x7.drew) gw_;have RA8:=RA7.same (w':=x7.drew) gw_;have RB8:=RB7.same (w':=x7.drew) gw_;have K8:=Aa_ K7 (show World.grownBy x7 x7.drew none from gw_);have hb8:rb<x7.drew.heap.size:=hb7
 (refine rn_ 17 (fun k _ w v w'=>match k with | 2=>v=.int .u64 tot∧World.grownBy w w' none | 5=>(∃a cp,v=.slice a K cp)∧World.grownBy w w' none | 10=>v=.int .u64 rs0∧World.grownBy w w' none | 11=>v=.int .u64 rst∧World.grownBy w w' none | _=>False) ?_;simp only[ts_])
 clear B7 C7 RA7 RB7 K7 hb7;generalize x7.drew=w8 at *
 (refine tq_ 2 ?_;simp only[ts_,Nat.reduceAdd];(repeat(go_big_quiet_step (fail)));refine wpQuiet_nil ?_)
 (refine Rg.tree_call rfl rfl rfl ?_;intro y2 my2 dy2;refine⟨?_,?_⟩;· (unfold Rg.callSpec;go_simp;(refine(Hc3.out y2 (Aa_ K8 my2)).mono ?_;rintro e w' ⟨rfl,g⟩;exact⟨_,rfl,rfl,g⟩)))
 clear dy2;rintro v2 e2 ⟨rfl,g2⟩;refine⟨g2,?_⟩;simp only[pt_]
 (refine tq_ 2 ?_;simp only[ts_,Nat.reduceAdd];(repeat(go_big_quiet_step (fail)));refine wpQuiet_nil ?_)
 (refine Rg.tree_call rfl rfl rfl ?_;intro y5 my5 dy5;refine⟨?_,?_⟩;· (unfold Rg.callSpec;go_simp;(refine(Hc6.out y5 (Aa_ K8 my5)).mono ?_;rintro e w' ⟨a,cp,rfl,g⟩;exact⟨_,rfl,⟨a,cp,rfl⟩,g⟩)))
 clear dy5;rintro v5 e5 ⟨⟨ka,kc,rfl⟩,g5⟩;refine⟨g5,?_⟩;simp only[pt_]
 (refine tq_ 2 ?_;simp only[ts_,Nat.reduceAdd];(repeat(go_big_quiet_step (fail)));refine wpQuiet_nil ?_)
 (refine Rg.tree_op rfl rfl ?_;intro y8 my8 dy8)
 clear dy8;have BX:=B8.same my8
 go_wp2_with (refine Al_ rfl _ rfl _ rfl c (by assumption) ?_)
 refine⟨Ab_ _ _,?_⟩;clear BX
 (refine tq_ 1 ?_;simp only[ts_,Nat.reduceAdd];(repeat(go_big_quiet_step (fail)));refine wpQuiet_nil ?_)
 (refine Rg.tree_call rfl rfl rfl ?_;intro y10 my10 dy10;refine⟨?_,?_⟩;· (unfold Rg.callSpec;go_simp;(refine(Hc7.out y10 (Aa_ K8 my10)).mono ?_;rintro e w' ⟨rfl,g⟩;exact⟨_,rfl,rfl,g⟩)))
 clear dy10;rintro v10 e10 ⟨rfl,g10⟩;refine⟨g10,?_⟩;simp only[pt_]
 (refine Rg.tree_call rfl rfl rfl ?_;intro y11 my11 dy11;refine⟨?_,?_⟩;· (unfold Rg.callSpec;go_simp;(refine(Hc8.out y11 _ (RB8.same my11)).mono ?_;rintro e w' ⟨rfl,g⟩;exact⟨_,rfl,rfl,g⟩)))
 clear dy11;rintro v11 e11 ⟨rfl,g11⟩;refine⟨g11,?_⟩;simp only[pt_]
 (refine Rg.tree_op rfl rfl ?_;intro y12 my12 dy12)
 clear dy12;have hz12:w8.heap.size≤y12.heap.size:=my12.size
 go_wp2_with fail
 refine⟨ga_ _ _ _,?_⟩;have N12:=Aw_ (e:=22) wordF 1 hz12
 have hs12 :(y12.alloc (.cells #[] 22)).heap.size=y12.heap.size+1:=by simp
 generalize y12.alloc (.cells #[] 22)=e12 at *;generalize hgy:y12.heap.size=g12 at *;have Hgy:=hh_ hgy;clear hgy
 (refine tq_ 1 ?_;simp only[ts_,Nat.reduceAdd];(repeat(go_big_quiet_step (fail)));refine wpQuiet_nil ?_)
 (refine Rg.tree_op rfl rfl ?_;intro y14 my14 dy14)
 have N14:=N12.same (dy14.out 12 (by omega) (by kernel_rfl));have R14:=RdL.same HR.out (Aa_ K8 my14);have z14:=my14.size;clear dy14
 go_wp2_with (at_builtin;refine A2_ Yn_ Yi_ N14 R14 rfl hb1 hb2 z14 (by rfl) _ _ (by rfl) (by rfl) (by rfl) ?_;intro v14 e14 o14 g14 l14;have Hg14:=hh_ g14;clear g14)
 refine⟨Hg14.out,?_⟩;clear R14 N14 z14;obtain⟨a14,k14,rfl⟩:=o14.shape
 (refine tq_ 1 ?_;simp only[ts_,Nat.reduceAdd];(repeat(go_big_quiet_step (fail)));refine wpQuiet_nil ?_)
 (refine Rg.tree_op rfl rfl ?_;intro y16 my16 dy16)
 clear dy16
 go_wp2_with fail
 refine⟨ga_ _ _ _,?_⟩;have A16:=Blk.new y16 #[.int .i64 0,.int .u64 0,.slice none 0 0,.int .u64 0,.int .i64 0,.int .u64 0,.slice none 0 0] 26
 have hs16 :(y16.alloc (.cells #[.int .i64 0,.int .u64 0,.slice none 0 0,.int .u64 0,.int .i64 0,.int .u64 0,.slice none 0 0] 26)).heap.size=y16.heap.size+1:=by simp
 have hz16:w8.heap.size≤y16.heap.size:=my16.size;generalize y16.alloc (.cells #[.int .i64 0,.int .u64 0,.slice none 0 0,.int .u64 0,.int .i64 0,.int .u64 0,.slice none 0 0] 26)=e16 at *;generalize hgy2:y16.heap.size=br at *
 (refine Rg.tree_nil ?_;intro wz mwz dwz cwz)
 have q1:e12.grownBy y16 none∨e16.grownBy y12 none:=cwz.out 12 16 (by omega) (by omega) (by omega);have q2:e14.grownBy y16 none∨e16.grownBy y14 none:=cwz.out 14 16 (by omega) (by omega) (by omega)
 have hne:∀k,(Value.slice a14 rej.length k14).ownBlock=some k→k≠br:=by
  intro k hk e;subst e;have hy:=Hgy.out
  rcases q2 with h|h
  ·have h1:=(o14.lt _ hk).2
   have h2:=h.size
   omega
  ·have h1:=h.size
   rcases l14 with e |⟨m,e,h2⟩
   ·rw[hk] at e
    have e3:k=g12:=by simpa [Value.ownBlock] using e
    rcases q1 with h|h
    ·have:=h.size;omega
    ·have:=h.size;omega
   ·rw[hk] at e
    cases e
    omega
 have Az:=A16.same (dwz.out 16 (by omega));have o9:=o14.same (dwz.out 14 (by omega));clear my2 g2 my5 g5 my8 my10 g10 my11 g11 my12 hs12 Hgy my14 Hg14 l14 my16 hs16 q1 q2 A16 o14 N12 hgy2 dwz cwz;have a9:=Az.cell;have f9:=Az.free
 go_upto_region 4 with fail
 clear a9 f9;have hgr:World.grownBy wz (((((((wz.setCell ⟨br,0,none⟩ (.int .i64 win)).setCell ⟨br,1,none⟩ (.int .u64 tot)).setCell ⟨br,2,none⟩ (.slice a1 Ls.length k1)).setCell ⟨br,3,none⟩ (.int .u64 0)).setCell ⟨br,4,none⟩ (.int .i64 K)).setCell ⟨br,5,none⟩ (.int .u64 rst)).setCell ⟨br,6,none⟩ (.slice a14 rej.length k14)) (some br):=Ac_ (Ac_ (Ac_ (Ac_ (Ac_ (Ac_ (Ac_ (Ab_ _ _) _ _) _ _) _ _) _ _) _ _) _ _) _ _;have hAr:Blk (((((((wz.setCell ⟨br,0,none⟩ (.int .i64 win)).setCell ⟨br,1,none⟩ (.int .u64 tot)).setCell ⟨br,2,none⟩ (.slice a1 Ls.length k1)).setCell ⟨br,3,none⟩ (.int .u64 0)).setCell ⟨br,4,none⟩ (.int .i64 K)).setCell ⟨br,5,none⟩ (.int .u64 rst)).setCell ⟨br,6,none⟩ (.slice a14 rej.length k14)) br #[.int .i64 win,.int .u64 tot,.slice a1 Ls.length k1,.int .u64 0,.int .i64 K,.int .u64 rst,.slice a14 rej.length k14]:=((((((Az.set_ 0 _ rfl).set_ 1 _ rfl).set_ 2 _ rfl).set_ 3 _ rfl).set_ 4 _ rfl).set_ 5 _ rfl).set_ 6 _ rfl;generalize ((((((wz.setCell ⟨br,0,none⟩ (.int .i64 win)).setCell ⟨br,1,none⟩ (.int .u64 tot)).setCell ⟨br,2,none⟩ (.slice a1 Ls.length k1)).setCell ⟨br,3,none⟩ (.int .u64 0)).setCell ⟨br,4,none⟩ (.int .i64 K)).setCell ⟨br,5,none⟩ (.int .u64 rst)).setCell ⟨br,6,none⟩ (.slice a14 rej.length k14)=w10 at *;have M10:=Af_ mwz hgr hz16;have B10:=B8.same M10;have C10:=C8.same M10;have RA10:=RA8.same M10;have K10:=Aa_ K8 M10
 have hwbr:w.heap.size≤br:=by omega
 have o10:=o9.kept hgr (fun k hk e=>hne k hk (by cases e;rfl));have hf9:=o10.from_;have cp9:=o10.capOk;have RC10:=o10.rd;have A10:=hAr
 have hrbr:rb≠br:=by omega
 have hbw:br<w10.heap.size:=A10.lt;have o10':=o10;clear o9 o10 RC10 B8 RB8 mwz Az hAr hgr
 go_wp2_with fail
 have hlm:=RA10.2.1
 go_loopw [12,42] (fun s12 s42 wk=>∃k:Nat,k≤Ls.length∧s42=.int .i64 k∧s12=.int .u64 (satL (loSum (Ls.take k)))∧w10.grownBy wk none) (fun _ s42 _=>Ls.length-(RowKit.intOf s42).toNat)
 case atStart=>exact⟨0,Nat.zero_le _,rfl,rfl,Ab_ _ _⟩
 case round=>
  obtain⟨k,hk,rfl,rfl,hg⟩:=hrel
  by_cases hlt:k<Ls.length
  ·obtain⟨g,off,cap,hv,hgl,hc⟩:=(RA10.same hg).at_ Av_ hlt
   cases hv;have c0:=hc 0 _ rfl;have c1:=hc 1 _ rfl;have c2:=hc 2 _ rfl;rw[Nat.add_zero] at c0;clear hc;have hx:=HLW.out Ls[k] (mg_ hlt)
   have hps:0≤loSum (Ls.take k):=loSum_pos fun x hx=>(HLW.out x (List.mem_of_mem_take hx)).lo.1
   have w1':W64 (satL (loSum (Ls.take k))):=H7_ hps;have w2':W64 Ls[k].lo:=hx.lo;have HS:=hh_ (show satL (loSum (Ls.take (k+1)))=satA (satL (loSum (Ls.take k))) Ls[k].lo by rw[tg_ hlt,D9_,Je_ hps w2'.1]);clear hx hps;generalize satL (loSum (Ls.take k))=T at *;generalize Ls[k]=x at *;have G2:=Ad_ hg (.cells #[.string x.key,.int .u64 x.lo,.int .u64 x.hi] 46);have A2:=(Blk.new wr #[.string x.key,.int .u64 x.lo,.int .u64 x.hi] 46).cell
   go_wp2_with (go_at_call 68;refine(Er_ T x.lo _ w1' w2').mono ?_;rintro e w' ⟨rfl,rfl⟩)
   exact⟨⟨k+1,by omega,by go_num,by rw[HS.out],G2⟩,by simp[RowKit.intOf];omega⟩
  ·have hl:Ls.take k=Ls:=tk_ (by omega)
   rw[hl];have A11:=A10.same hg;have M11:=Aa_ M10 hg;have o11:=o10'.same hg;clear A10 C10 RA10 K10 hg B10 M10 o10';have a11:=A11.cell;have f11:=A11.free;obtain⟨qs,hqs⟩:=Hc5.out wr
   go_upto_region 10 with(go_at_call 101;refine hqs.mono ?_;rintro e w' ⟨rfl,rfl⟩)
   clear a11 f11 hqs;have A12:Blk (wr.setCell ⟨br,3,none⟩ (.int .u64 ov)) br #[.int .i64 win,.int .u64 tot,.slice a1 Ls.length k1,.int .u64 ov,.int .i64 K,.int .u64 rst,.slice a14 rej.length k14]:=A11.set_ 3 _ rfl;have G12:=Ac_ (Ab_ wr (some br)) 3 (.int .u64 ov);have M12:=Af_ M11 G12 hz16;have RA12:=RA8.same M12;have C12:=C8.same M12;have K12:=Aa_ K8 M12;have RC12:=(o11.kept G12 (fun k hk e=>hne k hk (by cases e;rfl))).rd;clear M11 G12 o11 A11 M12 RA8 C8 K8 hne;generalize wr.setCell ⟨br,3,none⟩ (.int .u64 ov)=w12 at *;have a12:=A12.cell;have f12:=C12.free;have c12:=C12.cell
   go_wp2_with fail
   clear a12 f12 c12;have hgc:World.grownBy w12 (((((((w12.setCell ⟨rb,0,none⟩ (.int .i64 win)).setCell ⟨rb,1,none⟩ (.int .u64 tot)).setCell ⟨rb,2,none⟩ (.slice a1 Ls.length k1)).setCell ⟨rb,3,none⟩ (.int .u64 ov)).setCell ⟨rb,4,none⟩ (.int .i64 K)).setCell ⟨rb,5,none⟩ (.int .u64 rst)).setCell ⟨rb,6,none⟩ (.slice a14 rej.length k14)) (some rb):=Ac_ (Ac_ (Ac_ (Ac_ (Ac_ (Ac_ (Ac_ (Ab_ _ _) _ _) _ _) _ _) _ _) _ _) _ _) _ _;have hCr:Blk (((((((w12.setCell ⟨rb,0,none⟩ (.int .i64 win)).setCell ⟨rb,1,none⟩ (.int .u64 tot)).setCell ⟨rb,2,none⟩ (.slice a1 Ls.length k1)).setCell ⟨rb,3,none⟩ (.int .u64 ov)).setCell ⟨rb,4,none⟩ (.int .i64 K)).setCell ⟨rb,5,none⟩ (.int .u64 rst)).setCell ⟨rb,6,none⟩ (.slice a14 rej.length k14)) rb #[.int .i64 win,.int .u64 tot,.slice a1 Ls.length k1,.int .u64 ov,.int .i64 K,.int .u64 rst,.slice a14 rej.length k14]:=((((((C12.set_ 0 _ rfl).set_ 1 _ rfl).set_ 2 _ rfl).set_ 3 _ rfl).set_ 4 _ rfl).set_ 5 _ rfl).set_ 6 _ rfl;generalize ((((((w12.setCell ⟨rb,0,none⟩ (.int .i64 win)).setCell ⟨rb,1,none⟩ (.int .u64 tot)).setCell ⟨rb,2,none⟩ (.slice a1 Ls.length k1)).setCell ⟨rb,3,none⟩ (.int .u64 ov)).setCell ⟨rb,4,none⟩ (.int .i64 K)).setCell ⟨rb,5,none⟩ (.int .u64 rst)).setCell ⟨rb,6,none⟩ (.slice a14 rej.length k14)=w13 at *;have RA13:=RA12.keptFrom hf1 hgc hbx6;have RC13:=RC12.keptFrom hf9 hgc hb8;have K13:=Af_ K12 hgc hbb;have rc13:=hCr.cell;clear A12 C12 K12 RA12 RC12 hgc
   have hx8:w.heap.size≤w8.heap.size:=by omega
   refine bodyPost_ret (v:=repV win tot (.slice a1 Ls.length k1) ov K rst (.slice a14 rej.length k14)) (by simp[results,Tryz.results57,go_sem,rc13]) rfl ?_;exact HP.out _ _ ⟨_,_,rfl,RA13,RC13,hc1,cp9,hf1.le hx6,hf9.le hx8,K13⟩
end
section
open Go.RowKit Go.Sort
def mapTo {α:Type} (f:α→α) (j:Nat) (l:List α):List α:=(l.take j).map f++l.drop j
theorem E4_ {α:Type} (f:α→α) (l:List α):mapTo f 0 l=l:=by simp[mapTo]
theorem H4_ {α:Type} (f:α→α) (l:List α):mapTo f l.length l=l.map f:=by simp[mapTo]
theorem Lw_ {α:Type} (f:α→α) (j:Nat) (l:List α) :(mapTo f j l).length=l.length:=by simp[mapTo];omega
theorem Lu_ {α:Type} {f:α→α} {j:Nat} {l:List α} (hj:j<l.length) :(mapTo f j l)[j]?=some l[j]:=by
 unfold mapTo;rw[List.getElem?_append_right (by simp;omega),List.getElem?_drop]
 have:j+(j-((l.take j).map f).length)=j:=by simp;omega
 rw[this,gq_ hj]
theorem Kp_ {α:Type} {f:α→α} {j:Nat} {l:List α} (hj:j<l.length) :(mapTo f j l).set j (f l[j])=mapTo f (j+1) l:=by
 unfold mapTo;rw[List.set_append_right _ _ (by simp;omega),tg_ hj,List.map_append]
 have:j-((l.take j).map f).length=0:=by simp;omega
 rw[this,List.append_assoc]
 congr 1
 rw[List.drop_eq_getElem_cons hj];rfl
theorem mem_mapTo {α:Type} {f:α→α} {j:Nat} {l:List α} {x:α} (h:x∈mapTo f j l) :(∃y∈l,x=f y)∨x∈l:=by
 rcases ma_ h with h|h
 ·obtain⟨y,hy,rfl⟩:=List.mem_map.1 h
  exact .inl ⟨y,List.mem_of_mem_take hy,rfl⟩
 ·exact .inr (List.mem_of_mem_drop h)
def ShN (c:Cfg) (N:Nat) (S:ShM):Prop:=ShOk c S∧S.ts.length+S.queue.length≤N
theorem Ft_ {c:Cfg} {t:List Int} {N:Nat} {S:ShM} (hc:Bs_ c) (win:Int) (h:ShN c N S):ShN c N (drainS c t S win):=⟨Gr_ hc h.1 _,Fc_ h.2 _⟩
theorem W6_ {c:Cfg} {N:Nat} {S:ShM} (win:Int) (h:ShN c N S):ShN c N (closeS S win):=⟨Q8_ h.1 win,Qm_ h.2⟩
theorem CluOk.shs {c:Cfg} {K:CluM} {N:Nat} (h:CluOk c K N) {l:List ShM} (hl:l.length=K.sh.length) (hs:∀S∈l,ShN c N S):CluOk c { K with sh:=l } N:=
 ⟨h.str,h.acc,h.led,h.items,by have:=h.len;rw[←hl] at this;exact this,hs,h.its⟩
def drK (c:Cfg) (t:List Int) (K:CluM) (win:Int) (j:Nat):CluM:={ K with sh:=mapTo (fun S=>drainS c t S win) j K.sh }
def clK (c:Cfg) (t:List Int) (K:CluM) (win:Int) (j:Nat):CluM:={ K with sh:=mapTo (fun S=>closeS S win) j (K.sh.map fun S=>drainS c t S win) }
theorem V2_ (c:Cfg) (t:List Int) (K:CluM) (win:Int):drK c t K win 0=K:=by unfold drK;rw[E4_]
theorem Yj_ (c:Cfg) (t:List Int) (K:CluM) (win:Int):drK c t K win K.sh.length=clK c t K win 0:=by unfold drK clK;rw[E4_,H4_]
theorem N1_ (c:Cfg) (t:List Int) (K:CluM) (win:Int):{ clK c t K win K.sh.length with led:=ldDel K.led win }=closeK c t K win:=by
 have:mapTo (fun S=>closeS S win) K.sh.length (K.sh.map fun S=>drainS c t S win)=K.sh.map fun S=>closeS (drainS c t S win) win:=by
  rw[show K.sh.length =(K.sh.map fun S=>drainS c t S win).length by simp,H4_,List.map_map];rfl
 unfold clK closeK;rw[this]
theorem ek_ {c:Cfg} {t:List Int} {K:CluM} {N:Nat} (hc:Bs_ c) (h:CluOk c K N) (win:Int) (j:Nat):CluOk c (drK c t K win j) N:=
 h.shs (Lw_ _ _ _) fun S hS=>by
  rcases mem_mapTo hS with⟨y,hy,rfl⟩|hS
  ·exact Ft_ hc win (h.sh y hy)
  ·exact h.sh S hS
theorem Uj_ {c:Cfg} {t:List Int} {K:CluM} {N:Nat} (hc:Bs_ c) (h:CluOk c K N) (win:Int) (j:Nat):CluOk c (clK c t K win j) N:=
 h.shs ((Lw_ _ _ _).trans (by simp)) fun S hS=>by
  rcases mem_mapTo hS with⟨y,hy,rfl⟩|hS
  ·obtain⟨z,hz,rfl⟩:=List.mem_map.1 hy
   exact W6_ win (Ft_ hc win (h.sh z hz))
  ·obtain⟨z,hz,rfl⟩:=List.mem_map.1 hS
   exact Ft_ hc win (h.sh z hz)
theorem K8_ {c:Cfg} {t:List Int} {K:CluM} {N:Nat} (hc:Bs_ c) (h:CluOk c K N) (win:Int):CluOk c (closeK c t K win) N:=by
 rw[←N1_]
 have:=Uj_ (t:=t) hc h win K.sh.length
 exact⟨this.str,this.acc,lt_ Lx_ h.led,this.items,this.len,this.sh,this.its⟩
def plainS (s:Summ):Int×List Ent×Int×List (List Int):=(s.total,s.es,s.untr,s.rows)
structure SumN (s:Summ):Prop where
 wf:SumW s
 rows:RowsOk s.rows
 len:s.rows.length≤1000
 small:SumSmall s
 few:s.es.length≤96
theorem Uy_ {c:Cfg} {X:Aq_} (h:TierOk c X):∀e∈X.entries,(0<e.key.size∧e.key.size≤255)∧1≤e.own∧0≤e.slack∧e.cnt≤X.sum:=by
 intro e he;have hs:=h.sums
 rcases ma_ (h.entries.1.mem_iff.1 he) with he|he
 ·obtain⟨x,hx,rfl⟩:=List.mem_map.1 he
  have h2:=h.tab.cnt x hx;exact⟨by rw[Eh_];exact h.tab.ents.key x hx,by rw[Dt_];exact h.tab.ents.own x hx,(C1_ h.tab hx).1,by omega⟩
 ·exact⟨h.ents.key e he,h.ents.own e he,h.ents.slack e he,h.cnt e he⟩
theorem Z7_ {c:Cfg} {o:Option Aq_} (hn:A8_ c) (ho:∀X,o=some X→TierOk c X) {s:Summ} (e:plainS s=sumOf o):SumN s:=by
 obtain⟨tot,ve,un,vr,es,vs,rows⟩:=s
 cases o with
 | none=>
  have e' :(tot,es,un,rows) =((0:Int),([]:List Ent),(0:Int),([]:List (List Int))):=e;cases e';exact⟨⟨Dq_,Dq_,by simp,by simp⟩,by simp[RowsOk],by simp,⟨by simp,by simp,by simp⟩,by simp⟩
 | some X=>
  have e' :(tot,es,un,rows) =(X.sum,X.entries,X.T.base,X.rows):=e;cases e';have h:=ho X rfl;have hs:=h.sums;have hb:=h.tab.base;have hm:mostW=9223372036854775808:=rfl;have he:=Uy_ h;have hw:=h.rows.width;have hd:=h.rows.depth;have hnd:=hn.depth;have hnw:=hn.width;have hnum:=h.rows.num
  have hW:∀row∈X.rows,∀x∈row,W64 x:=fun row hr x hx=>by have:=hnum row hr x hx;exact⟨this.1,by omega⟩
  refine⟨⟨⟨by dsimp only;omega,by dsimp only;omega⟩,⟨hb.1,by dsimp only;omega⟩,fun e hx=>?_,hW⟩,fun row hr=>⟨?_,hW row hr⟩,?_,⟨fun e hx=>?_,?_,fun row hr=>?_⟩,?_⟩
  ·obtain⟨_,a,b,d⟩:=he e hx
   unfold Ent.cnt at d;exact⟨⟨by omega,by omega⟩,⟨by omega,by omega⟩⟩
  ·have:=hw row hr;omega
  ·dsimp only;omega
  ·have:=(he e hx).1;omega
  ·dsimp only;omega
  ·have:=hw row hr;omega
  ·have h1:=h.entries.1.length_eq
   simp only[List.length_append,List.length_map] at h1
   have:=h.tab.len;have:=h.tab.m;have:=h.len;have:=hn.exact
   dsimp only;omega
theorem Tx_ {c:Cfg} {S:ShM} (h:ShOk c S) {win:Int} {X:Aq_} (e:tierAt S.ts win=some X):TierOk c X:=by
 unfold tierAt at e
 split at e
 ·cases hL:S.ts[‹Nat›]? with
  | none=>rw[hL] at e;simp at e
  | some p=>
   rw[hL] at e
   have:p.2=X:=by simpa using e
   rw[←this];exact(h.tiers p (mo_ hL)).2
 ·cases e
def sumsK (c:Cfg) (t:List Int) (K:CluM) (win:Int):List (Int×List Ent×Int×List (List Int)):=K.sh.map fun S=>sumOf (tierAt (drainS c t S win).ts win)
theorem W1_ {c:Cfg} {t:List Int} {K:CluM} {N:Nat} {win:Int} (hn:A8_ c) (h:CluOk c K N) {l:List Summ} (e:l.map plainS=sumsK c t K win):∀s∈l,SumN s:=by
 intro s hs
 have h1:plainS s∈sumsK c t K win:=by rw[←e];exact List.mem_map_of_mem hs
 obtain⟨S,hS,h2⟩:=List.mem_map.1 h1;exact Z7_ hn (fun X hX=>Tx_ (Ft_ hn.cfg win (h.sh S hS)).1 hX) h2.symm
theorem Jx_:∀{l:List Summ},(∀s∈l,SumN s)→(keysL l).length≤96*l.length
 | [],_=>by simp[keysL]
 | s::l,h=>by
  have h1:=Jx_ (l:=l) fun x hx=>h x (by simp[hx])
  have h2:=(h s (by simp)).few;unfold keysL at *;simp only[List.flatMap_cons,List.length_append,List.length_map,List.length_cons]
  omega
def RepOf (c:Cfg) (t:List Int) (K:CluM) (win:Int) (r:Rep):Prop:=
 ∃l:List Summ,(∀s∈l,SumN s)∧I64 win∧(∀n∈K.rej,W64 n)∧l.map plainS=sumsK c t K win∧r.win=win∧r.tot=totalF l∧r.lines=bLs c t l∧r.over=bOver c t l∧r.trk =((keysF l).length:Int)∧r.rest=bRest c t l∧r.rej=K.rej
def repBl (r:Rep):Fp:=fun i=>(0<r.lines.length∧ownF r.vl i)∨(0<r.rej.length∧ownF r.vr i)
theorem Nu_ {α:Type} {f:α→List Value} {s:Nat} {w:World} {v:Value} {l:List α} (h:RdL f s w v l) (h0:0<l.length):Low w (ownF v):=by
 intro i hi
 rcases h.2.2 with⟨h1,_⟩ |⟨g,off,cap,e,hg,_⟩
 ·omega
 ·rw[e] at hi;cases hi;exact hg
theorem repK : Ls_ RepRd repBl :=
  ⟨fun h k ho => ⟨h.lines.keptS k fun h0 a n c e hs => ho a.block (.inl ⟨h0, by rw [e]; rfl⟩) hs, h.rej.keptS k fun h0 a n c e hs => ho a.block (.inr ⟨h0, by rw [e]; rfl⟩) hs, h.lcap, h.rcap⟩,
   fun h i hi => hi.elim (fun ⟨h0, e⟩ => Nu_ h.lines h0 i e) fun ⟨h0, e⟩ => Nu_ h.rej h0 i e⟩
theorem Gw_ (r:Rep) :(repF r).length=7:=rfl
theorem L3_:Elt 32 26 (.agg #[.int .i64 0,.int .u64 0,.slice none 0 0,.int .u64 0,.int .i64 0,.int .u64 0,.slice none 0 0]) 7 88:=⟨Tryz.underlying32,by kernel_rfl,rfl,by decide⟩
theorem Xr_:Elt 123 129 (.agg #[.int .u64 0,.slice none 0 0,.int .u64 0,.slice none 0 0]) 4 64:=⟨Tryz.underlying123,by kernel_rfl,rfl,by decide⟩
abbrev Jr_ (lo:Nat) (w:World) (v:Value) (l:List Rep):Prop:=Bo_ repF 7 26 RepRd repBl lo w v l
def I6_ (v:Value) (l:List Rep):Fp:=fun i=>ownF v i∨∃r∈l,repBl r i
theorem Jr_.low {lo:Nat} {w:World} {v:Value} {l:List Rep} (h:Jr_ lo w v l):Low w (I6_ v l):=fun i hi=>hi.elim (h.own.low i) fun⟨x,hx,hi⟩=>repK.low (h.all x hx).1 i hi
theorem Jr_.offS {lo:Nat} {w w':World} {v:Value} {l:List Rep} {S:Fp} (h:Jr_ lo w v l) (k:GrownS S w w') (ho:Off (I6_ v l) S):Jr_ lo w' v l:=
 ⟨h.own.offS k (ho.left fun i hi=>.inl hi),fun x hx=>⟨repK.keep (h.all x hx).1 k fun i hi=>ho i (.inr ⟨x,hx,hi⟩),(h.all x hx).2⟩⟩
def Vw_ (w:World) (s:Summ):Prop:=∃vs':List SlR,s.vs=vs'.map SlR.v∧OSum 0 w s.ve s.vr vs' s.es s.rows
def d0_ (s:Summ):Fp:=fun i=>ownF s.ve i∨ownF s.vr i∨∃v∈s.vs,ownF v i
theorem sumK:Ls_ Vw_ d0_:=by
 refine⟨fun {w w' S s} ⟨vs',e,h⟩ k ho=>⟨vs',e,⟨h.es.offS k fun i hi=>ho i (.inl hi),h.rows.keptS k fun i hi=>ho i ?_,h.base⟩⟩,fun {w s} ⟨vs',e,h⟩ i hi=>?_⟩
 ·rcases hi with hi |⟨u,hu,hi⟩
  ·exact .inr (.inl hi)
  ·exact .inr (.inr ⟨u.v,by rw[e];exact List.mem_map_of_mem hu,hi⟩)
 ·rcases hi with hi|hi |⟨v,hv,hi⟩
  ·exact h.es.low i hi
  ·exact h.rows.low i (.inl hi)
  ·rw[e] at hv
   obtain⟨u,hu,rfl⟩:=List.mem_map.1 hv;exact h.rows.low i (.inr ⟨u,hu,hi⟩)
theorem Vw_.rd {w:World} {s:Summ} (h:Vw_ w s):SumRd w s:=by
 obtain⟨vs',e,h⟩:=h;have h2:=h.rows.rd;rw[←e] at h2;exact⟨h.es.rd,h2.rd,h2.len,h2.all⟩
abbrev cs_ (lo:Nat) (w:World) (v:Value) (l:List Summ):Prop:=Bo_ sumF 4 129 Vw_ d0_ lo w v l
theorem cs_.rd {lo:Nat} {w:World} {v:Value} {l:List Summ} (h:cs_ lo w v l) (hs:∀s∈l,SumN s):Cj_ w v l:=
 ⟨h.own.rd,fun s hs'=>(h.all s hs').1.rd,fun s hs'=>(hs s hs').wf⟩
end
section
open Go.RowKit Go.Sort
theorem c7_ {α:Type} {f:α→List Value} {st e:TypeId} {z:Value} {size bytes:Nat} {w:World} {B:Nat} {v:Value} {l l2:List α} {A:Option Addr} {m c:Nat} {o:Oper} {a:Act} {ops:Array Oper} {rest:List Oper} {Q:Exit→Act→World→Prop}
  (E:Elt st e z size bytes) (h1:∀u∈cellsOf f l2,u.oneCell'=true) (hown:Own f size e B w v l) (hr:RdL f size w (.slice A m c) l2) (hm:m=l2.length) (hb :(l.length+l2.length)*bytes≤140737488355328) (h63:l.length+l2.length≤9223372036854775807) (hbase:B≤w.heap.size)
  (hgd:o.guard=none) (s x:Operand) (ho:o.op=.call { callee:=.builtin .append,args:=#[s,x],argTypes:=#[st,st] }) (hs:a.eval s=v) (hx:a.eval x=.slice A m c)
  (h:∀v' w',Own f size e B w' v' (l++l2)→w.grownBy w' v.ownBlock→Lies v v' w.heap.size→wpList Tryz.prog ops Q rest (a.put o.dst v') w'):wpList Tryz.prog ops Q (o::rest) a w:=by
 refine wpList_plain hgd fun _ hK=>?_
 subst hm;obtain⟨v',w',hrun,h2,h3,h4⟩:=E7_ (ty:=o.type) E hown hr h1 (by unfold maxLen;exact h63) hb hbase;unfold Oper.wp execOp;simp only[ho,resolve,invoke,builtin,Sem.run_bind,Sem.run_pure,Result.andThen_ok,List.map_toArray,List.map_cons,List.map_nil,hs,hx,hrun];exact hK _ _ (h v' w' (by unfold Own;rw[Ap_,List.length_append];exact h2) h3 h4)
section
variable {w w':World} {G:RcG} {c:Cfg} {t:List Int} {K:CluM} {N:Nat}
theorem W0_ (h:RClu w G c t K) (hC:CfgW w c t G.F) (hOk:CluOk c K N) (hN:N≤1000000000) {i:Nat} {s:RshG} {S:ShM} (hi:G.sh[i]?=some s) (hS:K.sh[i]?=some S) (win:Int) :
  Calls Tryz.prog 55 #[.pointer (some ⟨s.g,0,none⟩),.int .i64 win] w (fun e w'=>(∃x y,e=.returned (.tuple #[.int .i64 x,.int .i64 y]))∧∃s',RClu w' { G with sh:=G.sh.set i s' } c t { K with sh:=K.sh.set i (drainS c t S win) }∧Mov G.F (RcG.F { G with sh:=G.sh.set i s' }) w w'∧s'.g=s.g):=by
 obtain⟨o1,o2⟩:=hOk.sh S (mo_ hS)
 exact(Ye_ s c t S win w (h.core.shd i s S hi hS) o1 hC.nums.tier hC.table (hC.off.right (RcG.F_part (RcG.part_sh hi))) hC.low hC.tlen (by omega)).mono fun e w' ⟨h1,s',R,M,hg⟩=>by
  obtain⟨a,b⟩:=h.setS hi R M hg;exact⟨⟨_,_,h1⟩,s',a,b,hg⟩
theorem Qh_ (h:RClu w G c t K) (hOk:CluOk c K N) (hN:N≤1000000000) {i:Nat} {s:RshG} {S:ShM} (hi:G.sh[i]?=some s) (hS:K.sh[i]?=some S) (win:Int) :
  Calls Tryz.prog 59 #[.pointer (some ⟨s.g,0,none⟩),.int .i64 win] w (fun e w'=>(∃x,e=.returned (.bool x))∧∃s',RClu w' { G with sh:=G.sh.set i s' } c t { K with sh:=K.sh.set i (closeS S win) }∧Mov G.F (RcG.F { G with sh:=G.sh.set i s' }) w w'∧s'.g=s.g):=by
 obtain⟨o1,o2⟩:=hOk.sh S (mo_ hS)
 exact(Vl_ s c t S win w (h.core.shd i s S hi hS) (by omega)).mono fun e w' ⟨h1,s',R,M,hg⟩=>by
  obtain⟨a,b⟩:=h.setS hi R M hg;exact⟨⟨_,h1⟩,s',a,b,hg⟩
theorem dg_ (h:RClu w G c t K) (hn:A8_ c) (hOk:CluOk c K N) {i:Nat} {s:RshG} {S:ShM} (hi:G.sh[i]?=some s) (hS:K.sh[i]?=some S) (win:Int) :
  Calls Tryz.prog 56 #[.pointer (some ⟨s.g,0,none⟩),.int .i64 win] w (Rx_ (tierAt S.ts win) w):=
 Yh_ s c t S win w (h.core.shd i s S hi hS) (hOk.sh S (mo_ hS)).1 hn
theorem a2_ (h:RClu w G c t K) (hOk:CluOk c K N) (hN:N≤1000000000):Calls Tryz.prog 53 #[.pointer (some ⟨G.bl,0,none⟩)] w (RetOwn intF 1 3 (K.led.map (·.1)) w):=
 Jk_ G.LF G.bl K.led K.acc K.rej w h.core.led (by have:=hOk.led;omega)
theorem cx_ (h:RClu w G c t K):Calls Tryz.prog 58 #[.pointer (some ⟨G.bl,0,none⟩)] w (RetOwn wordF 1 22 K.rej w):=
 Jg_ G.LF G.bl K.led K.acc K.rej w h.core.led
end
structure TkF (w:World) (U:Fp) (lo:Nat) (vw:Value) (ws:List Int) (vo:Value) (rs:List Rep):Prop where
 win:Own intF 1 3 lo w vw ws
 o1:Off (ownF vw) U
 out:Jr_ lo w vo rs
 o2:Off (I6_ vo rs) U
 o3:Off (ownF vw) (I6_ vo rs)
theorem TkF.mov {w w':World} {U U':Fp} {lo:Nat} {vw:Value} {ws:List Int} {vo:Value} {rs:List Rep} (h:TkF w U lo vw ws vo rs) (m:Mov U U' w w'):TkF w' U' lo vw ws vo rs:=
 ⟨h.win.offS m.grown h.o1,m.off h.win.low h.o1,h.out.offS m.grown h.o2,m.off h.out.low h.o2,h.o3⟩
structure TkS (w0:World) (G0:RcG) (c:Cfg) (t:List Int) (w:World) (G:RcG) (K:CluM) (vw:Value) (ws:List Int) (vo:Value) (rs:List Rep):Prop where
 clu:RClu w G c t K
 cfg:CfgW w c t G.F
 mov:Mov G0.F G.F w0 w
 fr:TkF w G.F w0.heap.size vw ws vo rs
 tl:∀i,ownF c.Table i→i<w0.heap.size
 g:G.g=G0.g
 bl:G.bl=G0.bl
 vs:G.vs=G0.vs
 gs:G.sh.map (·.g)=G0.sh.map (·.g)
section
variable {w0 w w':World} {G0 G G':RcG} {c:Cfg} {t:List Int} {K K':CluM} {vw vo vo':Value} {ws:List Int} {rs rs':List Rep}
theorem TkS.same (h:TkS w0 G0 c t w G K vw ws vo rs) (g:w.grownBy w' none):TkS w0 G0 c t w' G K vw ws vo rs:=⟨h.clu.same g,h.cfg.same g,h.mov.trans (Mov.same g),h.fr.mov (Mov.same g),h.tl,h.g,h.bl,h.vs,h.gs⟩
theorem TkS.step (h:TkS w0 G0 c t w G K vw ws vo rs) (hc:RClu w' G' c t K') (m:Mov G.F G'.F w w') (hg:G'.g=G.g) (hb:G'.bl=G.bl) (hv:G'.vs=G.vs) (hs:G'.sh.map (·.g)=G.sh.map (·.g)):TkS w0 G0 c t w' G' K' vw ws vo rs:=
 ⟨hc,h.cfg.mov m,h.mov.trans m,h.fr.mov m,h.tl,hg.trans h.g,hb.trans h.bl,hv.trans h.vs,hs.trans h.gs⟩
theorem TkS.wins {v0:Value} {ws0:List Int} (h:TkS w0 G0 c t w G K v0 ws0 vo rs) (g:w.grownBy w' none) (o:Own intF 1 3 w.heap.size w' vw ws):TkS w0 G0 c t w' G K vw ws vo rs:=by
 have h2:=h.same g
 have hlo:=fun i hi=>(o.lt i hi).1
 exact⟨h2.clu,h2.cfg,h2.mov,⟨o.base fun k hk=>lt_ h.mov.size (hlo k hk),fun i hi hf=>by have:=hlo i hi;have:=h.clu.low i hf;omega,h2.fr.out,h2.fr.o2,fun i hi hf=>by have:=hlo i hi;have:=h.fr.out.low i hf;omega⟩,h2.tl,h2.g,h2.bl,h2.vs,h2.gs⟩
theorem TkS.app {wd:World} (hd:TkS w0 G0 c t wd G K vw ws vo rs) (gz:wd.grownBy w none) {r:Rep} (hr:RepRd w r) (hb:∀i,repBl r i→wd.heap.size≤i)
  (ho:Own repF 7 26 w0.heap.size w' vo' (rs++[r])) (hg:w.grownBy w' vo.ownBlock) (hL:Lies vo vo' w.heap.size):TkS w0 G0 c t w' G K vw ws vo' (rs++[r]):=by
 have h:=hd.same gz
 have gS:GrownS (ownF vo) w w':=GrownS.of hg fun k hk=>hk
 have hnew:∀i,ownF vo' i→ownF vo i∨w.heap.size≤i:=fun i hi=>by
  rcases hL with e |⟨m,e1,e2⟩
  ·left;unfold ownF at hi ⊢;rw[←e];exact hi
  ·right;unfold ownF at hi;rw[e1] at hi;cases hi;exact e2
 have hlo:∀i,ownF vo i→w0.heap.size≤i:=fun i hi=>(h.fr.out.own.lt i hi).1
 have hcl:=hd.clu.low;have hcl2:=h.clu.low
 have hT:Off (ownF c.Table) (ownF vo):=fun i hi hf=>by have:=h.tl i hi;have:=hlo i hf;omega
 have hof:Off G.F (ownF vo):=h.fr.o2.symm.right fun i hi=>.inl hi
 have hwl:=hd.fr.win.low;have hwl2:=h.fr.win.low;have hz:w0.heap.size≤wd.heap.size:=hd.mov.size;have hz2:=gz.size;refine⟨h.clu.keptS gS hof,⟨h.cfg.nums,Bk_ h.cfg.table gS hT,h.cfg.tlen,h.cfg.low.up gS.size,h.cfg.off⟩,⟨h.mov.grown.trans gS fun i hi hlt=>by have:=hlo i hi;omega,h.mov.new⟩,⟨h.fr.win.offS gS (h.fr.o3.right fun i hi=>.inl hi),h.fr.o1,h.fr.out.snocN repK (N:=wd.heap.size) hr hz hb (fun k hk=>hd.fr.out.own.low k hk) ho hg hL,?_,?_⟩,h.tl,h.g,h.bl,h.vs,h.gs⟩
 ·intro i hi hf
  rcases hi with hi |⟨x,hx,hi⟩
  ·rcases hnew i hi with e|e
   ·exact h.fr.o2 i (.inl e) hf
   ·have:=hcl2 i hf;omega
  ·rcases ma_ hx with hx|hx
   ·exact h.fr.o2 i (.inr ⟨x,hx,hi⟩) hf
   ·rw[ms_ hx] at hi
    have:=hb i hi;have:=hcl i hf;omega
 ·intro i hf hi
  rcases hi with hi |⟨x,hx,hi⟩
  ·rcases hnew i hi with e|e
   ·exact h.fr.o3 i hf (.inl e)
   ·have:=hwl2 i hf;omega
  ·rcases ma_ hx with hx|hx
   ·exact h.fr.o3 i hf (.inr ⟨x,hx,hi⟩)
   ·rw[ms_ hx] at hi
    have:=hb i hi;have:=hwl i hf;omega
end
def repsK (c:Cfg) (t:List Int) (K:CluM) (ws:List Int) (rs:List Rep):Prop:=rs.length=ws.length∧∀(i:Nat) r win,rs[i]?=some r→ws[i]?=some win→RepOf c t ((ws.take i).foldl (closeK c t) K) win r
theorem Sh_ (c:Cfg) (t:List Int) (K:CluM):repsK c t K [] []:=⟨rfl,by simp⟩
theorem P5_ {c:Cfg} {t:List Int} {K:CluM} {ws:List Int} {rs:List Rep} {win:Int} {r:Rep} (h:repsK c t K ws rs) (hr:RepOf c t (ws.foldl (closeK c t) K) win r):repsK c t K (ws++[win]) (rs++[r]):=by
 refine⟨by simp[h.1],fun i x y hx hy=>?_⟩
 by_cases hi:i<ws.length
 ·rw[List.getElem?_append_left (by rw[h.1];exact hi)] at hx
  rw[List.getElem?_append_left hi] at hy;rw[List.take_append_of_le_length (by omega)];exact h.2 i x y hx hy
 ·have h1:=(gs_ hx).1
  have h2:=h.1;simp only[List.length_append,List.length_singleton] at h1
  have hi2:i=ws.length:=by omega
  subst hi2;rw[List.getElem?_append_right (by omega),h.1] at hx;rw[List.getElem?_append_right (by omega)] at hy;simp only[Nat.sub_self,List.getElem?_cons_zero,Option.some.injEq] at hx hy;subst hx hy;rw[List.take_left' rfl];exact hr
theorem Sy_ {lo:Nat} {a:Option Addr} {n c:Nat} (h:From lo (.slice a n c)):∀i,ownF (.slice a n c) i→lo≤i:=by
 intro i hi
 cases a with
 | none=>cases hi
 | some ad=>cases hi;exact h _ _ _ rfl
theorem Vx_ {c:Cfg} {t:List Int} {lv:Value} {l:List Summ} {w:World} (hn:CfgNums c) (hr:RCfg w c t) (hs:Cj_ w lv l) (h:∀s∈l,SumN s) (hl:l.length≤8):FewB c t lv l w:=
 ⟨hr,hs,⟨fun s hs=>(h s hs).wf,fun s hs=>(h s hs).rows,fun s hs=>(h s hs).len⟩,fun s hs=>(h s hs).small,by have:=Jx_ h;omega,hn.top⟩
theorem dn_ (c:Cfg) (t:List Int) (K:CluM) (win:Int) {j:Nat} (hj:j<K.sh.length) :(clK c t K win 0).sh[j]?=some (drainS c t K.sh[j] win):=by
 unfold clK;dsimp only;rw[E4_,List.getElem?_map,gq_ hj];rfl
theorem bp_ (c:Cfg) (t:List Int) (K:CluM) (win:Int) {j:Nat} (hj:j<K.sh.length) :(clK c t K win j).sh[j]?=some (drainS c t K.sh[j] win):=by
 have hj2:j<(K.sh.map fun S=>drainS c t S win).length:=by simpa using hj
 unfold clK;dsimp only;rw[Lu_ hj2,List.getElem_map]
theorem X2_ (c:Cfg) (t:List Int) (K:CluM) (win:Int) {j:Nat} (hj:j<K.sh.length) :({ clK c t K win j with sh:=(clK c t K win j).sh.set j (closeS (drainS c t K.sh[j] win) win) }:CluM)=clK c t K win (j+1):=by
 have hj2:j<(K.sh.map fun S=>drainS c t S win).length:=by simpa using hj
 have h:=Kp_ (f:=fun S=>closeS S win) hj2;rw[List.getElem_map] at h;unfold clK;dsimp only;rw[h]
theorem Qs_ (c:Cfg) (t:List Int) (K:CluM) (win:Int) {j:Nat} (hj:j<K.sh.length) :(sumsK c t K win).take (j+1) =(sumsK c t K win).take j++[sumOf (tierAt (drainS c t K.sh[j] win).ts win)]:=by
 have h :(sumsK c t K win)[j]?=some (sumOf (tierAt (drainS c t K.sh[j] win).ts win)):=by unfold sumsK;rw[List.getElem?_map,gq_ hj];rfl
 rw[List.take_add_one,h];rfl
theorem RClu.shAt {w:World} {G:RcG} {c:Cfg} {t:List Int} {K:CluM} (h:RClu w G c t K) {ga n ca:Nat} (hv:G.vs=.slice (some ⟨ga,0,none⟩) n ca) {j:Nat} {s:RshG} (hs:G.sh[j]?=some s):w.cell? ⟨ga,j,none⟩=some (.pointer (some ⟨s.g,0,none⟩)):=by
 have hj:=(gs_ hs).1;obtain⟨ga',ca',hva,_,hga,_,hca,_⟩:=h.core.sp.at_ B9_ (i:=j) (by simpa using hj);have hc0:=hca 0 _ rfl;rw[Nat.mul_one,Nat.add_zero,List.getElem_map] at hc0;rw[hv] at hva;cases hva
 have:G.sh[j]=s:=(gs_ hs).2
 rw[this] at hc0;exact hc0
theorem RClu.vsAt {w:World} {G:RcG} {c:Cfg} {t:List Int} {K:CluM} (h:RClu w G c t K) (h0:0<G.sh.length):∃ga ca,G.vs=.slice (some ⟨ga,0,none⟩) G.sh.length ca∧ga<w.heap.size:=by
 obtain⟨ga',ca',hva,_,hga,_,hca,_⟩:=h.core.sp.at_ B9_ (i:=0) (by simpa using h0);exact⟨ga',ca',by rw[hva];simp,hga⟩
theorem Gy_ (c:Cfg) (t:List Int):∀(ws:List Int) (K:CluM),(ws.foldl (closeK c t) K).mark=K.mark
 | [],K=>rfl
 | w::ws,K=>by rw[List.foldl_cons,Gy_ c t ws];rfl
theorem Iu_ (c:Cfg) (t:List Int):∀(ws:List Int) (K:CluM),(ws.foldl (closeK c t) K).sh.length=K.sh.length
 | [],K=>rfl
 | w::ws,K=>by rw[List.foldl_cons,Iu_ c t ws];simp[closeK]
theorem T4_ {c:Cfg} {m:Int} {ws:List Int} {k:Nat} (hk:k<ws.length) (h:∀i (hi:i<k),ws[i]<lowV c m) (he:¬ws[k]<lowV c m):low1 c m ws=ws.take k:=by
 have h1:∀(ws:List Int) (k:Nat) (hk:k<ws.length),(∀i (hi:i<k),ws[i]<lowV c m)→¬ws[k]<lowV c m→ws.takeWhile (fun w=>decide (w<lowV c m))=ws.take k:=by
  intro ws
  induction ws with
  | nil=>intro k hk;simp at hk
  | cons x ws ih=>
   intro k hk h he
   cases k with
   | zero=>simp only[List.getElem_cons_zero] at he;simp[he]
   | succ k=>
    have hx:=h 0 (by omega);simp only[List.getElem_cons_zero] at hx;simp only[List.take_succ_cons,List.takeWhile_cons,decide_eq_true hx,if_true];rw[ih k (by simpa using hk) (fun i hi=>by have:=h (i+1) (by omega);simpa using this) (by simpa using he)]
 exact h1 ws k hk h he
theorem Xu_ {c:Cfg} {m:Int} {ws:List Int} (h:∀i (hi:i<ws.length),ws[i]<lowV c m):low1 c m ws=ws:=by
 have h1:∀ws:List Int,(∀x∈ws,x<lowV c m)→ws.takeWhile (fun w=>decide (w<lowV c m))=ws:=by
  intro ws
  induction ws with
  | nil=>intro _;rfl
  | cons x ws ih=>intro hx;rw[List.takeWhile_cons,decide_eq_true (hx x (by simp)),if_pos rfl,ih fun y hy=>hx y (by simp[hy])]
 refine h1 ws fun x hx=>?_
 obtain⟨i,hi,rfl⟩:=List.getElem_of_mem hx;exact h i hi
end
section
open Go.RowKit Go.Sort
def TickP (G:RcG) (c:Cfg) (t:List Int) (K:CluM) (time:Int) (w:World) (e:Ending) (w':World):Prop:=
 ∃G' vw ws vo rs,e=.returned (.tuple #[vo,.int .i64 0])∧TkS w G c t w' G' (tickK c t K time) vw ws vo rs∧repsK c t { K with mark:=max K.mark time } (low1 c (max K.mark time) (K.led.map (·.1))) rs
def badT (n:Int):Prop:=n<0∨1099511627776<n
theorem Pf_ (G:RcG) (c:Cfg) (t:List Int) (K:CluM) (N:Nat) (time:Int) (w:World) (h:RClu w G c t K) (hC:CfgW w c t G.F) (hOk:CluOk c K N) (hN:N<1000000000) (hT:¬badT time) :
  Calls Tryz.prog 22 #[.pointer (some ⟨G.g,0,none⟩),.int .i64 time] w (TickP G c t K time w):=by
 have d1:decide (time<0)=false:=decide_eq_false fun h=>hT (.inl h)
 have d2:decide (1099511627776<time)=false:=decide_eq_false fun h=>hT (.inr h)
 have b0:=h.blk.cell;have f0:=h.blk.free;obtain⟨RM,MM⟩:=h.setM (Ab_ w none) (max K.mark time);have HRM:=hh_ RM;have HMM:=hh_ MM;have HC:=hh_ hC;have HOk:=hh_ (show CluOk c { K with mark:=max K.mark time } N from⟨hOk.str,hOk.acc,hOk.led,hOk.items,hOk.len,hOk.sh,hOk.its⟩);have hsl:G.sh.length=K.sh.length:=h.core.len;have hkl:=hOk.len;have HTk:=hh_ (show tickK c t K time =(low1 c (max K.mark time) (K.led.map (·.1))).foldl (closeK c t) { K with mark:=max K.mark time } from rfl);clear RM MM h hC hOk hT
 go_enter Tryz.func22,Tryz.ntmps22
 go_upto_region 4 with fail
 generalize w.setCell ⟨G.g,17,none⟩ (.int .i64 (max K.mark time))=w1 at *;obtain⟨m,hm⟩:∃m,max K.mark time=m:=⟨_,rfl⟩;rw[hm] at HRM HOk HTk;have hmm:=hh_ hm;obtain⟨K1,hK1⟩:∃K1:CluM,{ K with mark:=m }=K1:=⟨_,rfl⟩
 have hm1:K1.mark=m:=by rw[←hK1]
 have hl1:K1.led=K.led:=by rw[←hK1]
 have hs1:K1.sh.length=K.sh.length:=by rw[←hK1]
 rw[hK1] at HRM HOk HTk;have HP:=hh_ (show ∀G' vw ws vo rs z,TkS w G c t z G' ((low1 c m (K1.led.map (·.1))).foldl (closeK c t) K1) vw ws vo rs→repsK c t K1 (low1 c m (K1.led.map (·.1))) rs→TickP G c t K time w (.returned (.tuple #[vo,.int .i64 0])) z from fun G' vw ws vo rs z h1 h2=>⟨G',vw,ws,vo,rs,rfl,by rw[HTk.out,←hl1];exact h1,by rw[hmm.out,hK1,←hl1];exact h2⟩);have D1:TkS w G c t w1 G K1 (.slice none 0 0) [] (.slice none 0 0) []:=⟨HRM.out,HC.out.mov HMM.out,HMM.out,⟨Own.nil _ _ _ _ _,fun i hi=>absurd hi (Ax_ i),Bo_.nil _ _,fun i hi=>by rcases hi with hi |⟨_,hx,_⟩;exact absurd hi (Ax_ i);simp at hx,fun i hi=>absurd hi (Ax_ i)⟩,HC.out.low,rfl,rfl,rfl,rfl⟩;have HKy:=hh_ HRM.out.core.led.keys;have HRj:=hh_ (And.intro HRM.out.core.led.len HRM.out.core.led.rw);have CW:=hh_ (a2_ HRM.out HOk.out (by omega))
 have hwl :(K1.led.map (·.1)).length≤N:=by have:=HOk.out.led;simpa using this
 obtain⟨ws,hws⟩:∃ws,K1.led.map (·.1)=ws:=⟨_,rfl⟩;rw[hws] at CW HP hwl;have HKy:=hh_ (show ∀x∈ws,I64 x from fun x hx=>by rw[←hws] at hx;obtain⟨p,hp,rfl⟩:=List.mem_map.1 hx;exact HKy.out p hp);have b1:=HRM.out.blk.cell
 have hgl:0<G.sh.length:=by have:=HC.out.nums.shards;omega
 have hs1g:G.sh.length=K1.sh.length:=by omega
 obtain⟨ga,ca,hvs,hga⟩:=HRM.out.vsAt hgl;have Hvs:=hh_ hvs;have HD1:=hh_ D1;obtain⟨n,hnG⟩:∃n,G.sh.length=n:=⟨_,rfl⟩;have HnG:=hh_ hnG;have Hn1:=hh_ (show n=K1.sh.length by omega)
 have hn8:n≤8:=by have:=HC.out.nums.shards;omega
 rw[hnG] at Hvs;clear hsl hkl hs1 hs1g hgl hnG;clear HRM HMM b0 f0 D1 hK1 HTk hm hvs d1 d2 hws hl1 hga
 go_upto_region 6 with(go_at_call 53;refine CW.out.mono ?_;rintro e w2 ⟨vw,rfl,oW,gW⟩;obtain⟨wa,wc,rfl⟩:=oW.shape)
 have HD2:=hh_ (HD1.out.wins gW oW);have Hm1:=hh_ hm1;obtain⟨L,hL⟩:∃L,lowV c m=L:=⟨_,rfl⟩;have HLow:=hh_ (show ∀z mk,mk=m→Calls Tryz.prog 54 #[c.val,.int .i64 mk] z (fun e w'=>e=.returned (.int .i64 L)∧z.grownBy w' none) from fun z mk e=>by rw[e,←hL];exact Zr_ c m z);have hL0:=hh_ hL;clear HD1 oW gW CW b1 hm1;clear w1 hL
 go_loopw [6,37] (fun s6 s37 wk=>∃(k:Nat) (G':RcG) (K':CluM) (rs:List Rep),k≤ws.length∧s37=.int .i64 k∧TkS w G c t wk G' K' (.slice wa ws.length wc) ws s6 rs∧(ws.take k).foldl (closeK c t) K1=K'∧CluOk c K' N∧repsK c t K1 (ws.take k) rs∧∀i x,i<k→ws[i]?=some x→x<L) (fun _ s37 _=>ws.length-(RowKit.intOf s37).toNat)
 case atStart=>exact⟨0,G,K1,[],Nat.zero_le _,rfl,HD2.out,rfl,HOk.out,Sh_ c t K1,fun i x hi=>absurd hi (Nat.not_lt_zero i)⟩
 case round=>
  clear HD2 HOk;obtain⟨k,G',K',rs,hk,rfl,hD,hE,hO,hR,hlo⟩:=hrel
  by_cases hlt:k<ws.length
  ·obtain⟨gw,cw,hv,_,hgw,_,hcw,_⟩:=hD.fr.win.at_ A6_ hlt
   cases hv;have c0:=hcw 0 _ rfl;rw[Nat.mul_one,Nat.add_zero] at c0;have hwk:ws[k]?=some ws[k]:=gq_ hlt;have HT:=hh_ (show ws.take (k+1)=ws.take k++[ws[k]] from tg_ hlt);have hwi:=HKy.out ws[k] (mg_ hlt)
   have hklt :(k:Int)<(ws.length:Int):=by omega
   have HD:=hh_ hD;have HE:=hh_ hE;have HO:=hh_ hO;have HR:=hh_ hR;have HL0:=hh_ hlo;have Hwk:=hh_ hwk;have HBr:=hh_ (show ¬ws[k]<lowV c m→low1 c m ws=ws.take k from fun h=>T4_ hlt (fun i hi=>by rw[hL0.out];exact hlo i _ hi (gq_ (by omega))) h);rw[hL0.out] at HBr;clear hcw hD hE hO hR hlo hwk;generalize ws[k]=win at *
   go_upto_region 8 with fail
   obtain⟨b,hb⟩:∃b,decide (L≤win)=b:=⟨_,rfl⟩;have KN:World.grownBy wr wr.drew none:=gw_;have HDz:=hh_ (HD.out.same KN);have HRr:=hh_ (HDz.out.clu);have hgg:=HDz.out.g;have hmk:=hh_ (show K'.mark=m by rw[←HE.out,Gy_];exact Hm1.out);clear KN HD c0
   (refine rn_ 11 (fun j _ w v w'=>match j with | 9=>v=.int .i64 L∧World.grownBy w w' none | _=>False) ?_;simp only[ts_])
   generalize wr.drew=w3 at *
   (refine tq_ 4 ?_;simp only[ts_,Nat.reduceAdd];(repeat(go_big_quiet_step (fail)));refine wpQuiet_nil ?_)
   (refine Rg.tree_op rfl rfl ?_;intro x4 mx4 dx4)
   clear dx4;have BX:=(HRr.out.same mx4).cfgIn;rw[hgg] at BX
   go_wp2_with (refine Bl_ rfl _ rfl _ rfl c BX ?_)
   refine⟨Ab_ _ _,?_⟩;clear BX
   (refine tq_ 3 ?_;simp only[ts_,Nat.reduceAdd];(repeat(go_big_quiet_step (fail)));refine wpQuiet_nil ?_)
   (refine Rg.tree_op rfl rfl ?_;intro x8 mx8 dx8)
   clear dx8;have bx:=(HRr.out.same mx8).blk.cell;rw[hgg] at bx
   go_wp2_with fail
   refine⟨Ab_ _ _,?_⟩;clear bx
   (refine Rg.tree_call rfl rfl rfl ?_;intro x9 mx9 dx9;refine⟨?_,?_⟩;· (unfold Rg.callSpec;go_simp;(refine(HLow.out x9 _ hmk.out).mono ?_;rintro e w' ⟨rfl,g⟩;exact⟨_,rfl,rfl,g⟩)))
   clear dx9;rintro vx9 yx9 ⟨rfl,gx9⟩;refine⟨gx9,?_⟩;clear gx9;simp only[pt_]
   (refine tq_ 1 ?_;simp only[ts_,Nat.reduceAdd];(repeat(go_big_quiet_step (fail)));refine wpQuiet_nil ?_)
   (refine Rg.tree_nil ?_;intro z1 mz1 dz1 cz1)
   have HD3:=hh_ (HDz.out.same mz1);clear mx4 mx8 mx9 mz1 dz1 cz1 HRr HDz;have hbb:=hh_ hb;clear hb;cases b
   case true=>
    have hge:L≤win:=of_decide_eq_true hbb.out;have eW:=hh_ (HBr.out (by omega));clear hge hbb
    go_wp2_with fail
    go_ret2
    exact HP.out G' _ _ _ _ _ (by rw[eW.out,HE.out];exact HD3.out) (by rw[eW.out];exact HR.out)
   case false=>
    have hge:¬L≤win:=of_decide_eq_false hbb.out;clear hbb;have hwL:=hh_ (show win<L by omega);have hn:=Iu_ c t (ws.take k) K1;rw[HE.out] at hn;have hn:=hh_ hn;have bx:=HD3.out.clu.blk.cell;rw[hgg,HD3.out.vs,Hvs.out] at bx;have D4:=HD3.out;rw[←V2_ c t K' win] at D4;have HD4:=hh_ D4;have HnK:=hh_ (show n=K'.sh.length by have:=Hn1.out;have:=hn.out;omega);have HTC:=hh_ HC.out.nums.tier.cfg;have HTC':=hh_ HC.out.nums.tier;clear hge D4 hn
    go_upto_region 11 with fail
    go_loopw [57] (fun s57 wk=>∃(j:Nat) (G2:RcG),j≤n∧s57=.int .i64 j∧TkS w G c t wk G2 (drK c t K' win j) (.slice (some ⟨gw,0,none⟩) ws.length wc) ws u6 rs) (fun s57 _=>n-(RowKit.intOf s57).toNat)
    case atStart=>exact⟨0,G',Nat.zero_le _,rfl,HD4.out⟩
    case round=>
     clear HD4 bx HD3;obtain⟨j,G2,hj,rfl,hD⟩:=hrel
     by_cases hjl:j<n
     ·have hjk:j<K'.sh.length:=by have:=HnK.out;omega
      have hg2:G2.sh.length=n:=by have:=congrArg List.length hD.gs;have h2:=HnG.out;simp at this;omega
      have hs:G2.sh[j]?=some G2.sh[j]:=gq_ (by omega);have hS :(drK c t K' win j).sh[j]?=some K'.sh[j]:=Lu_ hjk;have cc:=hD.clu.shAt (hD.vs.trans Hvs.out) hs;have CDr:=hh_ (W0_ hD.clu hD.cfg (ek_ HTC.out HO.out win j) (by omega) hs hS win)
      have hjlt :(j:Int)<(n:Int):=by omega
      have HDj:=hh_ hD;have Hs:=hh_ hs;have eK:=hh_ (show({ drK c t K' win j with sh:=(drK c t K' win j).sh.set j (drainS c t K'.sh[j] win) }:CluM)=drK c t K' win (j+1) by unfold drK;dsimp only;rw[Kp_ (f:=fun S=>drainS c t S win) hjk]);clear hD hs hS;generalize G2.sh[j]=s2 at *
      go_wp2_with (go_at_call 55;refine CDr.out.mono ?_;rintro e w5 ⟨⟨x,y,rfl⟩,s4,RC,MC,hgs⟩)
      have DC:=HDj.out.step RC MC rfl rfl rfl (J8_ Hs.out hgs);rw[eK.out] at DC;exact⟨⟨j+1,_,by omega,by go_num,DC⟩,by simp[RowKit.intOf];omega⟩
     ·have hjn:j=K'.sh.length:=by have:=HnK.out;omega
      rw[hjn,Yj_] at hD;have hg2:=hD.g;have bx:=hD.clu.blk.cell;rw[hg2,hD.vs,Hvs.out] at bx;have HDB:=hh_ hD;clear hD hg2 hjn
      go_upto_region 16 with fail
      generalize wr=wB at *
      go_loopw [9,70] (fun s9 s70 wk=>∃(j:Nat) (l:List Summ),j≤n∧s70=.int .i64 j∧cs_ wB.heap.size wk s9 l∧l.map plainS =(sumsK c t K' win).take j∧wB.grownBy wk none) (fun _ s70 _=>n-(RowKit.intOf s70).toNat)
      case atStart=>exact⟨0,[],Nat.zero_le _,rfl,Bo_.nil _ _,rfl,Ab_ _ _⟩
      case round=>
       clear bx;obtain⟨j,l,hj,rfl,hL,hlp,hgB⟩:=hrel
       have hlj:l.length=min j K'.sh.length:=by have:=congrArg List.length hlp;simpa [sumsK] using this
       by_cases hjl:j<n
       ·have hjk:j<K'.sh.length:=by have:=HnK.out;omega
        have D5:=HDB.out.same hgB
        have hg2:G2.sh.length=n:=by have:=congrArg List.length D5.gs;have h2:=HnG.out;simp at this;omega
        have hs:G2.sh[j]?=some G2.sh[j]:=gq_ (by omega);have cc:=D5.clu.shAt (D5.vs.trans Hvs.out) hs;have CSm:=dg_ D5.clu HC.out.nums.tier (Uj_ HTC.out HO.out win 0) hs (dn_ c t K' win hjk) win;have HTj:=Qs_ c t K' win hjk;obtain⟨p,hp⟩:∃p,sumOf (tierAt (drainS c t K'.sh[j] win).ts win)=p:=⟨_,rfl⟩;obtain⟨tot,es,un,rows⟩:=p;unfold Rx_ at CSm;rw[hp] at CSm HTj;dsimp only at CSm;rw[←hlp] at HTj;have HTj:=hh_ HTj;have CSm:=hh_ CSm;have HL:=hh_ hL;have hgB':=hh_ hgB
        have hjlt :(j:Int)<(n:Int):=by omega
        have hlj2:l.length=j:=by omega
        have hcb1 :(l.length+1)*64≤140737488355328:=by omega
        have hcb2:l.length+1≤9223372036854775807:=by omega
        clear hs hp hL hlp hgB D5 hlj;generalize G2.sh[j]=s2 at *
        go_upto_region 18 with fail
        go_upto_region 19 with(first
         |(go_at_call 56;refine CSm.out.mono ?_;rintro e w5 ⟨ve,vr,vs',rfl,oS,g5⟩;obtain⟨ea,ec,rfl⟩:=oS.es.shape;obtain⟨ra,rc,rfl⟩:=oS.rows.own.shape;have HoS:=hh_ oS;have Hg5:=hh_ g5;have hz5:=g5.size;have HL5:=hh_ (HL.out.same sumK g5);have hzB:wB.heap.size≤w5.heap.size:=lt_ hgB'.out.size g5.size;have Hcs:=hh_ (show(#[Value.int .u64 tot,.slice ea es.length ec,.int .u64 un,.slice ra vs'.length rc]:Array Value).toList=sumF ⟨tot,.slice ea es.length ec,un,.slice ra vs'.length rc,es,vs'.map SlR.v,rows⟩ from rfl);clear oS g5)
         |(at_builtin;refine Bw_ Xr_ N2_ HL5.out.own ⟨tot,.slice ea es.length ec,un,.slice ra vs'.length rc,es,vs'.map SlR.v,rows⟩ (by intro u hu;simp[sumF] at hu;rcases hu with rfl|rfl|rfl|rfl <;> rfl) hcb1 hcb2 hzB Hcs.out (by rfl) _ _ (by rfl) (by rfl) (by rfl) ?_;intro v7 w7 o7 g7 l7))
        have hNw:=fun k hk=>(HL.out.own.lt k hk).2
        have L7:=HL5.out.snocN sumK (N:=wr.heap.size) ⟨vs',rfl,HoS.out.base' (Nat.zero_le _)⟩ hgB'.out.size (fun i hi=>by
         rcases hi with hi|hi |⟨v,hv,hi⟩
         ·exact(HoS.out.es.lt i hi).1
         ·exact HoS.out.base i (.inl hi)
         ·obtain⟨u,hu,rfl⟩:=List.mem_map.1 hv
          exact HoS.out.base i (.inr ⟨u,hu,hi⟩)) hNw o7 g7 l7
        have G7:=Ao_ (Aa_ hgB'.out Hg5.out) HL5.out.own (Nat.le_refl _) g7;obtain⟨la,lc,rfl⟩:=o7.shape;simp only[List.length_append,List.length_singleton,hlj2] at L7;have HE7:=hh_ (And.intro L7 G7);clear L7 G7 o7 g7 l7 HL5 HoS CSm HL hNw cc Hcs;simp only[List.length_append,List.length_singleton,hlj2];clear hlj2 hcb1 hcb2
        go_wp2_with fail
        exact⟨⟨j+1,_,by omega,by go_num,HE7.out.1,by rw[HTj.out];simp[plainS],HE7.out.2⟩,by simp[RowKit.intOf];omega⟩
       ·have hjn:j=K'.sh.length:=by have:=HnK.out;omega
        have hSN:∀s∈l,SumN s:=W1_ HTC'.out HO.out (win:=win) (by rw[hlp,hjn];exact tk_ (by simp[sumsK]))
        have hlp2:l.map plainS=sumsK c t K' win:=by rw[hlp,hjn];exact tk_ (by simp[sumsK])
        have hl8:l.length≤8:=by omega
        have D5:=HDB.out.same hgB;have FB:=Vx_ HC.out.nums D5.cfg.rcfg (hL.rd hSN) hSN hl8;have hLow:Low wr (fun i=>G2.F i):=D5.clu.low;obtain⟨la,lc,rfl⟩:=hL.own.shape;have hgg:=D5.g;have hrl:=D5.clu.core.led.len;have hrw:∀x∈K'.rej,W64 x:=D5.clu.core.led.rw;have hrl:K'.rej.length=7:=hrl;have CRj:=hh_ (show ∀z,wr.grownBy z none→Calls Tryz.prog 58 #[.pointer (some ⟨G2.bl,0,none⟩)] z (RetOwn wordF 1 22 K'.rej z) from fun z q=>cx_ (K:=clK c t K' win 0) (D5.clu.same q))
        have CBd:=hh_ fun z (q:wr.grownBy z none) rv (hr:RdL wordF 1 z rv K'.rej)=>R1_ c t (.slice la l.length lc) l rv K'.rej win z (FB.same q) hr (by omega)
        unfold Gm_ at CBd;obtain⟨tot,htot⟩:∃x,totalF l=x:=⟨_,rfl⟩;obtain⟨ov,hov⟩:∃x,bOver c t l=x:=⟨_,rfl⟩;obtain⟨tk,htk⟩:∃x,(keysF l).length=x:=⟨_,rfl⟩;obtain⟨rst,hrst⟩:∃x,bRest c t l=x:=⟨_,rfl⟩;obtain⟨Ls,hLs⟩:∃x,bLs c t l=x:=⟨_,rfl⟩;rw[htot,hov,htk,hrst,hLs] at CBd;have HRO:=hh_ (show ∀vl vr,RepOf c t K' win ⟨win,tot,vl,ov,tk,rst,vr,Ls,K'.rej⟩ from fun vl vr=>⟨l,hSN,hwi,hrw,hlp2,rfl,htot.symm,hLs.symm,hov.symm,by rw[htk],hrst.symm,rfl⟩);have HD5:=hh_ D5;have Hrl:=hh_ hrl
        have hrs:rs.length=k:=by have:=HR.out.1;rw[List.length_take] at this;omega
        have hrs1 :(rs.length+1)*88≤140737488355328:=by omega
        have hrs2:rs.length+1≤9223372036854775807:=by omega
        have hrs3:w.heap.size≤wr.heap.size:=D5.mov.size;clear htot hov htk hrst hLs hSN hlp2 hlp FB hLow hL hgB D5 hrl hrw hjn hlj;generalize l.length=ln at *;generalize K'.rej=RJ at *
        go_upto_region 20 with fail
        have KN:World.grownBy wr wr.drew none:=gw_;have HDz:=hh_ (HD5.out.same KN);have HRr:=hh_ HDz.out.clu;have GN:=hh_ KN;clear KN HD5
        (refine rn_ 14 (fun j _ w v w'=>match j with | 11=>RdL wordF 1 w' v RJ∧World.grownBy w w' none | 12=>(∃vl vr,v=repV win tot vl ov tk rst vr∧RdL lnF 3 w' vl Ls∧RdL wordF 1 w' vr RJ∧CapOk vl∧CapOk vr∧From w.heap.size vl∧From w.heap.size vr)∧World.grownBy w w' none | _=>False) ?_;simp only[ts_])
        generalize wr.drew=wd at *
        (refine tq_ 4 ?_;simp only[ts_,Nat.reduceAdd];(repeat(go_big_quiet_step (fail)));refine wpQuiet_nil ?_)
        (refine Rg.tree_op rfl rfl ?_;intro x4 mx4 dx4)
        clear dx4;have BX:=(HRr.out.same mx4).cfgIn;rw[hgg] at BX
        go_wp2_with (refine Bl_ rfl _ rfl _ rfl c BX ?_)
        refine⟨Ab_ _ _,?_⟩;clear BX
        (refine tq_ 5 ?_;simp only[ts_,Nat.reduceAdd];(repeat(go_big_quiet_step (fail)));refine wpQuiet_nil ?_)
        (refine Rg.tree_op rfl rfl ?_;intro x10 mx10 dx10)
        clear dx10;have bx:=(HRr.out.same mx10).blk.cell;rw[hgg] at bx
        go_wp2_with fail
        refine⟨Ab_ _ _,?_⟩;clear bx
        (refine Rg.tree_call rfl rfl rfl ?_;intro x11 mx11 dx11;refine⟨?_,?_⟩;· (unfold Rg.callSpec;go_simp;(refine(CRj.out x11 (Aa_ GN.out mx11)).mono ?_;rintro e w' ⟨v,rfl,o,g⟩;exact⟨_,rfl,o.rd,g⟩)))
        clear dx11;rintro v11 y11 ⟨R11,g11⟩;refine⟨g11,?_⟩;obtain⟨ja,jc,rfl⟩:=R11.shape;simp only[pt_]
        (refine Rg.tree_call rfl rfl rfl ?_;intro x12 mx12 dx12;refine⟨?_,?_⟩;· (unfold Rg.callSpec;go_simp;(refine(CBd.out x12 (Aa_ GN.out mx12) _ (RdL.same R11 (dx12.out 11 (by omega) (by kernel_rfl)))).mono ?_;rintro e w' ⟨vl,vr,rfl,h1,h2,h3,h4,h5,h6,g⟩;exact⟨_,rfl,⟨vl,vr,rfl,h1,h2,h3,h4,h5,h6⟩,g⟩)))
        clear dx12;rintro v12 y12 ⟨⟨vl,vr,rfl,hl1,hr1,hc1,hc2,hf1,hf2⟩,g12⟩;refine⟨g12,?_⟩;obtain⟨a1,k1,rfl⟩:=hl1.shape;obtain⟨a2,k2,rfl⟩:=hr1.shape;simp only[pt_]
        (refine Rg.tree_op rfl rfl ?_;intro x13 mx13 dx13)
        clear dx13
        go_wp2_with fail
        refine⟨ga_ _ _ _,?_⟩;have N13:=Blk.new x13 #[.int .i64 win,.int .u64 tot,.slice a1 Ls.length k1,.int .u64 ov,.int .i64 tk,.int .u64 rst,.slice a2 RJ.length k2] 26;generalize x13.alloc (.cells #[.int .i64 win,.int .u64 tot,.slice a1 Ls.length k1,.int .u64 ov,.int .i64 tk,.int .u64 rst,.slice a2 RJ.length k2] 26)=e13 at *;generalize x13.heap.size=g13 at *
        (refine Rg.tree_nil ?_;intro z2 mz2 dz2 cz2)
        have HD6:=hh_ (HDz.out.same mz2);have R6:RepRd z2 ⟨win,tot,.slice a1 Ls.length k1,ov,tk,rst,.slice a2 RJ.length k2,Ls,RJ⟩:=⟨hl1.same (dz2.out 12 (by omega)),hr1.same (dz2.out 12 (by omega)),hc1,hc2⟩;have N14:=hh_ ((N13.same (dz2.out 13 (by omega))).one Gw_ ⟨win,tot,.slice a1 Ls.length k1,ov,tk,rst,.slice a2 RJ.length k2,Ls,RJ⟩ rfl);have hz12:=mx12.size;have hb6:=hh_ (show ∀i,repBl ⟨win,tot,.slice a1 Ls.length k1,ov,tk,rst,.slice a2 RJ.length k2,Ls,RJ⟩ i→wd.heap.size≤i from fun i hi=>hi.elim (fun h=>lt_ hz12 (Sy_ hf1 i h.2)) fun h=>lt_ hz12 (Sy_ hf2 i h.2));have HR6:=hh_ R6;have Hmz:=hh_ mz2;have HRO2:=hh_ (HRO.out (.slice a1 Ls.length k1) (.slice a2 RJ.length k2));have hrs4:w.heap.size≤z2.heap.size:=HD6.out.mov.size;clear mx4 mx10 mx11 mx12 mx13 g11 g12 R11 hl1 hr1 hc1 hc2 hf1 hf2 N13 mz2 dz2 cz2 HRr CRj CBd HRO R6 hz12 hrs3;generalize hrr :(⟨win,tot,.slice a1 Ls.length k1,ov,tk,rst,.slice a2 RJ.length k2,Ls,RJ⟩:Rep)=r at *;have Hone:=hh_ (show ∀u∈cellsOf repF [r],u.oneCell'=true by rw[←hrr];intro u hu;simp[cellsOf,repF] at hu;rcases hu with rfl|rfl|rfl|rfl|rfl|rfl|rfl <;> rfl);clear hrr
        go_upto_region 21 with(at_builtin;refine c7_ L3_ Hone.out HD6.out.fr.out.own N14.out rfl hrs1 hrs2 hrs4 (by rfl) _ _ (by rfl) (by rfl) (by rfl) ?_;intro v7 w7 o7 g7 l7)
        have D7:=HDz.out.app Hmz.out HR6.out hb6.out o7 g7 l7;have hgD:=D7.g;have bx:=D7.clu.blk.cell;rw[hgD,D7.vs,Hvs.out] at bx;have HD7:=hh_ D7;have HR7:=hh_ (P5_ HR.out (by rw[HE.out];exact HRO2.out));clear D7 hgD o7 g7 l7 Hone N14 hb6 HR6 Hmz HD6 HDz hrs1 hrs2 hrs4 hrs HRO2 HR Hrl hgg GN
        go_upto_region 22 with fail
        clear bx
        go_loopw [101] (fun s101 wk=>∃(j:Nat) (G3:RcG),j≤n∧s101=.int .i64 j∧TkS w G c t wk G3 (clK c t K' win j) (.slice (some ⟨gw,0,none⟩) ws.length wc) ws v7 (rs++[r])) (fun s101 _=>n-(RowKit.intOf s101).toNat)
        case atStart=>exact⟨0,G2,Nat.zero_le _,rfl,HD7.out⟩
        case round=>
         clear HD7 hj hjl;obtain⟨j,G3,hj,rfl,hD⟩:=hrel
         by_cases hjl:j<n
         ·have hjk:j<K'.sh.length:=by have:=HnK.out;omega
          have hg2:G3.sh.length=n:=by have:=congrArg List.length hD.gs;have h2:=HnG.out;simp at this;omega
          have hs:G3.sh[j]?=some G3.sh[j]:=gq_ (by omega);have cc:=hD.clu.shAt (hD.vs.trans Hvs.out) hs;have CCl:=hh_ (Qh_ hD.clu (Uj_ HTC.out HO.out win j) (by omega) hs (bp_ c t K' win hjk) win)
          have hjlt :(j:Int)<(n:Int):=by omega
          have HDj:=hh_ hD;have Hs:=hh_ hs;have eK:=hh_ (X2_ c t K' win hjk);clear hD hs;generalize G3.sh[j]=s2 at *
          go_wp2_with (go_at_call 59;refine CCl.out.mono ?_;rintro e w8 ⟨⟨x,rfl⟩,s4,RC,MC,hgs⟩)
          have DC:=HDj.out.step RC MC rfl rfl rfl (J8_ Hs.out hgs);rw[eK.out] at DC;exact⟨⟨j+1,_,by omega,by go_num,DC⟩,by simp[RowKit.intOf];omega⟩
         ·have hjn:j=K'.sh.length:=by have:=HnK.out;omega
          rw[hjn] at hD;have hgD:=hD.g;have bx:=hD.clu.blk.cell;rw[hgD] at bx;have CLC:=hh_ (Xc_ hD.clu win (show K'.led.length<1000000000 by have:=HO.out.led;omega));have HDj:=hh_ hD;have hwi0:=hwi;clear hD hjn hgD
          go_wp2_with (go_at_call 60;refine CLC.out.mono ?_;rintro e w8 ⟨rfl,F',RC,MC⟩)
          have DC:=HDj.out.step RC MC rfl rfl rfl rfl;have eC :({ clK c t K' win K'.sh.length with led:=ldDel (clK c t K' win K'.sh.length).led win }:CluM)=closeK c t K' win:=N1_ c t K' win;rw[eC] at DC
          have hrs5 :(rs++[r]).length=rs.length+1:=by simp
          exact⟨⟨k+1,_,_,rs++[r],by omega,by go_num,DC,by rw[HT.out,List.foldl_append,HE.out];rfl,K8_ HTC.out HO.out win,by rw[HT.out];exact HR7.out,fun i x hi hx=>by
           by_cases hik:i<k
           ·exact HL0.out i x hik hx
           ·have:i=k:=by omega
            subst this;rw[Hwk.out] at hx;cases hx
            exact hwL.out⟩,by simp[RowKit.intOf];omega⟩
  ·have hkn:k=ws.length:=by omega
   rw[hkn,tk_ (Nat.le_refl _)] at hE hR;have eW:=Xu_ (c:=c) (m:=m) (ws:=ws) (fun i hi=>by rw[hL0.out];exact hlo i _ (by omega) (gq_ hi));have HD:=hh_ hD;have HE:=hh_ hE;have HR:=hh_ hR;have eW:=hh_ eW;clear hkn hE hR hD hlo hO
   go_wp2_with fail
   go_ret2
   exact HP.out G' _ _ _ _ _ (by rw[eW.out,HE.out];exact HD.out) (by rw[eW.out];exact HR.out)
end
section
open Go.RowKit Go.Sort
attribute [local go_sem ↓] Ag_
attribute [local go_sem] Ah_
theorem a9_:Elt 72 104 (.pointer none) 1 8:=⟨Tryz.underlying72,by kernel_rfl,rfl,by decide⟩
def newK (n:Nat):CluM:=⟨0,⟨[],0,false⟩,[],0,[0,0,0,0,0,0,0],List.replicate n ⟨[],[]⟩,[]⟩
theorem Se_ (n:Nat):newK (n+1)={ newK n with sh:=(newK n).sh++[⟨[],[]⟩] }:=by unfold newK;rw[List.replicate_succ']
theorem RClu.new0 {w:World} {g b:Nat} {F:Fp} {c:Cfg} {t:List Int} (h:Blk w g (rcluA c 0 (.slice none 0 0) 0 false b (.slice none 0 0) (.slice none 0 0))) (hl:RLed F w b [] 0 [0,0,0,0,0,0,0]) (hF:Low w F) (hg:¬F g) :
  RClu w ⟨g,.slice none 0 0,b,F,.slice none 0 0,.slice none 0 0,[]⟩ c t (newK 0):=by
 have ne:∀P:Fp,Off (ownF (.slice none 0 0)) P:=fun P i hi=>absurd hi (Ax_ i)
 refine⟨h,⟨h.lt,Own.nil _ _ _ _ _,hl,hF,Own.nil _ _ _ _ _,Own.nil _ _ _ _ _,rfl,fun i s S h1=>by simp at h1,?_⟩⟩
 show List.Pairwise Off [oneF g,ownF (.slice none 0 0),F,ownF (.slice none 0 0),ownF (.slice none 0 0)]
 simp only[List.pairwise_cons,List.mem_cons,List.not_mem_nil,or_false];refine⟨?_,?_,?_,?_,?_,List.Pairwise.nil⟩
 ·rintro P (rfl|rfl|rfl|rfl)
  ·exact(ne _).symm
  ·intro i hi hf;rw[show i=g from hi] at hf;exact hg hf
  ·exact(ne _).symm
  ·exact(ne _).symm
 ·exact fun P _=>ne P
 ·rintro P (rfl|rfl) <;> exact(ne _).symm
 ·exact fun P _=>ne P
 ·simp
theorem RClu.addS {w w':World} {G:RcG} {c:Cfg} {t:List Int} {K:CluM} {wd:World} (h0:RClu wd G c t K) (gz:wd.grownBy w none) {s:RshG} {S:ShM} (hs:RSh w s c t S) (hn:∀i,s.F i→wd.heap.size≤i) {v':Value} (ho:Own ptrF 1 104 0 w' v' (G.sh.map (·.g)++[s.g])) (k:w.grownBy w' G.vs.ownBlock) (hL:Lies G.vs v' w.heap.size) :
  Blk w' G.g (rcluA c K.mark G.vb K.str.skip K.str.broken G.bl G.vs G.vi)∧RClu (w'.setCell ⟨G.g,22,none⟩ v') { G with vs:=v',sh:=G.sh++[s] } c t { K with sh:=K.sh++[S] }:=by
 have h:=h0.same gz;have hlow:=h.low;have hlow0:=h0.low;have hz:=gz.size
 have g:GrownS (ownF G.vs) w w':=GrownS.of k fun j hj=>hj
 have hb:=h.blk.keptS g (Cd_ h.core.ap (i:=0) (j:=3) rfl rfl (by omega) G.g rfl)
 have hg:GrownS (oneF G.g) w' (w'.setCell ⟨G.g,22,none⟩ v'):=GrownS.of (Ac_ (Ab_ w' (some G.g)) 22 _) fun k e=>by cases e;rfl
 have hnew:∀i,ownF v' i→ownF G.vs i∨w.heap.size≤i:=fun i hi=>by
  rcases hL with e |⟨m,e1,e2⟩
  ·left;unfold ownF at hi ⊢;rw[←e];exact hi
  ·right;unfold ownF at hi;rw[e1] at hi;cases hi;exact e2
 have hsl:=hs.low;have hvsl:∀i,ownF G.vs i→i<wd.heap.size:=h0.core.sp.low
 have hsvs:Off s.F (ownF G.vs):=fun i hi hf=>by have:=hn i hi;have:=hvsl i hf;omega
 have hsv':Off s.F (ownF v'):=fun i hi hf=>by
  rcases hnew i hf with e|e
  ·exact hsvs i hi e
  ·have:=hsl i hi;omega
 have C1:RcC w' { G with vs:=v',sh:=G.sh++[s] } c t { K with sh:=K.sh++[S] }:=by
  refine⟨Nat.lt_of_lt_of_le h.core.gl k.size,h.core.buf.offS g (h.core.off (i:=1) (j:=3) rfl rfl (by omega)),h.core.led.keptS g (h.core.off (i:=2) (j:=3) rfl rfl (by omega)),h.core.lel.up g.size,?_,h.core.it.offS g (h.core.off (i:=4) (j:=3) rfl rfl (by omega)),by simp[h.core.len],?_,?_⟩
  ·show Own ptrF 1 _ 0 w' v' ((G.sh++[s]).map (·.g))
   rw[List.map_append];exact ho
  ·intro i x X e1 e2
   have e1' :(G.sh++[s])[i]?=some x:=e1;have e2' :(K.sh++[S])[i]?=some X:=e2;have hl:=h.core.len
   by_cases hi:i<G.sh.length
   ·rw[List.getElem?_append_left hi] at e1'
    rw[List.getElem?_append_left (by omega)] at e2';exact(h.core.shd i x X e1' e2').keptS g (h.core.off (i:=5+i) (j:=3) (RcG.part_sh e1') rfl (by omega))
   ·have h1:=(gs_ e1').1
    simp only[List.length_append,List.length_singleton] at h1
    have hi2:i=G.sh.length:=by omega
    subst hi2;rw[List.getElem?_append_right (by omega),Nat.sub_self] at e1';rw[List.getElem?_append_right (by omega),←hl,Nat.sub_self] at e2';simp only[List.getElem?_cons_zero,Option.some.injEq] at e1' e2';subst e1' e2';exact hs.keptS g hsvs
  ·have hp:RcG.parts { G with vs:=v',sh:=G.sh++[s] } =(G.parts.set 3 (ownF v'))++[s.F]:=by unfold RcG.parts;simp
   rw[hp];refine List.pairwise_append.2 ⟨Dw_ h.core.ap h.core.lows (j:=3) rfl hnew,by simp,fun P hP Q hQ=>?_⟩;rw[ms_ hQ]
   rcases List.mem_or_eq_of_mem_set hP with hP|rfl
   ·intro i hi hf
    have:=hn i hf
    have:=h0.core.lows P hP i hi
    omega
   ·exact hsv'.symm
 exact⟨hb,⟨hb.set_ 22 _ rfl,C1.own hg⟩⟩
theorem Ig_ {a b c:World} {r:Option Nat} (h:a.grownBy b none) (k:b.grownBy c r) (hr:∀q,r=some q→a.heap.size≤q):a.grownBy c none:=by
 cases r with
 | none=>exact Aa_ h k
 | some q=>exact Af_ h k (hr q rfl)
theorem Ug_ (G:RcG) (v':Value) (s:RshG):RcG.parts { G with vs:=v',sh:=G.sh++[s] } =(G.parts.set 3 (ownF v'))++[s.F]:=by unfold RcG.parts;simp
theorem b7_ (c:Cfg) (l:List (Int×Int)) (t:List Int) (w:World) (hn:CfgNums c) (hm:CfgMem c l t w) (hc:ClsFit c l) :
  Calls Tryz.prog 19 #[c.val] w (fun e w'=>∃G,e=.returned (.tuple #[.pointer (some ⟨G.g,0,none⟩),.int .i64 0])∧RClu w' G c t (newK c.Shards.toNat)∧(∀i,G.F i→w.heap.size≤i)∧w.grownBy w' none):=by
 have HN:=hh_ hn
 have HV:=hh_ fun z (q:w.grownBy z none)=>Nq_ c l t z hn (hm.same q) hc
 have hsh:=hn.shards;clear hm hc hn
 go_enter Tryz.func19,Tryz.ntmps19
 go_upto_region 1 with(refine As_ rfl _ rfl c rfl ?_;intro w1 B1 G1 z1)
 go_upto_region 4 with(first |(refine Al_ rfl _ rfl _ rfl c (by assumption) ?_) |(go_at_call 41;refine(HV.out _ G1).mono ?_;rintro e w2 ⟨rfl,g2⟩))
 have B2:=B1.same g2;have G2:=Aa_ G1 g2;have KN:World.grownBy w2 w2.drew none:=gw_;have B6:=B2.same KN;have K6:=Aa_ G2 KN;clear B1 G1 g2 B2 G2 KN HV
 (refine rn_ 5 (fun j _ w v w'=>match j with | 1=>(∃b,v=.pointer (some ⟨b,0,none⟩)∧RLed (fun i=>w.heap.size≤i) w' b [] 0 [0,0,0,0,0,0,0])∧World.grownBy w w' none | _=>False) ?_;simp only[ts_])
 generalize w2.drew=w3 at *
 ((refine Rg.tree_op rfl rfl ?_;intro x0 mx0 dx0);clear dx0;have BX:=B6.same mx0;go_wp2_with (refine Al_ rfl _ rfl _ rfl c (by assumption) ?_);refine⟨Ab_ _ _,?_⟩;clear BX)
 (refine Rg.tree_call rfl rfl rfl ?_;intro x1 mx1 dx1;refine⟨?_,?_⟩;· (unfold Rg.callSpec;go_simp;(refine(Tk_ x1).mono ?_;rintro e w' ⟨b,rfl,o,g⟩;exact⟨_,rfl,⟨b,rfl,o⟩,g⟩)))
 have hz1:=mx1.size;clear dx1;rintro v1 y1 ⟨⟨b,rfl,R1⟩,g1⟩;refine⟨g1,?_⟩;simp only[pt_]
 (refine tq_ 1 ?_;simp only[ts_,Nat.reduceAdd];(repeat(go_big_quiet_step (fail)));refine wpQuiet_nil ?_)
 (refine Rg.tree_op rfl rfl ?_;intro x3 mx3 dx3)
 go_wp2_with fail
 refine⟨ga_ _ _ _,?_⟩;have R1x:=R1.same (dx3.out 1 (by omega) (by kernel_rfl));obtain⟨F,RF,hFl,hFs⟩:=R1x.tight;have gA:=ga_ x3 (.cells (rcluA c 0 (.slice none 0 0) 0 false b (.slice none 0 0) (.slice none 0 0)) 74) none;have C3:RClu _ ⟨x3.heap.size,.slice none 0 0,b,F,.slice none 0 0,.slice none 0 0,[]⟩ c t (newK 0):=RClu.new0 (c:=c) (t:=t) (Blk.new x3 (rcluA c 0 (.slice none 0 0) 0 false b (.slice none 0 0) (.slice none 0 0)) 74) (RF.same gA) (hFl.up gA.size) (fun h=>Nat.lt_irrefl _ (hFl _ h));have hx3:=mx3.size;have hz3:=K6.size;have hb6:=B6.lt
 have hF3:∀i,RcG.F ⟨x3.heap.size,.slice none 0 0,b,F,.slice none 0 0,.slice none 0 0,[]⟩ i→w.heap.size<i:=fun i ⟨P,hP,hi⟩=>by
  simp only[RcG.parts,List.map_nil,List.append_nil,List.mem_cons,List.not_mem_nil,or_false] at hP
  rcases hP with rfl|rfl|rfl|rfl|rfl
  ·have:i=x3.heap.size:=hi;omega
  ·exact absurd hi (Ax_ i)
  ·have:=hFs i hi;omega
  ·exact absurd hi (Ax_ i)
  ·exact absurd hi (Ax_ i)
 clear dx3 R1 R1x RF hFl hFs gA;generalize x3.alloc (.cells (rcluA c 0 (.slice none 0 0) 0 false b (.slice none 0 0) (.slice none 0 0)) 74)=e3 at *;obtain⟨G0,hG0⟩:∃G0:RcG,⟨x3.heap.size,.slice none 0 0,b,F,.slice none 0 0,.slice none 0 0,[]⟩=G0:=⟨_,rfl⟩
 have hgg:G0.g=x3.heap.size:=by rw[←hG0]
 rw[hG0] at C3 hF3;generalize x3.heap.size=g at *;clear hG0
 (refine tq_ 1 ?_;simp only[ts_,Nat.reduceAdd];(repeat(go_big_quiet_step (fail)));refine wpQuiet_nil ?_)
 (refine Rg.tree_nil ?_;intro z mz dz cz)
 have C4:=C3.same (dz.out 3 (by omega));have B4:=B6.same mz;have K4:=Aa_ K6 mz;obtain⟨n,hnS⟩:=Int.eq_ofNat_of_zero_le (show 0≤c.Shards by omega);have HnS:=hh_ hnS
 have hn8:n≤8:=by omega
 have hCE:=hh_ (show c.Shards.toNat=n by omega);clear mx0 mx1 mx3 g1 mz dz cz B6 K6 C3 hnS hsh x0 x1 y1 hz1 hx3;clear hz3 hb6;clear e3 x3;have HC4:=hh_ C4;have HB4:=hh_ B4;have HK4:=hh_ K4;clear C4 B4 K4
 go_upto_region 6 with fail
 go_loopw [6] (fun s6 wk=>∃(j:Nat) (G:RcG),j≤n∧s6=.int .i64 j∧RClu wk G c t (newK j)∧G.g=g∧(∀i,G.F i→w.heap.size<i)∧BoxAt wk w.heap.size c∧w.grownBy wk none) (fun s6 _=>n-(RowKit.intOf s6).toNat)
 case atStart=>exact⟨0,G0,Nat.zero_le _,rfl,HC4.out,hgg,hF3,HB4.out,HK4.out⟩
 case round=>
  clear HC4 HB4 HK4 hgg hF3 G0;obtain⟨j,G,hj,rfl,hC,hg,hF,hB,hK⟩:=hrel;have bc:=hB.cell;have hSn:=HnS.out
  by_cases hjl:j<n
  ·have hjlt :(j:Int)<(n:Int):=by omega
   have HC:=hh_ hC;have HB:=hh_ hB;have HK:=hh_ hK;have HF:=hh_ hF;clear hC hB hK hF
   go_upto_region 8 with fail
   clear bc;have KN:World.grownBy wr wr.drew none:=gw_;have HCz:=hh_ (HC.out.same KN);have B6:=HB.out.same KN;have HK6:=hh_ (Aa_ HK.out KN);obtain⟨va,vcp,hvs⟩:=HC.out.core.sp.shape;rw[List.length_map] at hvs;have Hvs:=hh_ hvs
   have hGl:G.sh.length=j:=by rw[HC.out.core.len];simp[newK]
   have HGl:=hh_ hGl;clear KN HC HB HK hvs hGl hSn
   (refine Rg.wp_region_rgZ 8 #[true] (fun w w'=>World.grownBy w w' none) (fun j _ w v w'=>match j with | 6=>(∃s:RshG,v=.pointer (some ⟨s.g,0,none⟩)∧RSh w' s c t ⟨[],[]⟩∧∀i,s.F i→w.heap.size≤i)∧World.grownBy w w' none | _=>False) (by kernel_rfl) (by kernel_rfl) (fun w=>Ab_ w none) (fun _ _ _ h k=>Aa_ h k) (fun _ _ _ _ _ h=>h) ?_;simp only[List.take,List.drop])
   generalize wr.drew=wd at *
   (refine tq_ 4 ?_;simp only[ts_,Nat.reduceAdd];(repeat(go_big_quiet_step (fail)));refine wpQuiet_nil ?_)
   (refine Rg.tree_op rfl rfl ?_;intro x4 mx4 dx4)
   clear dx4;have bx:=(HCz.out.same mx4).blk.cell;rw[hg,Hvs.out] at bx
   go_wp2_with fail
   refine⟨Ab_ _ _,?_⟩;clear bx
   ((refine Rg.tree_op rfl rfl ?_;intro x5 mx5 dx5);clear dx5;have BX:=B6.same mx5;go_wp2_with (refine Al_ rfl _ rfl _ rfl c (by assumption) ?_);refine⟨Ab_ _ _,?_⟩;clear BX)
   (refine Rg.tree_call rfl rfl rfl ?_;intro x6 mx6 dx6;refine⟨?_,?_⟩;· (unfold Rg.callSpec;go_simp;(refine(W5_ c t x6).mono ?_;rintro e w' ⟨s,rfl,h1,h2,g⟩;exact⟨_,rfl,⟨s,rfl,h1,h2⟩,g⟩)))
   clear dx6;have hz6:=mx6.size;rintro v6 y6 ⟨⟨s,rfl,R6,hs6⟩,g6⟩;refine⟨g6,?_⟩;simp only[pt_]
   (refine Rg.tree_op rfl rfl ?_;intro x7 mx7 dx7)
   clear dx7
   go_wp2_with fail
   refine⟨ga_ _ _ _,?_⟩;have N7:=Blk.new x7 #[.pointer (some ⟨s.g,0,none⟩)] 104;generalize x7.alloc (.cells #[.pointer (some ⟨s.g,0,none⟩)] 104)=e7 at *;generalize x7.heap.size=g7 at *
   (refine Rg.tree_nil ?_;intro z2 mz2 dz2 cz2)
   have C2:=HCz.out.same mz2;have R2:=R6.same (dz2.out 6 (by omega));have HN7:=hh_ ((N7.same (dz2.out 7 (by omega))).one (f:=ptrF) (fun _=>rfl) s.g rfl);have HO2:=hh_ C2.core.sp;have hz6b:=hh_ (show ∀i,s.F i→wd.heap.size≤i from fun i hi=>lt_ hz6 (hs6 i hi));have HR2:=hh_ R2;have Hmz:=hh_ mz2;have HB2:=hh_ (B6.same mz2);have HK2:=hh_ (Aa_ HK6.out mz2);rw[Hvs.out] at HO2
   have hb1 :((G.sh.map (·.g)).length+[s.g].length)*8≤140737488355328:=by have:=HGl.out;simp;omega
   have hb2 :(G.sh.map (·.g)).length+[s.g].length≤9223372036854775807:=by have:=HGl.out;simp;omega
   have hlb:w.heap.size<wd.heap.size:=HB2.out.lt |> fun _=>by have:=B6.lt;omega
   clear mx4 mx5 mx6 mx7 mz2 dz2 cz2 g6 hs6 hz6 R6 N7 C2 R2 B6 HK6;clear x4 x5 x6 y6 x7 e7
   go_upto_region 7 with(at_builtin;refine app a9_ E3_ HO2.out HN7.out rfl hb1 hb2 (Nat.zero_le _) (by rfl) _ _ (by rfl) (by rfl) (by rfl) ?_;intro v7 w7 o7 g7 l7;rw[←Hvs.out] at g7 l7;have hA:=hh_ (HCz.out.addS Hmz.out HR2.out hz6b.out o7 g7 l7);have bz:=hA.out.1.cell;have bf:=hA.out.1.free;rw[hg,Hvs.out] at bz;rw[hg] at bf;have Hg7:=hh_ g7;have Hl7:=hh_ l7;have Ho7:=hh_ (fun i hi=>(o7.lt i hi));(obtain⟨a7,c7,rfl⟩:=o7.shape);clear g7 l7 o7)
   have hF':∀i,RcG.F { G with vs:=.slice a7 (G.sh.map (·.g)++[s.g]).length c7,sh:=G.sh++[s] } i→w.heap.size<i:=fun i ⟨P,hP,hi⟩=>by
    rw[Ug_] at hP;have hz2:=Hmz.out.size
    rcases ma_ hP with hP|hP
    ·rcases List.mem_or_eq_of_mem_set hP with hP|rfl
     ·exact HF.out i ⟨P,hP,hi⟩
     ·rcases Hl7.out with e |⟨m,e1,e2⟩
      ·exact HF.out i (RcG.F_part (j:=3) (P:=ownF G.vs) rfl i (by unfold ownF at hi ⊢;rw[←e];exact hi))
      ·unfold ownF at hi;rw[e1] at hi;cases hi;omega
    ·rw[ms_ hP] at hi
     have:=hz6b.out i hi;omega
   have hvn:∀q,G.vs.ownBlock=some q→w.heap.size<q:=fun q e=>HF.out q (RcG.F_part (j:=3) (P:=ownF G.vs) rfl q e)
   have hgn:w.heap.size<g:=by rw[←hg];exact HF.out G.g (RcG.F_part (j:=0) (P:=oneF G.g) rfl G.g rfl)
   have hS7:=Ac_ (Ab_ w7 (some g)) 22 (.slice a7 (G.sh.map (·.g)++[s.g]).length c7);have hB7:=(HB2.out.kept Hg7.out (fun e=>Nat.lt_irrefl _ (hvn _ e))).kept hS7 (fun e=>by cases e;omega);have hK7:=Af_ (Ig_ HK2.out Hg7.out (fun q e=>Nat.le_of_lt (hvn q e))) hS7 (Nat.le_of_lt hgn);have hC7:=hA.out.2;rw[hg] at hC7 hF';have hKn :({ newK j with sh:=(newK j).sh++[⟨[],[]⟩] }:CluM)=newK (j+1):=(Se_ j).symm;rw[hKn] at hC7;simp only[List.length_append,List.length_map,List.length_singleton] at hC7 hF' hB7 hK7;have HE:=hh_ (And.intro hC7 (And.intro hF' (And.intro hB7 hK7)));clear hC7 hF' hB7 hK7 hS7 hA bz bf Hg7 Hl7 Ho7 hvn hgn HB2 HK2 hKn HCz HN7 HO2
   go_wp2_with fail
   exact⟨⟨j+1,_,by omega,by go_num,HE.out.1,rfl,HE.out.2.1,HE.out.2.2.1,HE.out.2.2.2⟩,by simp[RowKit.intOf];omega⟩
  ·have hjn:j=n:=by omega
   rw[hjn] at hC;have HC:=hh_ hC;have HF:=hh_ hF;have HK:=hh_ hK;have Hg:=hh_ hg;clear hC hF hK hjn hg
   go_wp2_with fail
   go_ret2
   exact⟨G,by rw[Hg.out];rfl,by rw[hCE.out];exact HC.out,fun i hi=>Nat.le_of_lt (HF.out i hi),HK.out⟩
end
section
open Go.RowKit
attribute [local go_sem ↓] Ag_
attribute [local go_sem] Ah_
end
section
open Go.RowKit Go.Sort
inductive ReachK (c:Cfg) (t:List Int):CluM→Prop
 | new:ReachK c t (newK c.Shards.toNat)
 | str {K:CluM} (s:StrM) (h:ReachK c t K):ReachK c t { K with str:=s }
 | mark {K:CluM} (time:Int) (ht:0≤time∧time≤1099511627776) (h:ReachK c t K):ReachK c t { K with mark:=max K.mark time }
 | inp {K:CluM} (x:InpR) (hx:InpOk c.Key x) (h:ReachK c t K):ReachK c t (inpK c t K x).1
 | close {K:CluM} (win:Int) (hw:win<lowV c K.mark) (h:ReachK c t K):ReachK c t (closeK c t K win)
 | step {K:CluM} (i:Nat) (h:ReachK c t K):ReachK c t { K with sh:=K.sh.modify i (stepS c t) }
section
variable {c:Cfg} {t:List Int} {K:CluM}
theorem ReachK.inps (h:ReachK c t K) (l:List InpR) (hl:∀x∈l,InpOk c.Key x):∀k,k≤l.length→ReachK c t (inpsK c t K (l.take k)).1:=by
 intro k
 induction k with
 | zero=>exact fun _=>by simpa [inpsK] using h
 | succ k ih=>
  intro hk;rw[tg_ (show k<l.length by omega),Fh_];exact(ih (by omega)).inp _ (hl _ (mg_ _))
theorem Ih_ {l:List ChM} (h:∀x∈l,ChOk x) :(∀y∈l.flatMap (chInps c),InpOk c.Key y)∧(l.flatMap (chInps c)).length≤65*l.length:=by
 refine⟨fun y hy=>?_,?_⟩
 ·obtain⟨x,hx,hy⟩:=List.mem_flatMap.1 hy
  exact(Hb_ (h x hx)).2 y hy
 ·induction l with
  | nil=>simp
  | cons x l ih=>
   have h1:=(Hb_ (c:=c) (h x (by simp))).1
   have h2:=ih fun y hy=>h y (by simp[hy])
   simp only[List.flatMap_cons,List.length_append,List.length_cons]
   omega
theorem ReachK.feed (h:ReachK c t K) (hs:StrOk K.str) (p:List UInt8):ReachK c t (feedK c t K p).1:=by
 obtain⟨_,h2,_⟩:=Jo_ hs p p.length (Nat.le_refl _);rw[List.take_length] at h2;have h3:=Ih_ (c:=c) h2
 have:=(h.str (strF K.str p).1).inps _ h3.1 _ (Nat.le_refl _)
 rw[List.take_length] at this;exact this
theorem Df_:∀(ws:List Int) {K:CluM},ReachK c t K→(∀w∈ws,w<lowV c K.mark)→ReachK c t (ws.foldl (closeK c t) K)
 | [],_,h,_=>h
 | w::ws,_,h,hw=>by rw[List.foldl_cons];exact Df_ ws (h.close w (hw w (by simp))) fun v hv=>hw v (by simp[hv])
theorem Rt_ {c:Cfg} {m:Int} {l:List Int}:∀w∈low1 c m l,w<lowV c m:=fun w hw=>by
 have:∀l:List Int,w∈l.takeWhile (fun w=>decide (w<lowV c m))→w<lowV c m:=by
  intro l
  induction l with
  | nil=>simp
  | cons a l ih=>
   intro h;rw[List.takeWhile_cons] at h
   split at h
   ·rcases List.mem_cons.1 h with rfl|h
    ·exact of_decide_eq_true (by assumption)
    ·exact ih h
   ·simp at h
 exact this l hw
theorem ReachK.tick (h:ReachK c t K) {time:Int} (ht:0≤time∧time≤1099511627776):ReachK c t (tickK c t K time):=Df_ _ (h.mark time ht) Rt_
theorem Ir_:∀(ws:List Int) {K:CluM} {x:Int},Asc K.led→x∈K.led.map (·.1)→x∉ws→x∈(ws.foldl (closeK c t) K).led.map (·.1)
 | [],_,_,_,h,_=>h
 | w::ws,K,x,hA,h,hn=>by
  rw[List.foldl_cons]
  refine Ir_ ws (Js_ hA) ?_ fun e=>hn (by simp[e])
  rw[←G7_] at h ⊢
  show ldHas (ldDel K.led w) x=true
  rw[Lp_ hA,h]
  have:x≠w:=fun e=>hn (by simp[e])
  simp[this]
theorem ReachK.len (hs:1≤c.Shards) (h:ReachK c t K) :(K.sh.length:Int)=c.Shards:=by
 induction h with
 | new=>simp[newK];omega
 | str s _ ih=>exact ih
 | mark m _ _ ih=>exact ih
 | inp x hx _ ih=>
  unfold inpK
  split
  ·exact ih
  ·simpa using ih
 | close win _ _ ih=>simpa [closeK] using ih
 | step i _ ih=>simpa using ih
theorem ReachK.asc (h:ReachK c t K):Asc K.led:=by
 induction h with
 | new=>simp[newK,Asc]
 | str s _ ih=>exact ih
 | mark m _ _ ih=>exact ih
 | inp x hx _ ih=>
  unfold inpK
  split
  ·exact ih
  ·exact Mb_ ih
 | close win _ _ ih=>exact Js_ ih
 | step i _ ih=>exact ih
end
end
section
open Go.RowKit Go.Sort
section
variable {c:Cfg} {t:List Int} {K:CluM}
theorem X9_ {N:Nat} (hn:CfgNums c) (h:CluOk c K N) (p:List UInt8):CluOk c (feedK c t K p).1 (N+65*p.length):=by
 obtain⟨h1,h2,h4⟩:=Jo_ h.str p p.length (Nat.le_refl _);rw[List.take_length] at h1 h2 h4;have h3:=Ih_ (c:=c) h2;have h5:CluOk c { K with str:=(strF K.str p).1 } N:=⟨h1,h.acc,h.led,h.items,h.len,h.sh,h.its⟩
 have:=(Wf_ (t:=t) hn h5 _ h3.1 _ (Nat.le_refl _)).1
 rw[List.take_length] at this;exact this.up (by omega)
theorem L1_ {N:Nat} (hc:Bs_ c):∀(ws:List Int) {K:CluM},CluOk c K N→CluOk c (ws.foldl (closeK c t) K) N
 | [],_,h=>h
 | w::ws,_,h=>by rw[List.foldl_cons];exact L1_ hc ws (K8_ hc h w)
theorem N9_ {N:Nat} (hc:Bs_ c) (h:CluOk c K N) (time:Int):CluOk c (tickK c t K time) N:=
 L1_ hc _ ⟨h.str,h.acc,h.led,h.items,h.len,h.sh,h.its⟩
theorem as_ (hn:CfgNums c):CluOk c (newK c.Shards.toNat) 0:=by
 have:=hn.shards
 refine⟨⟨by simp[newK],by simp[newK]⟩,⟨by simp[newK],by simp[newK]⟩,by simp[newK],by simp[newK],by simp[newK];omega,fun S hS=>?_,by simp[newK]⟩;have e:S =⟨[],[]⟩:=List.eq_of_mem_replicate hS;subst e;exact⟨⟨by have:=hn.queue;simp;omega,by simp,by simp⟩,by simp⟩
end
def Fq_ (c:Cfg) (t:List Int) (rs:List Rep):Prop:=∀r∈rs,∃K win,ReachK c t K∧win<lowV c K.mark∧win∈K.led.map (·.1)∧RepOf c t K win r
theorem Fq_.app {c:Cfg} {t:List Int} {rs rs':List Rep} (h:Fq_ c t rs) (h':Fq_ c t rs'):Fq_ c t (rs++rs'):=fun r hr=>(ma_ hr).elim (h r) (h' r)
theorem Os_ {c:Cfg} {t:List Int} {K:CluM} {rs:List Rep} (hK:ReachK c t K) (h:repsK c t K (low1 c K.mark (K.led.map (·.1))) rs):Fq_ c t rs:=by
 intro r hr;obtain⟨i,hi,e⟩:=List.getElem_of_mem hr;have hA:=hK.asc;have hlt:=Rt_ (c:=c) (m:=K.mark) (l:=K.led.map (·.1));have hsub :(low1 c K.mark (K.led.map (·.1))).Sublist (K.led.map (·.1)):=List.takeWhile_sublist _;have hnd :(low1 c K.mark (K.led.map (·.1))).Nodup:=List.Nodup.sublist hsub (Up_ hA);obtain⟨h1,h2⟩:=h;generalize low1 c K.mark (K.led.map (·.1))=ws at *
 have hiw:i<ws.length:=by rw[←h1];exact hi
 have hm:∀(ws:List Int) (K:CluM),(ws.foldl (closeK c t) K).mark=K.mark:=by
  intro ws
  induction ws with
  | nil=>intro K;rfl
  | cons w ws ih=>intro K;rw[List.foldl_cons,ih];rfl
 refine⟨_,_,Df_ (ws.take i) hK fun w hw=>hlt w (List.mem_of_mem_take hw),?_,?_,h2 i r ws[i] (by rw[gq_ hi,e]) (gq_ hiw)⟩
 ·rw[hm];exact hlt _ (mg_ hiw)
 ·refine Ir_ (ws.take i) hA (hsub.subset (mg_ hiw)) fun hx=>?_
  obtain⟨j,hj,e2⟩:=List.getElem_of_mem hx;rw[List.length_take] at hj;rw[List.getElem_take] at e2;exact List.pairwise_iff_getElem.1 hnd j i (by omega) hiw (by omega) e2
theorem e3_ {l:List Summ} (h:∀s∈l,SumN s) (i:Int):W64 (uAt l i):=by
 unfold uAt
 cases hl:l[i.toNat]? with
 | none=>exact Dq_
 | some s=>exact(h s (mo_ hl)).wf.untr
theorem uF_w {l:List Summ} (h:∀s∈l,SumN s) (is:List Int):W64 (uF l is):=by
 have:∀(is:List Int) (a:Int),W64 a→W64 (is.foldl (fun a i=>satA a (uAt l i)) a):=by
  intro is
  induction is with
  | nil=>exact fun a ha=>ha
  | cons i is ih=>exact fun a ha=>ih _ (B5_ ha (e3_ h i))
 exact this is 0 Dq_
theorem dz_ {a b:Int} (ha:W64 a) (hb:W64 b):W64 (max a b):=by unfold W64 at *;omega
theorem Qt_ {l:List Summ} (h:∀s∈l,SumN s) (m:Int) (n:Nat):∀k,W64 (restI m n l k)
 | 0=>by simp[restI,Fm_];exact Dq_
 | k+1=>by rw[Ie_];exact dz_ (Qt_ h m n k) (uF_w h _)
theorem af_ {c:Cfg} {l:List Summ} (h:∀s∈l,SumN s):W64 (restF c l):=by
 unfold restF
 split
 ·exact Dq_
 ·exact Qt_ h _ _ _
theorem bq_ {l:List Ln} {n:Int} (hn:W64 n) (h:∀x∈l,W64 x.hi):W64 (hiMax l n):=by
 unfold hiMax
 have:∀(l:List Int) (a:Int),W64 a→(∀x∈l,W64 x)→W64 (l.foldl max a):=by
  intro l
  induction l with
  | nil=>exact fun a ha _=>ha
  | cons x l ih=>exact fun a ha hl=>ih _ (dz_ ha (hl x (by simp))) fun y hy=>hl y (by simp[hy])
 exact this _ n hn fun x hx=>by obtain⟨y,hy,rfl⟩:=List.mem_map.1 hx;exact h y hy
theorem cm_ {c:Cfg} {t:List Int} {K:CluM} {win:Int} {r:Rep} (hn:CfgNums c) (h:RepOf c t K win r) (hK :(K.sh.length:Int)=c.Shards):RepW r∧r.lines.length≤64:=by
 obtain⟨l,hS,hw,hrj,hp,e1,e2,e3,e4,e5,e6,e7⟩:=h
 have hll:l.length=K.sh.length:=by have:=congrArg List.length hp;simpa [sumsK] using this
 have hsh:=hn.shards;have hok:Fk_ l:=⟨fun s hs=>(hS s hs).wf,fun s hs=>(hS s hs).rows,fun s hs=>(hS s hs).len⟩
 have hsm:Dr_ l:=fun s hs=>(hS s hs).small
 have hal:=N7_ (c:=c) (t:=t) hok hsm
 have hsw:∀x∈sortLn (allF c t l),LnW x:=fun x hx=>hal x (Il_ hx)
 have hlw:∀x∈bLs c t l,LnW x:=fun x hx=>hsw x (List.mem_of_mem_take hx)
 have hom:∀x∈bOm c t l,LnW x:=fun x hx=>hsw x (List.mem_of_mem_drop hx)
 have hkf :(keysF l).length≤768:=by have h1:=He_ l;have h2:=Jx_ hS;omega
 have htop:=hn.top;refine⟨⟨by rw[e1];exact hw,by rw[e2];exact Ff_ hok,?_,by rw[e5];exact⟨by omega,by omega⟩,?_,by rw[e3];exact hlw,by rw[e7];exact hrj⟩,?_⟩
 ·rw[e4]
  have h1:=Ff_ hok;have h2:=H7_ (loSum_pos fun x hx=>(hlw x hx).lo.1);unfold bOver subF;unfold W64 at *
  split <;> omega
 ·rw[e6]
  exact bq_ (af_ hS) fun x hx=>(hom x hx).hi
 ·rw[e3]
  unfold bLs selN;rw[List.length_take]
  omega
end
section
open Go.RowKit Go.Sort
theorem d1_:Elt 159 164 (.agg #[.slice none 0 0,.int .i64 0,.int .u64 0]) 3 40:=⟨Tryz.underlying159,by kernel_rfl,rfl,by decide⟩
structure EvsG (lo:Nat) (w:World) (v:Value) (l:List EvR):Prop where
 own:Own evF 3 164 lo w v l
 all:∀x∈l,RdL tagF 2 w x.vt x.tags∧InB lo w.heap.size x.vt∧EvOk x∧∀k,v.ownBlock=some k→NotIn x.vt k
theorem EvsG.nil (lo:Nat) (w:World):EvsG lo w (.slice none 0 0) []:=⟨Own.nil _ _ _ _ _,by simp⟩
theorem EvsG.rd {lo:Nat} {w:World} {v:Value} {l:List EvR} (h:EvsG lo w v l):Qb_ w v l:=⟨h.own.rd,fun x hx=>(h.all x hx).1⟩
theorem EvsG.kept {lo:Nat} {w w':World} {v:Value} {l:List EvR} {r:Option Nat} (h:EvsG lo w v l) (hg:w.grownBy w' r) (hr:∀k,r=some k→k<lo):EvsG lo w' v l:=by
 refine⟨h.own.kept hg (fun k hk e=>by have:=(h.own.lt k hk).1;have:=hr k e;omega),fun x hx=>?_⟩;obtain⟨h1,h2,h3,h4⟩:=h.all x hx;exact⟨Rd.kept h1 hg fun k e=>h2.notIn (.inl (hr k e)),h2.wide (Nat.le_refl _) hg.size,h3,h4⟩
theorem EvsG.snoc {lo:Nat} {w w':World} {v v':Value} {l:List EvR} {x:EvR} {n:Nat} (h:EvsG lo w v l) (h1:RdL tagF 2 w x.vt x.tags) (h2:InB n w.heap.size x.vt) (h3:EvOk x) (hn:lo≤n) (hv:∀k,v.ownBlock=some k→k<n)
  (ho:Own evF 3 164 lo w' v' (l++[x])) (hg:w.grownBy w' v.ownBlock) (hL:Lies v v' w.heap.size):EvsG lo w' v' (l++[x]):=by
 have hnew:∀y:EvR,InB lo w.heap.size y.vt→(∀k,v.ownBlock=some k→NotIn y.vt k)→∀k,v'.ownBlock=some k→NotIn y.vt k:=fun y hi hs k hk=>by
  rcases hL with e |⟨m,e1,e2⟩
  ·exact hs k (e▸hk)
  ·rw[e1] at hk;cases hk;exact hi.notIn (.inr e2)
 refine⟨ho,fun y hy=>?_⟩
 rcases ma_ hy with hy|hy
 ·obtain⟨a1,a2,a3,a4⟩:=h.all y hy
  exact⟨Rd.kept a1 hg fun k e=>a4 k e,a2.wide (Nat.le_refl _) hg.size,a3,hnew y a2 a4⟩
 ·obtain rfl:=ms_ hy
  have a4:∀k,v.ownBlock=some k→NotIn y.vt k:=fun k hk=>h2.notIn (.inl (hv k hk))
  exact⟨Rd.kept h1 hg fun k e=>a4 k e,(h2.wide hn hg.size),h3,hnew y (h2.wide hn (Nat.le_refl _)) a4⟩
theorem dx_ {a:Option Addr} {n c:Nat} {t wt:Int} {tg:List TagR}:∀u∈evF ⟨.slice a n c,t,wt,tg⟩,u.oneCell'=true:=by
 intro u hu;simp[evF] at hu;rcases hu with rfl|rfl|rfl <;> rfl
def EvsD (B b:Nat) (w:World) (e:Ending) (w':World):Prop:=∃v l,e=.returned v∧EvsG w.heap.size w' v l∧(1≤l.length∧l.length≤4)∧Deck B w' b∧w.grownBy w' (some b)
theorem W9_ {B:Nat} (b:Nat) (t:Int) (w:World) (hd:Deck B w b) (hB:B≤w.heap.size) (ht:0≤t∧t≤549755813888):Calls Tryz.prog 80 #[.pointer (some ⟨b,0,none⟩),.int .i64 t,.int .i64 3] w (EvsD B b w):=by
 have hbB:=hd.below;have C1:=hh_ (A1_ b 4 w hd (by omega) (by omega))
 go_enter Tryz.func80,Tryz.ntmps80
 go_upto_region 3 with(go_at_call 37;refine C1.out.mono ?_;rintro e w1 ⟨k0,rfl,hk0,hk1,hd1,hg1⟩)
 have HD1:=hh_ hd1;have HG1:=hh_ hg1;clear C1 hd1 hg1 hd
 go_loopw [8,7] (fun s8 s7 wk=>∃(k:Int) (l:List EvR),s8=.int .i64 k∧(-1≤k∧k≤3)∧(l.length:Int)=k0-k∧k≤k0∧EvsG w.heap.size wk s7 l∧Deck B wk b∧w.grownBy wk (some b)) (fun s8 _ _=>(RowKit.intOf s8+1).toNat)
 case atStart=>exact⟨k0,[],rfl,by omega,by simp,by omega,EvsG.nil _ _,HD1.out,HG1.out⟩
 case round=>
  clear HD1 HG1;obtain⟨k,l,rfl,⟨hk2,hk3⟩,hl,hkk,hE,hD,hg⟩:=hrel;have HE:=hh_ hE;have HD:=hh_ hD;have HG:=hh_ hg;have Hl:=hh_ hl
  have hl4:l.length≤4:=by omega
  obtain⟨oa,oc,rfl⟩:=hE.own.shape;clear hE hD hl
  by_cases hge:0≤k
  ·have C2:=hh_ (A1_ b 60 wr HD.out (by omega) (by omega))
   go_upto_region 4 with(go_at_call 37;refine C2.out.mono ?_;rintro e w2 ⟨r,rfl,hr0,hr1,hd2,hg2⟩)
   have E2:=HE.out.kept hg2 (fun k e=>by cases e;omega);have hz2:=lt_ HG.out.size hg2.size;have HL:=hh_ (fun k hk=>(E2.own.lt k hk).2:∀k,(Value.slice oa l.length oc).ownBlock=some k→k<w2.heap.size);have HE2:=hh_ E2;have HG2:=hh_ (Aa_ HG.out hg2)
   have hb1 :(l.length+1)*40≤140737488355328:=by omega
   have hb2:l.length+1≤9223372036854775807:=by omega
   clear E2 HE HG HD hg2 C2;refine(bo_ b (max (t+r-20) 0) w2 hd2 (by omega) (by omega)).mono ?_;rintro e w3 ⟨x,rfl,hx,hR,hI,hd3,hg3⟩;obtain⟨xv,xt,xw,xg⟩:=x;obtain⟨xa,xc,e1⟩:=hR.shape;dsimp only at e1 hR hI;subst e1;have E3:=HE2.out.kept hg3 (fun k e=>by cases e;omega);have hz3:=lt_ hz2 hg3.size;have HE3:=hh_ E3;have HR:=hh_ hR;have HI:=hh_ hI;have Hx:=hh_ hx;have HG3:=hh_ (Aa_ HG2.out hg3);have HD3:=hh_ hd3;clear E3 hR hI hx hg3 hd3 HE2 HG2
   go_upto_region 4 with(at_builtin;refine Bw_ d1_ Tw_ HE3.out.own ⟨.slice xa xg.length xc,xt,xw,xg⟩ dx_ hb1 hb2 hz3 (by rfl) rfl _ _ (by rfl) (by rfl) (by rfl) ?_;intro v4 w4 o4 g4 l4)
   have E4:=HE3.out.snoc (x:=⟨.slice xa xg.length xc,xt,xw,xg⟩) (n:=w2.heap.size) HR.out HI.out Hx.out hz2 HL.out o4 g4 l4
   have hlo:∀k,(Value.slice oa l.length oc).ownBlock=some k→w.heap.size≤k:=fun k hk=>(HE3.out.own.lt k hk).1
   have D4:=HD3.out.kept g4 (fun k e=>by have:=hlo _ e;omega)
   have G4:w.grownBy w4 (some b):=by
    cases hv :(Value.slice oa l.length oc).ownBlock with
    | none=>rw[hv] at g4;exact Aa_ HG3.out (Ak_ g4 _)
    | some q=>rw[hv] at g4;exact Af_ HG3.out g4 (hlo q hv)
   have HF:=hh_ (And.intro E4 (And.intro D4 G4));clear E4 D4 G4 o4 g4 l4 HE3 HD3 HG3
   go_wp2_with fail
   exact⟨⟨k-1,_,rfl,by omega,by have:=Hl.out;simp;omega,by omega,HF.out.1,HF.out.2.1,HF.out.2.2⟩,by simp[RowKit.intOf];omega⟩
  ·obtain rfl:k=-1:=by omega
   go_wp2_with fail
   go_ret
   exact⟨_,l,rfl,HE.out,by have:=Hl.out;omega,HD.out,HG.out⟩
def cd_ (B b:Nat) (w:World) (e:Ending) (w':World):Prop:=∃v l,e=.returned v∧Own byF 1 5 w.heap.size w' v l∧l.length≤4096∧Deck B w' b∧w.grownBy w' (some b)
theorem Wp_ {B:Nat} (b:Nat) (t:Int) (w:World) (hd:Deck B w b) (hB:B≤w.heap.size) (ht:0≤t∧t≤549755813888):Calls Tryz.prog 45 #[.pointer (some ⟨b,0,none⟩),.int .i64 t] w (cd_ B b w):=by
 have hbB:=hd.below;have C1:=hh_ (A1_ b 2 w hd (by omega) (by omega))
 go_enter Tryz.func45,Tryz.ntmps45
 go_upto_region 3 with(go_at_call 37;refine C1.out.mono ?_;rintro e w1 ⟨k0,rfl,hk0,hk1,hd1,hg1⟩)
 have HD1:=hh_ hd1;have HG1:=hh_ hg1;clear C1 hd1 hg1 hd
 go_loopw [6,5] (fun s6 s5 wk=>∃(k:Int) (l:List UInt8),s6=.int .i64 k∧(-1≤k∧k≤1)∧(l.length:Int)≤1844*(1-k)∧Own byF 1 5 w.heap.size wk s5 l∧Deck B wk b∧w.grownBy wk (some b)) (fun s6 _ _=>(RowKit.intOf s6+1).toNat)
 case atStart=>exact⟨k0,[],rfl,by omega,by simp;omega,Own.nil _ _ _ _ _,HD1.out,HG1.out⟩
 case round=>
  clear HD1 HG1;obtain⟨k,l,rfl,⟨hk2,hk3⟩,hl,hO,hD,hg⟩:=hrel;have HO:=hh_ hO;have HD:=hh_ hD;have HG:=hh_ hg
  have hl4:l.length≤3688:=by omega
  obtain⟨oa,oc,rfl⟩:=hO.shape;have hzr:=hg.size;clear hO hD
  by_cases hge:0≤k
  ·have C2:=hh_ (W9_ b t wr HD.out (by omega) ht)
   go_upto_region 6 with(first
    |(go_at_call 80;refine C2.out.mono ?_;rintro e w2 ⟨v2,ev,rfl,hev,hel,hd2,hg2⟩;obtain⟨ea,ec,rfl⟩:=hev.own.shape;have C3:=hh_ (Wy_ _ ev w2 hev.rd (fun x hx=>(hev.all x hx).2.2.1) (by omega) (by omega)))
    |(go_at_call 79;refine C3.out.mono ?_;rintro e w3 ⟨v3,rfl,o3,g3⟩;obtain⟨fa,fc,rfl⟩:=o3.shape))
   have hfl:=b9_ (fun x hx=>(hev.all x hx).2.2.1) hel.2;have HO3:=hh_ ((HO.out.kept hg2 (fun q hq e=>by cases e;have:=(HO.out.lt _ hq).1;omega)).same g3);have HR3:=hh_ o3.rd;have HD3:=hh_ (hd2.kept g3 (by simp));have HG3:=hh_ (Aa_ (Aa_ HG.out hg2) (Ak_ g3 _));have hz3:=HG3.out.size;generalize frB ev=F at *
   have hb1 :(l.length+F.length)*1≤140737488355328:=by omega
   have hb2:l.length+F.length≤9223372036854775807:=by omega
   clear C2 C3 hev hd2 hg2 o3 g3 HO HD HG hg
   go_upto_region 4 with(at_builtin;refine app Do_ Dp_ HO3.out HR3.out rfl hb1 hb2 hz3 (by rfl) _ _ (by rfl) (by rfl) (by rfl) ?_;intro v4 w4 o4 g4 l4)
   have hlo:∀k,(Value.slice oa l.length oc).ownBlock=some k→w.heap.size≤k:=fun k hk=>(HO3.out.lt k hk).1
   have D4:=HD3.out.kept g4 (fun k e=>by have:=hlo _ e;omega)
   have G4:w.grownBy w4 (some b):=by
    cases hv :(Value.slice oa l.length oc).ownBlock with
    | none=>rw[hv] at g4;exact Aa_ HG3.out (Ak_ g4 _)
    | some q=>rw[hv] at g4;exact Af_ HG3.out g4 (hlo q hv)
   have HF:=hh_ (And.intro o4 (And.intro D4 G4));clear D4 G4 o4 g4 l4 HO3 HD3 HG3
   go_wp2_with fail
   exact⟨⟨k-1,_,rfl,by omega,by simp;omega,HF.out.1,HF.out.2.1,HF.out.2.2⟩,by simp[RowKit.intOf];omega⟩
  ·obtain rfl:k=-1:=by omega
   clear hg hge
   by_cases h0:l.length=0
   ·obtain rfl:l=[]:=List.eq_nil_of_length_eq_zero h0
    clear h0
    go_wp2_with fail
    go_ret
    exact⟨_,[],rfl,HO.out,by simp,HD.out,HG.out⟩
   ·have i0 :(0:Int)<(l.length:Int):=by omega
    have H0:=hh_ h0;clear h0;have C2:=hh_ (A1_ b 12 wr HD.out (by omega) (by omega))
    go_wp2_with fail
    refine C2.out.mono ?_;rintro e w2 ⟨q,rfl,hq0,hq1,hd2,hg2⟩;have HO2:=hh_ (HO.out.kept hg2 (fun k hk e=>by cases e;have:=(HO.out.lt _ hk).1;omega));have HG2:=hh_ (Aa_ HG.out hg2);have HD2:=hh_ hd2;clear HO HG HD hg2 hd2 C2
    by_cases hq:q=1
    ·subst hq
     have C3:=hh_ (A1_ b l.length w2 HD2.out i0 (by omega))
     go_wp2_with fail
     refine C3.out.mono ?_;rintro e w3 ⟨i,rfl,hi0,hi1,hd3,hg3⟩;obtain⟨i,rfl⟩:=Int.eq_ofNat_of_zero_le hi0;have HO3:=hh_ (HO2.out.kept hg3 (fun k hk e=>by cases e;have:=(HO2.out.lt _ hk).1;omega));have HG3:=hh_ (Aa_ HG2.out hg3);have C4:=hh_ (A1_ b 256 w3 hd3 (by omega) (by omega));clear HO2 HG2 HD2 hg3 hd3 C3
     go_wp2_with fail
     refine C4.out.mono ?_;rintro e w4 ⟨r,rfl,hr0,hr1,hd4,hg4⟩;obtain⟨r,rfl⟩:=Int.eq_ofNat_of_zero_le hr0;have HO4:=HO3.out.kept hg4 (fun k hk e=>by cases e;have:=(HO3.out.lt _ hk).1;omega);have HG4:=hh_ (Aa_ HG3.out hg4);have HD4:=hh_ hd4
     have hil:i<l.length:=by omega
     obtain⟨gv,cv,hv,hgb,hgv,-,hcx,hfz⟩:=HO4.at_ Bn_ hil
     obtain⟨rfl,-,rfl⟩:oa=some ⟨gv,0,none⟩∧l.length=l.length∧oc=cv:=by simpa only[Value.slice.injEq] using hv
     have c0:=hcx 0 _ rfl;rw[Nat.mul_one,Nat.add_zero] at c0;have hf:=hfz i
     have hwr:IntKind.u8.wrap (r:Int) =(r:Int):=by rw[Mm_];omega
     have hst:=HO4.stored Bn_ hil (j:=0) (by omega) (.int .u8 r) (UInt8.ofNat r) (by
      have :((UInt8.ofNat r).toNat:Int) =(r:Int):=by rw[UInt8.toNat_ofNat'];omega
      rw[show byF (UInt8.ofNat r)=[Value.int .u8 ((UInt8.ofNat r).toNat:Int)] from rfl,this];rfl)
     rw[Nat.mul_one,Nat.add_zero] at hst;have HST:=hh_ hst;have HGB:=hh_ hgb;clear hv hcx hfz hst hgb HO3 HO4 C4 hg4 hd4 HG3
     go_wp2_with fail
     go_ret
     refine⟨.slice (some ⟨gv,0,none⟩) l.length oc,l.set i (UInt8.ofNat r),rfl,HST.out.1,by rw[List.length_set];omega,HD4.out.kept HST.out.2 (fun k e=>by cases e;have:=HGB.out;omega),Af_ HG4.out HST.out.2 HGB.out⟩
    ·have f1 :((q:Int)==1)=false:=by simpa using hq
     clear hq
     go_wp2_with fail
     go_ret
     exact⟨_,l,rfl,HO2.out,by omega,HD2.out,HG2.out⟩
end
section
open Go.RowKit Go.Sort
variable {B g bx:Nat} {R:List Nat} {w0 w w':World} {x:OpR} {l l':List UInt8} {e e':Int}
theorem Hn_ (lo hi:Nat) (n c:Nat):InB lo hi (.slice none n c):=fun a n' c' e=>by cases e
end
section
open Go.RowKit Go.Sort
theorem H9_:Elt 61 65 (.agg #[.int .i64 0,.slice none 0 0,.int .i64 0,.int .i64 0,.string ⟨#[]⟩,.slice none 0 0]) 6 88:=⟨Tryz.underlying61,by kernel_rfl,rfl,by decide⟩
structure OpIn (lo hi:Nat) (o:OpR):Prop where
 vd:InB lo hi o.vd
 vp:InB lo hi o.vp
theorem OpIn.wide {lo hi lo' hi':Nat} {o:OpR} (h:OpIn lo hi o) (h1:lo'≤lo) (h2:hi≤hi'):OpIn lo' hi' o:=⟨h.vd.wide h1 h2,h.vp.wide h1 h2⟩
def OffO (k:Nat) (o:OpR):Prop:=NotIn o.vd k∧NotIn o.vp k
theorem OpIn.off {lo hi k:Nat} {o:OpR} (h:OpIn lo hi o) (hk:k<lo∨hi≤k):OffO k o:=⟨h.vd.notIn hk,h.vp.notIn hk⟩
theorem OpRd.off {w w':World} {o:OpR} {r:Option Nat} (h:OpRd w o) (hg:w.grownBy w' r) (hr:∀k,r=some k→OffO k o):OpRd w' o:=
 ⟨Rd.kept h.data hg fun k e=>(hr k e).1,Rd.kept h.picks hg fun k e=>(hr k e).2,h.dcap,h.pcap⟩
structure OpsG (lo:Nat) (w:World) (v:Value) (l:List OpR):Prop where
 own:Own opF 6 65 lo w v l
 all:∀o∈l,OpRd w o∧OpIn lo w.heap.size o∧∀k,v.ownBlock=some k→OffO k o
theorem OpsG.nil (lo:Nat) (w:World):OpsG lo w (.slice none 0 0) []:=⟨Own.nil _ _ _ _ _,by simp⟩
theorem OpsG.kept {lo:Nat} {w w':World} {v:Value} {l:List OpR} {r:Option Nat} (h:OpsG lo w v l) (hg:w.grownBy w' r) (hr:∀k,r=some k→k<lo):OpsG lo w' v l:=by
 refine⟨h.own.kept hg (fun k hk e=>by have:=(h.own.lt k hk).1;have:=hr k e;omega),fun o ho=>?_⟩;obtain⟨h1,h2,h3⟩:=h.all o ho;exact⟨h1.off hg fun k e=>h2.off (.inl (hr k e)),h2.wide (Nat.le_refl _) hg.size,h3⟩
theorem OpsG.same {lo:Nat} {w w':World} {v:Value} {l:List OpR} (h:OpsG lo w v l) (hg:w.grownBy w' none):OpsG lo w' v l:=h.kept hg (by simp)
theorem OpsG.base {lo lo':Nat} {w:World} {v:Value} {l:List OpR} (h:OpsG lo w v l) (hl:lo'≤lo):OpsG lo' w v l:=
 ⟨h.own.base fun k hk=>lt_ hl (h.own.lt k hk).1,fun o ho=>⟨(h.all o ho).1,(h.all o ho).2.1.wide hl (Nat.le_refl _),(h.all o ho).2.2⟩⟩
theorem OpsG.snoc {lo:Nat} {w w':World} {v v':Value} {l:List OpR} {o:OpR} {n:Nat} (h:OpsG lo w v l) (h1:OpRd w o) (h2:OpIn n w.heap.size o) (hn:lo≤n) (hv:∀k,v.ownBlock=some k→k<n)
  (ho:Own opF 6 65 lo w' v' (l++[o])) (hg:w.grownBy w' v.ownBlock) (hL:Lies v v' w.heap.size):OpsG lo w' v' (l++[o]):=by
 have hnew:∀o,OpIn lo w.heap.size o→(∀k,v.ownBlock=some k→OffO k o)→∀k,v'.ownBlock=some k→OffO k o:=fun o hi hs k hk=>by
  rcases hL with e |⟨m,e1,e2⟩
  ·exact hs k (e▸hk)
  ·rw[e1] at hk;cases hk;exact hi.off (.inr e2)
 refine⟨ho,fun x hx=>?_⟩
 rcases ma_ hx with hx|hx
 ·obtain⟨a1,a2,a4⟩:=h.all x hx
  exact⟨a1.off hg a4,a2.wide (Nat.le_refl _) hg.size,hnew x a2 a4⟩
 ·obtain rfl:=ms_ hx
  have a4:∀k,v.ownBlock=some k→OffO k x:=fun k hk=>h2.off (.inl (hv k hk))
  exact⟨h1.off hg a4,(h2.wide hn hg.size),hnew x (h2.wide hn (Nat.le_refl _)) a4⟩
theorem It_ {k t s:Int} {y:ByteArray} {da pa:Option Addr} {dn dc pn pc:Nat} {d:List UInt8} {q:List Int}:∀u∈opF ⟨k,.slice da dn dc,t,s,y,.slice pa pn pc,d,q⟩,u.oneCell'=true:=by
 intro u hu;simp[opF] at hu;rcases hu with rfl|rfl|rfl|rfl|rfl|rfl <;> rfl
end
end Go.Proofs.YtckmgjmeanloaaaGreat
