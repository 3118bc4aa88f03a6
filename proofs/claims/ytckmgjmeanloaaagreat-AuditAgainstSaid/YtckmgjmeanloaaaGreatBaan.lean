/- Several texts in one file: contracts of functions of the given program, and plain laws, for the proof of a statement. -/
import Derived.Test.YtckmgjmeanloaaaGreatBaam
import Derived.ProofKit
import Derived.ShutString
import Derived.Deep.Fields
import Derived.Deep.Strs
set_option maxHeartbeats 8000000
set_option maxRecDepth 100000
namespace Go.Proofs.YtckmgjmeanloaaaGreat
open Go.Proofs.Tryz
section
open Go.RowKit Go.Sort
attribute [local go_sem ↓] Ag_
attribute [local go_sem] Ah_
def f2_ (w:World) (e:Ending) (w':World):Prop:=
 ∃(c:Cfg) (lc:List (Int×Int)) (t:List Int) (K:CluM) (vl vi:Value) (rs:List Rep),e=.returned (.tuple #[c.val,vl,vi])∧CfgNums c∧Nums0 c∧CfgMem c lc t w'∧ClsFit c lc∧J5_ w.heap.size w' vl rs∧rs.length≤200000000∧F2_ c t rs∧ReachK c t K∧CluOk c K 5000000∧Own itF 3 41 w.heap.size w' vi K.items∧Off (ownF vi) (Ju_ vl rs)∧w.grownBy w' none∧(∀i,ownF c.Table i→w.heap.size≤i∧i<w'.heap.size)
theorem Vy_ (dv ov:Value) (xs ys:List Int) (n m:Nat) (w:World) (hd:Rd w 1 dv n (xs.map (fun x=>Value.int .i64 x))) (ho:Rd w 1 ov m (ys.map (fun x=>Value.int .i64 x))) :
  Calls Tryz.prog 7 #[dv,ov] w (f2_ w):=by
 have HD:=hh_ hd;have HO:=hh_ ho;obtain⟨da,dc,rfl⟩:=hd.shape;obtain⟨oa,oc,rfl⟩:=ho.shape;clear hd ho
 go_enter func7,ntmps7
 go_upto_region 1 with(refine C0_ rfl rfl ?_;intro wa B4 Ga za)
 have HD1:=hh_ (Rd.same HD.out Ga);have HO1:=hh_ (Rd.same HO.out Ga);clear HD HO
 go_upto_region 2 with(first
  |(go_at_call 17;refine(fb_ _ _ _ _ HD1.out).mono ?_;rintro e w1 ⟨rfl,D1,G1⟩)
  |(go_at_call 18;refine(U5_ _ _ D1 (le_ _)).mono ?_;rintro e w2 ⟨c,lc,t,rfl,N2,M2,D2,G2,T2,C2,Z2,F2⟩;have oc1:=M2.one1;have oc2:=M2.one2;replace G2:=Af_ G1 G2 (le_ _);have hz12:=G1.size)
  |(refine C0_ rfl rfl ?_;intro w3 B3 G3 z3)
  |(refine C3_ rfl _ _ rfl _ rfl c rfl oc1 oc2 Cfg.zero B3 ?_;intro w5 B7 G5))
 have M5:=M2.same (Af_ G3 G5 (le_ _));have hw2:w.heap.size<w2.heap.size:=ll_ za G2.size;have H5:w.grownBy w5 none:=Af_ (Aa_ Ga (Aa_ G2 G3)) G5 (Nat.le_of_lt hw2);have B45:=(B4.same (Aa_ G2 G3)).kept G5 (by simp;omega);have HO5:=hh_ (Rd.same HO1.out (Af_ (Aa_ G2 G3) G5 G2.size))
 have htl:∀i,ownF c.Table i→w.heap.size<i∧i<w5.heap.size:=fun i hi=>⟨by
  obtain⟨a,cp,e⟩:=M2.table.shape;rw[e] at hi
  cases a with
  | none=>cases hi
  | some ad=>cases hi;have:=T2 _ _ _ e;omega,N2_ M5.table (by rw[M5.tlen];decide) i hi⟩
 have Hcls:=hh_ (show 0<lc.length→∀a i m,c.Classes=.slice (some a) i m→w.heap.size<a.block∧a.block<w5.heap.size from fun h0 a i m e=>⟨by have:=C2 _ _ _ e;omega,M5.classes.blockLt h0 _ _ _ e⟩);have hb7:=B7.lt;clear M2 D1 D2 G1 G2 G3 G5 B3 B4 Ga T2 C2 HD1 HO1 z3 hz12;generalize w2.heap.size=b7 at *;have HN2:=hh_ N2;have HM5:=hh_ M5;have HF2:=hh_ F2;have HZ2:=hh_ Z2;have HH5:=hh_ H5;have HB7:=hh_ B7;have HB45:=hh_ B45;have Htl:=hh_ htl;have CN:=hh_ (di_ c lc t w5 N2 M5 F2);clear N2 M5 F2 Z2 H5 htl
 go_upto_region 3 with(first |(refine Al_ rfl _ rfl _ rfl c B7 ?_) |(go_at_call 19;refine CN.out.mono ?_;rintro e w6 ⟨G,rfl,hC,hi,g6⟩))
 have HCl:=hh_ hC;have Hhi:=hh_ hi;have Hg6:=hh_ g6;have B76:=B7.same g6;have HO6:=hh_ (Rd.same HO5.out g6);have hz56:=g6.size;clear hC hi g6 HO5 B7 B45 CN
 go_upto_region 4 with fail
 have KN:World.grownBy w6 w6.drew none:=gw_;have B7d:=B76.same KN;have HOd:=hh_ (Rd.same HO6.out KN);have HKN:=hh_ KN;clear KN HO6 B76;refine wp_region_any (by kernel_rfl) ?_
 (refine Tail.take_put 5 30 (.int .i64 0) rfl rfl (by kernel_rfl) (by kernel_rfl) (by kernel_rfl) (fun _ _ _ h=>h) (Or.inl ⟨by rfl,fun w=>?_⟩) ?_;· go_simp);simp only[List.setIfInBounds_toArray,List.set_cons_zero,List.set_cons_succ]
 (refine Rg.wpAny_rg 3 #[] #[false,false,false,false,false,true] (fun w w'=>World.grownBy w w' none) (fun j _ w v w'=>match j with | 1=>(v=.pointer (some ⟨w.heap.size,0,none⟩)∧Deck w'.heap.size w' w.heap.size)∧World.grownBy w w' none | _=>False) (by kernel_rfl) (by kernel_rfl) rfl (by kernel_rfl) (by simp only[Rg.tailL,List.drop];decide) (fun w=>Ab_ w none) (fun _ _ _ h k=>Aa_ h k) (fun _ _ _ _ _ h=>h) ?_;simp only[List.take,List.drop,Rg.tailL];simp (decide:=true) only[if_true,if_false])
 (refine tq_ 1 ?_;(repeat(go_big_quiet_step (fail)));refine wn_ ?_)
 (refine tc_ ?_;intro x1 mx1 dx1;refine⟨?_,?_⟩;· (unfold Rg.callSpec;go_simp;(refine(fb_ _ _ _ _ (Rd.same HOd.out mx1)).mono ?_;rintro e w' ⟨rfl,h1,h2⟩;exact⟨_,rfl,⟨rfl,h1⟩,h2⟩)))
 have hzx1:=mx1.size;clear dx1;rintro v1 y1 ⟨⟨rfl,D1⟩,g1⟩;refine⟨g1,?_⟩;simp only[pt_]
 (refine to_ ?_;intro x2 mx2 dx2)
 clear dx2;have BX:=B7d.same mx2
 go_wp2_with (refine Al_ rfl _ rfl _ rfl c BX ?_)
 refine⟨Ab_ _ _,?_⟩;clear BX
 (refine Rg.tree_nil ?_;intro z mz dz cz)
 have Dz:=D1.kept (dz.out 1 (by omega)) (by simp);have hyz:=(dz.out 1 (by omega)).size;have HKz:=hh_ (Aa_ HKN.out mz);have HCz:=hh_ (HCl.out.same HKz.out);have CO:=hh_ (e5_ x1.heap.size c 14 z Dz hyz (by omega) HZ2.out.length);have hxz:w6.heap.size≤x1.heap.size:=lt_ HKN.out.size hzx1;have hxzz:w6.heap.size≤z.heap.size:=HKz.out.size;clear mx1 g1 mx2 mz dz cz D1 Dz HOd B7d hzx1 hyz
 go_upto_region 5 with(go_at_call 20;refine CO.out.mono ?_;rintro e w8 ⟨vq,L,rfl,hO,hE,hLl,hD8,g8⟩;obtain⟨qa,qc,rfl⟩:=hO.own.shape)
 obtain⟨hq1,hq2⟩:=hO.q;have R0:RpS w5 c t (.slice qa L.length qc) L w8 G (newK c.Shards.toNat) (.slice none 0 0) []:=⟨HCz.out.keptS (GrownS.of (S:=fun i=>some x1.heap.size=some i) g8 fun k e=>e) fun i hi e=>by cases e;have:=HCl.out.low _ hi;omega,Hhi.out,hq1.base (lt_ hz56 hxzz),fun i hi hf=>by have:=hq2 i hi;have:=HCl.out.low i hf;omega,Bo_.nil _ _,fun i hi=>by rcases hi with hi |⟨_,hx,_⟩;exact absurd hi (Ay_ i);simp at hx,fun i _ hi=>by rcases hi with hi |⟨_,hx,_⟩;exact absurd hi (Ay_ i);simp at hx,Af_ (Aa_ Hg6.out HKz.out) g8 (by omega)⟩;have HR0:=hh_ R0;have HE:=hh_ hE
 have hL15:L.length≤15:=by have:=hLl.2;omega
 have hgg:∃g0,G.g=g0:=⟨_,rfl⟩;obtain⟨g0,hg0⟩:=hgg;have Hg0:=hh_ hg0;rw[hg0];clear R0 hq1 hq2 hO hE hLl hD8 g8 CO HCz HKz HKN hxz hxzz hg0 HCl Hhi;clear hz56
 go_loopw [10,30] (fun s10 s30 wk=>∃(k:Nat) (G':RcG) (K':CluM) (rs:List Rep),k≤L.length∧s30=.int .i64 k∧RpS w5 c t (.slice qa L.length qc) L wk G' K' s10 rs∧G'.g=g0∧CluOk c K' (266240*k)∧ReachK c t K'∧F2_ c t rs∧rs.length≤10000000*k) (fun _ s30 _=>L.length-(RowKit.intOf s30).toNat)
 case atStart=>exact⟨0,G,_,[],zl_ _,rfl,HR0.out,Hg0.out,dw_ HN2.out,.new,fun r hr=>by simp at hr,zl_ _⟩
 case round=>
  clear HR0 Hg0;obtain⟨k,G',K',rs,hk,rfl,hR,hg,hO,hK,hrs,hrl⟩:=hrel
  by_cases hlt:k<L.length
  ·have HR:=hh_ hR
   have HO:=hh_ hO;have HK:=hh_ hK;have Hrs:=hh_ hrs;obtain⟨gq,oq,hv,_,hgq,_,hcq,_⟩:=hR.ops.own.at_ Ep_ hlt;cases hv;have hor:=hR.ops.rd _ (mg_ hlt);have hoe:=HE.out _ (mg_ hlt);have Hc:=hh_ (show ∀j v,(opF (L[k]))[j]?=some v→wr.cell? ⟨gq,k*6+j,none⟩=some v from hcq)
   have hklt :(k:Int)<(L.length:Int):=by omega
   clear hR hO hK hrs hcq;generalize L[k]=o at *;obtain⟨kd,vd,tm,sd,ky,vp,d,q⟩:=o;obtain⟨⟨da',dc',e1⟩,⟨pa,pc,e2⟩⟩:=hor.shapes;dsimp only at *;subst e1 e2;have Hor:=hh_ hor;obtain⟨_,hlong,hrange⟩:=H6_.1 hoe
   have hdl:d.length≤4096:=by simp[longB] at hlong;omega
   have htm:¬badT tm:=by
    simp only[rangeB,Bool.and_eq_true,dy_] at hrange;unfold badT;omega
   have htm2:0≤tm∧tm≤1099511627776:=by unfold badT at htm;omega
   clear hor hoe hlong hrange
   go_upto_region 7 with(first
    |(refine Qi_ rfl _ rfl _ _ rfl Hc.out ?_)
    |(refine Yu_ rfl rfl ?_;intro wa' Aa ga za')
    |(refine Zl_ rfl _ _ rfl _ rfl rfl rfl rfl _ rfl Aa ?_;intro wb Ab gb))
   have gab:=Af_ ga gb (le_ _);have ab:=Ab.cell;have HRb:=hh_ (HR.out.same gab);have Hdat:=hh_ (Hor.out.data.same gab)
   have hNk:266240*k+65*d.length≤266240*(k+1):=by omega
   have hNb:266240*k<4000000:=by omega
   clear ga gb gab Aa Ab za' HR Hc Hor;have HCF:=hh_ (HRb.out.cfg HN2.out HM5.out fun i hi=>(Htl.out i hi).2)
   by_cases h1:kd=1
   ·subst h1
    have CF:=Wk_ G' c t K' (266240*k) (.slice da' d.length dc') d wb HRb.out.clu HCF.out HO.out Hdat.out (by omega) (by omega);rw[hg] at CF;unfold Z2_ at CF;have CF:=hh_ CF
    go_wp2_with (go_at_call 21;refine CF.out.mono ?_;rintro e w9 ⟨G2,vo,rfl,FD⟩)
    have R9:=HRb.out.mov FD.clu FD.mov;have O9:=(Yl_ (t:=t) HN2.out HO.out d).up hNk;have K9:=HK.out.feed HO.out.str d;exact⟨⟨k+1,_,_,rs,by omega,by go_num,R9,FD.g.trans hg,O9,K9,Hrs.out,by omega⟩,by simp[RowKit.intOf];omega⟩
   ·have e1 :(kd==1)=false:=bf_ h1
    by_cases h2:kd=2
    ·subst h2
     have CT:=Ot_ G' c t K' (266240*k) tm wb HRb.out.clu HCF.out HO.out (by omega) htm;rw[hg] at CT;unfold TickP at CT;have CT:=hh_ CT;clear e1 h1
     go_upto_region 12 with(go_at_call 22;refine CT.out.mono ?_;rintro e w9 ⟨G2,vw,ws,vo,xs',rfl,TD,TR⟩)
     have R9:=HRb.out.mov TD.clu TD.mov;have HR9:=hh_ R9;have HTD:=hh_ TD
     have hxl:xs'.length≤10000000:=by
      have h1:=TR.1;have h2:=(List.takeWhile_prefix (l:=K'.led.map (·.1)) (fun w=>decide (w<lowV c (max K'.mark tm)))).length_le;have h3:=HO.out.led;rw[List.length_map] at h2;have h4 :(low1 c (max K'.mark tm) (K'.led.map (·.1))).length≤K'.led.length:=h2
      omega
     have HTR:=hh_ (Pi_ (HK.out.mark tm htm2) TR);obtain⟨xa,xc,rfl⟩:=TD.fr.out.own.shape;have hxr:=hh_ (fun x hx=>(TD.fr.out.all x hx).1)
     have hb1 :(rs.length+xs'.length)*88≤140737488355328:=by omega
     have hb2:rs.length+xs'.length≤9223372036854775807:=by omega
     have hbs:w5.heap.size≤w9.heap.size:=R9.grown.size;have HRx:=hh_ TD.fr.out.own.rd;clear TD TR R9 CT
     go_upto_region 13 with(at_builtin;refine ew_ Oi_ (reps_one hxr.out) HR9.out.out.own HRx.out rfl hb1 hb2 hbs (by rfl) _ _ (by rfl) (by rfl) (by rfl) ?_;intro v7 w7 o7 g7 l7)
     have hz:=HRb.out.grown.size;have R7:=HR9.out.app (N:=wb.heap.size) (fun i hi=>HRb.out.out.own.low i hi) hz hxr.out (fun x hx i hi=>(HTD.out.fr.out.all x hx).2.1 i hi) (fun x hx i hi hf=>HTD.out.fr.o2 i (.inr ⟨x,hx,hi⟩) hf) (fun i hi=>HRb.out.ops.low i hi) o7 g7 l7;have HR7:=hh_ R7;have HG2:=hh_ (HTD.out.g.trans hg);have O7:=hh_ ((On_ (t:=t) HN2.out.tier.cfg HO.out tm).up (show 266240*k≤266240*(k+1) by omega));have K7:=hh_ (HK.out.tick htm2);clear R7 o7 g7 l7 HRx hxr HR9 HTD
     go_wp2_with fail
     exact⟨⟨k+1,_,_,rs++xs',by omega,by go_num,HR7.out,HG2.out,O7.out,K7.out,Hrs.out.app HTR.out,by rw[la_];omega⟩,by simp[RowKit.intOf];omega⟩
    ·have e2 :(kd==2)=false:=bf_ h2
     clear h1 h2
     go_wp2_with fail
     exact⟨⟨k+1,_,_,rs,by omega,by go_num,HRb.out,hg,HO.out.up (by omega),HK.out,Hrs.out,by omega⟩,by simp[RowKit.intOf];omega⟩
  ·have hkl:k≤15:=by omega
   have hO2:=hO.up (show 266240*k≤4000000 by omega);have HCF:=hh_ (hR.cfg HN2.out HM5.out fun i hi=>(Htl.out i hi).2);have CT:=Ot_ G' c t K' 4000000 1099511627776 wr hR.clu HCF.out hO2 (by omega) (by unfold badT;omega);rw[hg] at CT;unfold TickP at CT;have CT:=hh_ CT;have HR:=hh_ hR;have HO:=hh_ hO2;have HK:=hh_ hK;have Hrs:=hh_ hrs
   have hrl2:rs.length≤150000000:=by omega
   clear hR hO hO2 hK hrs hrl hk
   go_upto_region 15 with(go_at_call 22;refine CT.out.mono ?_;rintro e w9 ⟨G2,vw,ws,vo,xs',rfl,TD,TR⟩)
   have R9:=HR.out.mov TD.clu TD.mov
   have hxl:xs'.length≤10000000:=by
    have h1:=TR.1;have h2:=(List.takeWhile_prefix (l:=K'.led.map (·.1)) (fun w=>decide (w<lowV c (max K'.mark 1099511627776)))).length_le;have h3:=HO.out.led;rw[List.length_map] at h2;have h4 :(low1 c (max K'.mark 1099511627776) (K'.led.map (·.1))).length≤K'.led.length:=h2
    omega
   have HTR:=hh_ (Pi_ (HK.out.mark 1099511627776 (by omega)) TR);have HTD:=hh_ TD;obtain⟨xa,xc,rfl⟩:=TD.fr.out.own.shape
   have hb1 :(rs.length+xs'.length)*88≤140737488355328:=by omega
   have hb2:rs.length+xs'.length≤9223372036854775807:=by omega
   have hg9:=TD.g.trans hg;have KN:World.grownBy w9 w9.drew none:=gw_;have HRd:=hh_ (R9.same KN);have HTz:=hh_ (TD.same KN);have HKN:=hh_ KN;have HB7d:=hh_ (HB7.out.same HRd.out.grown);have hbs:w5.heap.size≤w9.drew.heap.size:=HRd.out.grown.size;obtain⟨r,hr⟩:∃r,u10.ownBlock=r:=⟨_,rfl⟩
   have hr5:∀k,r=some k→w5.heap.size≤k∧k<wr.heap.size:=fun k e=>HR.out.out.own.lt k (hr.trans e)
   have hr7:r≠some b7:=fun e=>by have:=hr5 _ e;omega
   have hrg:r≠some g0:=fun e=>HRd.out.o2 g0 (.inl (hr.trans e)) (by rw[←hg9];exact RcG.F_part (j:=0) (P:=oneF G2.g) rfl G2.g rfl)
   obtain⟨ia,ic,hvi⟩:=HRd.out.clu.core.it.shape;have Hvi:=hh_ hvi;have Hr:=hh_ hr;have HBk:=hh_ HRd.out.clu.blk;clear TD TR R9 CT KN hr hvi
   have hrb:r≠some w.heap.size:=fun e=>by have:=hr5 _ e;omega
   have hgb:g0≠w.heap.size:=fun e=>by have:=HRd.out.hi G2.g (RcG.F_part (j:=0) (P:=oneF G2.g) rfl G2.g rfl);omega
   have hb7b:b7≠w.heap.size:=by omega
   have hbN:w.heap.size<w5.heap.size:=by omega
   have HB4d:=hh_ (HB45.out.same HRd.out.grown)
   (refine Rg.wp_region_rgZ 11 #[] (Dg_ repF 7 26 w5.heap.size (fun T=>T=rs∨T=rs++xs') r w.heap.size c) (fun _ _ _ _ _=>False) (by kernel_rfl) (by kernel_rfl) (Dg_.refl _ _ _ _ _ _ _ _) (fun _ _ _ h k=>h.trans k) (fun _ _ _ _ _ h=>h) ?_;simp only[List.take,List.drop])
   generalize w9.drew=wd at *
   (refine to_ ?_;intro y0 my0 dy0)
   clear dy0;have BX:=HB7d.out.keptS my0.grown (fun h=>h.elim hr7 hb7b)
   go_wp2_with (refine Al_ rfl _ rfl _ rfl c BX ?_)
   refine⟨Dg_.refl _ _ _ _ _ _ _ _ _,?_⟩;clear BX
   (refine tq_ 2 ?_;(repeat(go_big_quiet_step (fail)));refine wn_ ?_)
   (refine to_ ?_;intro y3 my3 dy3)
   have O3:=my3.own _ _ (.inl rfl) HRd.out.out.own
   have R3:RdL repF 7 y3 (.slice xa xs'.length xc) xs':=(HTz.out.fr.out.own.keptS my3.grown fun g hg hs=>by
    have h2:=(HTz.out.fr.out.own.lt g hg).1;have h3:=HR.out.grown.size
    rcases hs with e|e
    ·have:=hr5 _ e;omega
    ·omega).rd
   have z3:=my3.grown.size;clear dy3
   go_wp2_with (at_builtin;refine Qw_ (P:=fun T=>T=rs∨T=rs++xs') Oi_ (reps_one fun x hx=>(HTz.out.fr.out.all x hx).1) Hb_ O3 R3 rfl hb1 hb2 (lt_ hbs z3) (fun T e=>e.elim (fun e=>.inl (by rw[e];exact le_ _)) (fun e=>.inr (.inl (by rw[e];exact List.prefix_refl _)))) (by rfl) _ _ (by rfl) (by rfl) (by rfl) ?_;intro v3 e3 o3 k3 l3;have Hk3:=hh_ k3;clear k3)
   rw[Hr.out] at Hk3;refine⟨Dg_.ofR Hk3.out hrb,?_⟩
   have L3:Lies u10 v3 wd.heap.size:=l3.imp id fun⟨m,e1,e2⟩=>⟨m,e1,lt_ z3 e2⟩
   obtain⟨a3,c3,rfl⟩:=o3.shape
   (refine tq_ 3 ?_;(repeat(go_big_quiet_step (fail)));refine wn_ ?_)
   (refine to_ ?_;intro y7 my7 dy7)
   clear dy7;have bx:=(my7.blk HBk.out (by rw[hg9];exact hrg) (by rw[hg9];exact hgb)).cell;rw[hg9,Hvi.out] at bx
   go_wp2_with fail
   refine⟨Dg_.refl _ _ _ _ _ _ _ _ _,?_⟩;clear bx
   (refine to_ ?_;intro y8 my8 dy8)
   clear dy8;obtain⟨c0,B8⟩:=my8.b2 ⟨_,HB4d.out⟩
   go_wp2_with (refine C3_ rfl _ _ rfl _ rfl c rfl oc1 oc2 c0 B8 ?_;intro e8 B9 G9)
   refine⟨Dg_.store G9 B9 hbN,?_⟩
   try simp only[pt_]
   (refine tq_ 2 ?_;(repeat(go_big_quiet_step (fail)));refine wn_ ?_)
   (refine Rg.tree_nil ?_;intro z2 mz2 dz2 cz2)
   have OZ:=(dz2.out 3 (by omega)).own _ _ (.inr rfl) o3;have BZ:=(dz2.out 8 (by omega)).b1 B9;have gS:=mz2.grown;rw[←Hr.out] at gS;obtain⟨CZ,RZ,FZ⟩:=HRd.out.fin (N:=wr.heap.size) (xs:=xs') (fun i hi=>HR.out.out.own.low i hi) HR.out.grown.size hbN (fun x hx=>(HTz.out.fr.out.all x hx).1) (fun x hx i hi=>(HTz.out.fr.out.all x hx).2.1 i hi) (fun x hx i hi hf=>HTz.out.fr.o2 i (.inr ⟨x,hx,hi⟩) hf) OZ gS L3
   have hla :(rs++xs').length=rs.length+xs'.length:=by simp
   rw[hla] at RZ FZ;have HCZ:=hh_ CZ;have HRZ:=hh_ RZ;have HFZ:=hh_ FZ;have HBZ:=hh_ BZ;have HgS:=hh_ gS;clear my0 my3 my7 my8 mz2 dz2 cz2 OZ L3 o3 l3 Hk3 O3 R3 HTz HBk B8 B9 G9 CZ RZ FZ BZ gS
   go_wp2_with fail
   obtain⟨tb,fb,hbl,hba⟩:=HBZ.out.block;have L1:=run_loadVar_row (P:=Tryz.prog) z2 w.heap.size tb 31 _ fb _ hbl underlying31 rfl Db_;refine bodyPost_ret (v:=.tuple #[c.val,.slice a3 (rs.length+xs'.length) c3,.slice ia (tickK c t K' 1099511627776).items.length ic]) (by simp[results,results7,asAddr,L1,Cfg.val]) rfl ?_;have hz05:=HH5.out.size;have hz5z:w5.heap.size≤z2.heap.size:=lt_ hbs HgS.out.size
   have hS:∀i,(u10.ownBlock=some i∨i=w.heap.size)→w5.heap.size≤i∨i=w.heap.size:=fun i hs=>hs.imp (fun e=>(HR.out.out.own.lt i e).1) id
   have hIt:=HCZ.out.core.it
   have hvi4:∀i,ownF G2.vi i→w5.heap.size≤i:=fun i hi=>HRd.out.hi i (RcG.F_part (j:=4) (P:=ownF G2.vi) rfl i hi)
   have hItB:=hIt.base (fun k hk=>lt_ hz05 (hvi4 k hk));have hOf:Off (ownF G2.vi) (Ju_ (.slice a3 (rs.length+xs'.length) c3) (rs++xs')):=HFZ.out.symm.left (RcG.F_part (j:=4) (P:=ownF G2.vi) rfl);rw[Hvi.out] at hItB hOf;refine⟨c,lc,t,_,_,_,rs++xs',rfl,HN2.out,HZ2.out,?_,HF2.out,HRZ.out.base hz05,by rw[hla];omega,Hrs.out.app HTR.out,HK.out.tick (by omega),(On_ (t:=t) HN2.out.tier.cfg HO.out _).up (by omega),hItB,hOf,?_,fun i hi=>⟨Nat.le_of_lt (Htl.out i hi).1,by have:=(Htl.out i hi).2;omega⟩⟩
   ·refine CfgMem.keptS ((CfgMem.same HM5.out HRd.out.grown)) HgS.out (fun a i m e hs=>?_) (fun h0 a i m e hs=>?_)
    ·have:=Htl.out a.block (by rw[e];rfl)
     have:=hS _ hs;omega
    ·have:=Hcls.out h0 a i m e
     have:=hS _ hs;omega
   ·exact HgS.out.base (Aa_ HH5.out HRd.out.grown) fun i hs=>by have:=hS i hs;omega
end
section
open Go.RowKit
theorem Uh_ (n:Int) (k:Nat) (hk:k≤62):bits .and .i64 n (2 ^ k-1)=n%2 ^ k:=by
 have h2 :(BitVec.ofInt 64 (2 ^ k-1)).toNat=2 ^ k-1:=by
  have hp :(2:Nat) ^ k≤2 ^ 62:=Nat.pow_le_pow_right (by omega) hk;have h0:0<(2:Nat) ^ k:=Nat.two_pow_pos k;rw[BitVec.toNat_ofInt]
  have e :((2:Int) ^ k-1) =((2 ^ k-1:Nat):Int):=by rw[Int.natCast_sub h0];simp
  rw[e,show((2 ^ 64:Nat):Int)=18446744073709551616 by decide]
  omega
 have key :(BitVec.ofInt 64 n &&& BitVec.ofInt 64 (2 ^ k-1)).toNat =(n%((2 ^ 64:Nat):Int)).toNat%2 ^ k:=by
  rw[BitVec.toNat_and,BitVec.toNat_ofInt,h2,Nat.and_two_pow_sub_one_eq_mod]
 show IntKind.i64.wrap ((BitVec.ofInt 64 n &&& BitVec.ofInt 64 (2 ^ k-1)).toNat:Nat)=n%2 ^ k
 rw[key,IntKind.wrap_i64];have hp :(2:Nat) ^ k≤2 ^ 62:=Nat.pow_le_pow_right (by omega) hk;have h0:0<(2:Nat) ^ k:=Nat.two_pow_pos k
 have hdv :((2:Int) ^ k) ∣ ((2 ^ 64:Nat):Int):=by
  refine⟨2 ^ (64-k),?_⟩;rw[←Int.pow_add,show k+(64-k)=64 by omega];rfl
 have hmm:n%((2 ^ 64:Nat):Int)%2 ^ k=n%2 ^ k:=Int.emod_emod_of_dvd n hdv;have hn:0≤n%((2 ^ 64:Nat):Int):=Int.emod_nonneg _ (by decide)
 have e2 :(((n%((2 ^ 64:Nat):Int)).toNat%2 ^ k:Nat):Int)=n%2 ^ k:=by
  rw[Int.natCast_emod,Int.toNat_of_nonneg hn];rw[←hmm];simp
 rw[e2];have b1:=Int.emod_nonneg n (show(2:Int) ^ k≠0 by have :(0:Int)<2 ^ k:=Int.pow_pos (by omega);omega);have b2:=Int.emod_lt_of_pos n (show(0:Int)<2 ^ k from Int.pow_pos (by omega))
 have b3 :(2:Int) ^ k≤4611686018427387904:=by
  have :(((2:Nat) ^ k:Nat):Int)≤((2 ^ 62:Nat):Int):=Int.ofNat_le.2 hp
  simpa using this
 omega
end
section
open Go.RowKit Go.Sort
def Oq_ (r:Rep) (w:World) (e:Ending) (w':World):Prop:=
 ∃x:Rep,e=.returned (repV x.win x.tot x.vl x.over x.trk x.rest x.vr)∧RepRd w' x∧RepW x∧x.lines.length≤r.lines.length∧x.rej.length=r.rej.length∧w.grownBy w' none
structure SpE4 (r:Rep) (w0:World) (B br rb:Nat) (w:World) (x:Rep):Prop where
 A:Blk w br (repA x.win x.tot x.vl x.over x.trk x.rest x.vr)
 C:Blk w rb rep0
 rd:RepRd w x
 fl:From B x.vl
 jl:0<x.rej.length→∀a n c,x.vr=.slice (some a) n c→a.block<w0.heap.size
 W:RepW x
 G:w0.grownBy w none
 lo:w0.heap.size≤rb
 hi:rb<B
 n3:x.lines.length≤r.lines.length
 nj:x.rej.length=r.rej.length
theorem SpE4.fin {r:Rep} {w0:World} {B br rb:Nat} {w w':World} {x:Rep} (h:SpE4 r w0 B br rb w x) (hg:w.grownBy w' (some rb)):Oq_ r w0 (.returned (repV x.win x.tot x.vl x.over x.trk x.rest x.vr)) w':=
 ⟨x,rfl,⟨h.rd.lines.keptFrom h.fl hg h.hi,h.rd.rej.kept0 hg fun h0 b e a n c hv=>by cases e;have:=h.jl h0 a n c hv;have:=h.lo;omega,h.rd.lcap,h.rd.rcap⟩,h.W,h.n3,h.nj,Af_ h.G hg h.lo⟩
structure Sp4 (w0:World) (B br rb:Nat) (w:World) (x:Rep):Prop where
 A:Blk w br (repA x.win x.tot x.vl x.over x.trk x.rest x.vr)
 C:Blk w rb rep0
 ol:Own lnF 3 46 B w x.vl x.lines
 oj:RdL wordF 1 w x.vr x.rej
 jl:0<x.rej.length→∀a n c,x.vr=.slice (some a) n c→a.block<w0.heap.size
 jc:∀a n c,x.vr=.slice a n c→n≤c
 W:RepW x
 G:w0.grownBy w none
 lb:w0.heap.size≤br
 lo:w0.heap.size≤rb
 hi:rb<B
 hb:br<B
 ne:br≠rb
theorem Sp4.e {r:Rep} {w0:World} {B br rb:Nat} {w:World} {x:Rep} (h:Sp4 w0 B br rb w x) (n3:x.lines.length≤r.lines.length) (nj:x.rej.length=r.rej.length):SpE4 r w0 B br rb w x:=
 ⟨h.A,h.C,⟨h.ol.rd,h.oj,h.ol.capOk,h.jc⟩,h.ol.from_,h.jl,h.W,h.G,h.lo,h.hi,n3,nj⟩
theorem Sp4.set {w0:World} {B br rb:Nat} {w:World} {x:Rep} (h:Sp4 w0 B br rb w x) (y:Rep) (i:Nat) (v:Value) (e :(repA x.win x.tot x.vl x.over x.trk x.rest x.vr).setIfInBounds i v=repA y.win y.tot y.vl y.over y.trk y.rest y.vr)
  (ol:Own lnF 3 46 B w y.vl y.lines) (oj:RdL wordF 1 w y.vr y.rej) (jl:0<y.rej.length→∀a n c,y.vr=.slice (some a) n c→a.block<w0.heap.size) (jc:∀a n c,y.vr=.slice a n c→n≤c) (hW:RepW y):Sp4 w0 B br rb (w.setCell ⟨br,i,none⟩ v) y:=by
 have hg:=Ac_ (Ab_ w (some br)) i v;have hb:=h.hb;have hlb:=h.lb;exact⟨h.A.set_ i v e,h.C.kept hg (by simp;exact h.ne),ol.kept hg (fun k hk e=>by cases e;have:=(ol.lt _ hk).1;omega),oj.kept0 hg (fun h0 k e a n c hv=>by cases e;have:=jl h0 a n c hv;omega),jl,jc,hW,Aj_ (p:=⟨br,i,none⟩) h.G h.lb v,h.lb,h.lo,h.hi,h.hb,h.ne⟩
theorem Sp4.drewN {w0:World} {B br rb:Nat} {w:World} {x:Rep} (h:Sp4 w0 B br rb w x) (k:Nat):Sp4 w0 B br rb (w.drewN k) x:=by
 have g:=Ae_ (Ab_ w none) k;exact⟨h.A.same g,h.C.same g,h.ol.same g,RdL.same h.oj g,h.jl,h.jc,h.W,Ae_ h.G k,h.lb,h.lo,h.hi,h.hb,h.ne⟩
theorem Sp4.line {w0:World} {B br rb:Nat} {w:World} {x:Rep} (h:Sp4 w0 B br rb w x) {gl n cap:Nat} (hv:x.vl=.slice (some ⟨gl,0,none⟩) n cap) {i j:Nat} (hi:i<x.lines.length) (hj:j<3) (u:Value) (y:Ln) (hy:lnF y =(lnF x.lines[i]).set j u) (hw:LnW y) :
  Sp4 w0 B br rb (w.setCell ⟨gl,i*3+j,none⟩ u) ⟨x.win,x.tot,x.vl,x.over,x.trk,x.rest,x.vr,x.lines.set i y,x.rej⟩:=by
 have ho:=h.ol;rw[hv] at ho;have hl:=ho.lt gl rfl;have hb:=h.hb;have hr:=h.hi;have hlb:=h.lb;obtain⟨st,hg⟩:=ho.stored Ar_ hi hj u y hy;refine⟨h.A.kept hg (by simp;omega),h.C.kept hg (by simp;omega),by rw[hv];exact st,h.oj.kept0 hg (fun h0 k e a n c hv=>by cases e;have:=h.jl h0 a n c hv;omega),h.jl,h.jc,⟨h.W.win,h.W.tot,h.W.over,h.W.trk,h.W.rest,fun z hz=>?_,h.W.rej⟩,Aj_ (p:=⟨gl,i*3+j,none⟩) h.G (by simp only;omega) _,h.lb,h.lo,h.hi,h.hb,h.ne⟩
 rcases List.mem_or_eq_of_mem_set hz with h1|h1
 ·exact h.W.lines z h1
 ·rw[h1];exact hw
theorem wrapW4 (n:Int):W64 (IntKind.u64.wrap n):=by have:=IntKind.wrap_u64 n;unfold W64;rw[this];omega
theorem ff_ {xx:Ln} (x:Ln) (h:x=xx) (k:Int):lnF ⟨xx.key,k,xx.hi⟩ =(lnF x).set 1 (.int .u64 k):=by subst h;rfl
theorem Ou_ (n:Int):I64 (wrap64 n):=by unfold wrap64 I64;omega
theorem fk_ (n k:Int):W64 (bits .and .u64 n k):=wrapW4 _
theorem Sh_ (x:Rep) (at_ n:Int) (w:World) (hR:RepRd w x) (hW:RepW x) (hl:x.lines.length≤100000) :
  Calls Tryz.prog 10 #[repV x.win x.tot x.vl x.over x.trk x.rest x.vr,.int .i64 at_,.int .u64 n] w (Oq_ x w):=by
 have HR:=hh_ hR;have HW:=hh_ hW;obtain⟨win,tot,vl,over,trk,rest,vr,ls,rj⟩:=x;obtain⟨la,lc,e1⟩:=hR.lines.shape;obtain⟨ja,jc,e2⟩:=hR.rej.shape;dsimp only at *;subst e1 e2;clear hR hW;have ha7:bits .and .i64 at_ 7=at_%8:=Uh_ at_ 3 (by omega);have ha8:bits .and .i64 (at_/8) 7=at_/8%8:=Uh_ _ 3 (by omega)
 go_enter func10,ntmps10
 go_upto_region 1 with fail
 have A1:=(Blk.new w (repA win tot (.slice la ls.length lc) over trk rest (.slice ja rj.length jc)) 26).same (ga_ _ (.cells rep0 26) none);have C1:=Blk.new' (w.alloc (.cells (repA win tot (.slice la ls.length lc) over trk rest (.slice ja rj.length jc)) 26)) rep0 26 (g:=w.heap.size+1) (by simp);have G1:=Ad_ (Ad_ (Ab_ w none) (.cells (repA win tot (.slice la ls.length lc) over trk rest (.slice ja rj.length jc)) 26)) (.cells rep0 26)
 have z1 :((w.alloc (.cells (repA win tot (.slice la ls.length lc) over trk rest (.slice ja rj.length jc)) 26)).alloc (.cells rep0 26)).heap.size=w.heap.size+2:=by simp
 generalize (w.alloc (.cells (repA win tot (.slice la ls.length lc) over trk rest (.slice ja rj.length jc)) 26)).alloc (.cells rep0 26)=w1 at *;obtain⟨br,hbr⟩:∃br,w.heap.size=br:=⟨_,rfl⟩;obtain⟨rb,hrb⟩:∃rb,w.heap.size+1=rb:=⟨_,rfl⟩;obtain⟨B,hB⟩:∃B,w1.heap.size=B:=⟨_,rfl⟩;rw[hrb] at C1 ⊢;rw[hbr] at A1 ⊢
 have hbB:br<B:=by omega
 have hrB:rb<B:=by omega
 have hne:br≠rb:=by omega
 have hlo:w.heap.size≤rb:=by omega
 have hlb:w.heap.size≤br:=by omega
 have HB:=hh_ hB;clear hbr hrb z1 hB
 have hml:ls.length*32≤140737488355328:=by omega
 have hml2:ls.length≤9223372036854775807:=by omega
 have R1:=hh_ (RdL.same HR.out.lines G1);have A1b:=A1.same (ga_ w1 (.cells #[] 46) none);have N1:=Aw_ (e:=46) lnF 3 (le_ w1.heap.size);have RL:=RdL.same R1.out (ga_ w1 (.cells #[] 46) none);have ab:=A1b.cell;have tok:=hh_ hml
 go_upto_region 2 with(at_builtin;have _t:=tok;refine A2_ Ez_ Ey_ N1 RL rfl hml hml2 (by simp) (by rfl) _ _ (by rfl) (by rfl) (by rfl) ?_;intro v2 w2 o2 g2 l2;clear tok ab;have A2:=A1b.same g2;have C2:=(C1.same (ga_ w1 (.cells #[] 46) none)).same g2;have K2:=Aa_ (ga_ w1 (.cells #[] 46) none) g2;clear A1b N1 RL g2 l2;have f2:=A2.free;have a2:=A2.cell;obtain⟨la2,lc2,rfl⟩:=o2.shape)
 have o2':Own lnF 3 46 B w2 (.slice la2 ls.length lc2) ls:=HB.out▸o2;have gs:=Ac_ (Ab_ w2 (some br)) 2 (.slice la2 ls.length lc2);have HWo:=HW.out
 have S0:Sp4 w B br rb (w2.setCell ⟨br,2,none⟩ (.slice la2 ls.length lc2)) ⟨win,tot,.slice la2 ls.length lc2,over,trk,rest,.slice ja rj.length jc,ls,rj⟩:=
  ⟨A2.set_ 2 (.slice la2 ls.length lc2) rfl,C2.kept gs (by simp;exact hne),o2'.kept gs (fun k hk e=>by cases e;have:=(o2'.lt _ hk).1;omega),
   (RdL.same HR.out.rej (Aa_ G1 K2)).kept0 gs (fun h0 k e a n' c hv=>by cases e;have:=(HR.out.rej.blockLt h0 _ _ _ hv);omega),fun h0 a n c hv=>HR.out.rej.blockLt h0 a n c hv,HR.out.rcap,⟨HWo.win,HWo.tot,HWo.over,HWo.trk,HWo.rest,HWo.lines,HWo.rej⟩,Aj_ (p:=⟨br,2,none⟩) (Aa_ G1 K2) hlb _,hlb,hlo,hrB,hbB,hne⟩
 generalize w2.setCell ⟨br,2,none⟩ (.slice la2 ls.length lc2)=w5 at *;clear f2 a2 gs A2 C2 o2 o2' A1 C1 K2 HWo R1 G1 HR;obtain⟨r0,hr0⟩:∃r0:Rep,(⟨win,tot,.slice la ls.length lc,over,trk,rest,.slice ja rj.length jc,ls,rj⟩:Rep)=r0:=⟨_,rfl⟩
 have hq1:rj.length=r0.rej.length:=by rw[←hr0]
 have hq2:ls.length≤r0.lines.length:=by rw[←hr0];exact le_ _
 have HW0:=HW.out;have Hr0:=hh_ hr0;have Hq1:=hh_ hq1;clear HW HB hr0 hq1
 go_upto_region 4 with fail
 obtain⟨i,hi⟩:∃i:Nat,at_/8%8=i:=⟨(at_/8%8).toNat,by omega⟩;rw[hi];obtain⟨r,hr⟩:∃r,at_%8=r:=⟨_,rfl⟩;rw[hr]
 have hr8:r=0∨r=1∨r=2∨r=3∨r=4∨r=5∨r=6∨r=7:=by omega
 have hi0 :(0:Int)≤(i:Int):=by omega
 clear ha7 ha8 hi hr;obtain⟨m3,h3⟩:∃q,bits .and .u64 n 3=q:=⟨_,rfl⟩;obtain⟨m6,h6⟩:∃q,bits .and .u64 n 63=q:=⟨_,rfl⟩;have hm6:W64 m6:=h6▸fk_ n 63;have a5:=S0.A.cell;have f5:=S0.A.free
 rcases hr8 with rfl|rfl|rfl|rfl|rfl|rfl|rfl|rfl
 ·go_upto_region 6 with fail
  have S1:=S0.set ⟨win,IntKind.u64.wrap (tot+m3),.slice la2 ls.length lc2,over,trk,rest,.slice ja rj.length jc,ls,rj⟩ 1 (.int .u64 (IntKind.u64.wrap (tot+m3))) rfl S0.ol S0.oj S0.jl S0.jc ⟨HW0.win,wrapW4 _,HW0.over,HW0.trk,HW0.rest,HW0.lines,HW0.rej⟩;have hT:=wrapW4 (tot+m3);generalize w5.setCell ⟨br,1,none⟩ (.int .u64 (IntKind.u64.wrap (tot+m3)))=w6 at *;generalize IntKind.u64.wrap (tot+m3)=T2 at *;clear S0 a5 f5;have a5:=S1.A.cell;have f5:=S1.A.free
  go_upto_region 23 with fail
  have S2:=S1.set ⟨win,T2,.slice la2 ls.length lc2,IntKind.u64.wrap (over+m3),trk,rest,.slice ja rj.length jc,ls,rj⟩ 3 (.int .u64 (IntKind.u64.wrap (over+m3))) rfl S1.ol S1.oj S1.jl S1.jc ⟨HW0.win,hT,wrapW4 _,HW0.trk,HW0.rest,HW0.lines,HW0.rej⟩;have hE:=S2.e (r:=r0) hq2 Hq1.out;generalize w6.setCell ⟨br,3,none⟩ (.int .u64 (IntKind.u64.wrap (over+m3)))=w7 at *;generalize IntKind.u64.wrap (over+m3)=O2 at *;clear S1 S2 a5 f5;have hA:=(hE).A;have hC:=(hE).C;dsimp only at hA hC
  go_wp2_with (first
   |(refine Ax_ rfl _ rfl _ rfl hA ?_)
   |(refine A5_ rfl _ _ rfl _ rfl rfl rfl rfl _ rfl hC ?_;intro wz Cz Gz))
  (try simp only[pt_])
  have hF:=(hE).fin Gz;obtain⟨td,hbd⟩:=Cz.blk;have L2:=run_loadVar_row (P:=Tryz.prog) wz rb td 26 _ _ _ hbd underlying26 rfl (by kernel_rfl);refine bodyPost_ret (v:=repV win T2 (.slice la2 ls.length lc2) O2 trk rest (.slice ja rj.length jc)) (by simp[results,results10,asAddr,L2]) rfl ?_;rw[←Hr0.out] at hF;exact hF
 ·go_upto_region 23 with fail
  have S1:=S0.set ⟨win,tot,.slice la2 ls.length lc2,over,trk,m6,.slice ja rj.length jc,ls,rj⟩ 5 (.int .u64 m6) rfl S0.ol S0.oj S0.jl S0.jc ⟨HW0.win,HW0.tot,HW0.over,HW0.trk,hm6,HW0.lines,HW0.rej⟩;have hE:=S1.e (r:=r0) hq2 Hq1.out;generalize w5.setCell ⟨br,5,none⟩ (.int .u64 m6)=w6 at *;clear S0 S1 a5 f5;have hA:=(hE).A;have hC:=(hE).C;dsimp only at hA hC
  go_wp2_with (first
   |(refine Ax_ rfl _ rfl _ rfl hA ?_)
   |(refine A5_ rfl _ _ rfl _ rfl rfl rfl rfl _ rfl hC ?_;intro wz Cz Gz))
  (try simp only[pt_])
  have hF:=(hE).fin Gz;obtain⟨td,hbd⟩:=Cz.blk;have L2:=run_loadVar_row (P:=Tryz.prog) wz rb td 26 _ _ _ hbd underlying26 rfl (by kernel_rfl);refine bodyPost_ret (v:=repV win tot (.slice la2 ls.length lc2) over trk m6 (.slice ja rj.length jc)) (by simp[results,results10,asAddr,L2]) rfl ?_;rw[←Hr0.out] at hF;exact hF
 ·obtain⟨q3,hq3⟩:∃q,IntKind.i64.wrap m3=q:=⟨_,rfl⟩
  go_upto_region 23 with fail
  have S1:=S0.set ⟨win,tot,.slice la2 ls.length lc2,over,wrap64 (trk+q3),rest,.slice ja rj.length jc,ls,rj⟩ 4 (.int .i64 (wrap64 (trk+q3))) rfl S0.ol S0.oj S0.jl S0.jc ⟨HW0.win,HW0.tot,HW0.over,Ou_ _,HW0.rest,HW0.lines,HW0.rej⟩;have hE:=S1.e (r:=r0) hq2 Hq1.out;generalize w5.setCell ⟨br,4,none⟩ (.int .i64 (wrap64 (trk+q3)))=w6 at *;clear S0 S1 a5 f5;have hA:=(hE).A;have hC:=(hE).C;dsimp only at hA hC
  go_wp2_with (first
   |(refine Ax_ rfl _ rfl _ rfl hA ?_)
   |(refine A5_ rfl _ _ rfl _ rfl rfl rfl rfl _ rfl hC ?_;intro wz Cz Gz))
  (try simp only[pt_])
  have hF:=(hE).fin Gz;obtain⟨td,hbd⟩:=Cz.blk;have L2:=run_loadVar_row (P:=Tryz.prog) wz rb td 26 _ _ _ hbd underlying26 rfl (by kernel_rfl);refine bodyPost_ret (v:=repV win tot (.slice la2 ls.length lc2) over (wrap64 (trk+q3)) rest (.slice ja rj.length jc)) (by simp[results,results10,asAddr,L2]) rfl ?_;rw[←Hr0.out] at hF;exact hF
 ·by_cases hil:i<ls.length
  ·obtain⟨gl,cap',hv',hgB,hgl,hcap,hcx,hfz⟩:=S0.ol.at_ Ar_ hil
   cases hv';have fz:=hfz (i*3+2)
   (try rw[Nat.add_zero] at fz)
   have c0:=hcx 0 _ rfl;have c1:=hcx 1 _ rfl;have c2:=hcx 2 _ rfl;rw[Nat.add_zero] at c0;clear hcx hfz
   have hi1 :(i:Int)<(ls.length:Int):=by omega
   have Hil:=hh_ hil
   go_upto_region 23 with fail
   have S1:=S0.line rfl Hil.out (show 2<3 by omega) (.int .u64 (IntKind.u64.wrap (ls[i].hi+m3))) (⟨ls[i].key,ls[i].lo,IntKind.u64.wrap (ls[i].hi+m3)⟩) rfl ⟨(HW0.lines _ (mg_ Hil.out)).lo,wrapW4 _,(HW0.lines _ (mg_ Hil.out)).key⟩
   (try rw[Nat.add_zero] at S1)
   have hE:=S1.e (r:=r0) (by simp only[List.length_set];exact hq2) Hq1.out;clear S1;generalize w5.setCell ⟨gl,i*3+2,none⟩ (.int .u64 (IntKind.u64.wrap (ls[i].hi+m3)))=w6 at *;clear S0 a5 f5 fz c0 c1 c2;have hA:=(hE).A;have hC:=(hE).C;dsimp only at hA hC
   go_wp2_with (first
    |(refine Ax_ rfl _ rfl _ rfl hA ?_)
    |(refine A5_ rfl _ _ rfl _ rfl rfl rfl rfl _ rfl hC ?_;intro wz Cz Gz))
   (try simp only[pt_])
   have hF:=(hE).fin Gz;obtain⟨td,hbd⟩:=Cz.blk;have L2:=run_loadVar_row (P:=Tryz.prog) wz rb td 26 _ _ _ hbd underlying26 rfl (by kernel_rfl);refine bodyPost_ret (v:=repV win tot (.slice (some ⟨gl,0,none⟩) ls.length lc2) over trk rest (.slice ja rj.length jc)) (by simp[results,results10,asAddr,L2]) rfl ?_;rw[←Hr0.out] at hF;exact hF
  ·have hi1:¬((i:Int)<(ls.length:Int)):=by omega
   clear hil
   go_upto_region 23 with fail
   have hE:=S0.e (r:=r0) hq2 Hq1.out;clear S0 a5 f5;have hA:=(hE).A;have hC:=(hE).C;dsimp only at hA hC
   go_wp2_with (first
    |(refine Ax_ rfl _ rfl _ rfl hA ?_)
    |(refine A5_ rfl _ _ rfl _ rfl rfl rfl rfl _ rfl hC ?_;intro wz Cz Gz))
   (try simp only[pt_])
   have hF:=(hE).fin Gz;obtain⟨td,hbd⟩:=Cz.blk;have L2:=run_loadVar_row (P:=Tryz.prog) wz rb td 26 _ _ _ hbd underlying26 rfl (by kernel_rfl);refine bodyPost_ret (v:=repV win tot (.slice la2 ls.length lc2) over trk rest (.slice ja rj.length jc)) (by simp[results,results10,asAddr,L2]) rfl ?_;rw[←Hr0.out] at hF;exact hF
 ·by_cases hil:i<ls.length
  ·obtain⟨gl,cap',hv',hgB,hgl,hcap,hcx,hfz⟩:=S0.ol.at_ Ar_ hil
   cases hv';have fz:=hfz (i*3+1);have c1':=hcx 1 _ rfl;clear hcx hfz
   have hi1 :(i:Int)<(ls.length:Int):=by omega
   have Hil:=hh_ hil;have hxw':=HW0.lines _ (mg_ hil);obtain⟨xx,hxx,c1,hxw⟩:∃x,ls[i]'hil=x∧w5.cell? ⟨gl,i*3+1,none⟩=some (.int .u64 x.lo)∧LnW x:=⟨_,rfl,c1',hxw'⟩;clear c1' hxw';have Hxx:=hh_ hxx;clear hxx
   by_cases hlo0:0<xx.lo
   ·have e0:decide (0<xx.lo)=true:=dt_ hlo0
    go_upto_region 15 with fail
    have S1:=S0.line rfl Hil.out (show 1<3 by omega) (.int .u64 (IntKind.u64.wrap (xx.lo-1))) ⟨xx.key,IntKind.u64.wrap (xx.lo-1),xx.hi⟩ (ff_ _ Hxx.out _) ⟨wrapW4 _,hxw.hi,hxw.key⟩;generalize w5.setCell ⟨gl,i*3+1,none⟩ (.int .u64 (IntKind.u64.wrap (xx.lo-1)))=w6 at *;generalize hls2:ls.set i ⟨xx.key,IntKind.u64.wrap (xx.lo-1),xx.hi⟩=ls2 at *
    have hl2:ls2.length=ls.length:=by rw[←hls2];simp
    have Hl2:=hh_ hl2;clear S0 a5 f5 fz c1 hl2 hls2;have a5:=S1.A.cell;have f5:=S1.A.free
    go_upto_region 23 with fail
    have S2:=S1.set ⟨win,tot,.slice (some ⟨gl,0,none⟩) ls.length lc2,IntKind.u64.wrap (over+1),trk,rest,.slice ja rj.length jc,ls2,rj⟩ 3 (.int .u64 (IntKind.u64.wrap (over+1))) rfl S1.ol S1.oj S1.jl S1.jc ⟨S1.W.win,S1.W.tot,wrapW4 _,S1.W.trk,S1.W.rest,S1.W.lines,S1.W.rej⟩;have hE:=S2.e (r:=r0) (by have:=Hl2.out;dsimp only;omega) Hq1.out;generalize w6.setCell ⟨br,3,none⟩ (.int .u64 (IntKind.u64.wrap (over+1)))=w7 at *;generalize IntKind.u64.wrap (over+1)=O2 at *;clear S1 S2 a5 f5;have hA:=(hE).A;have hC:=(hE).C;dsimp only at hA hC
    go_wp2_with (first
     |(refine Ax_ rfl _ rfl _ rfl hA ?_)
     |(refine A5_ rfl _ _ rfl _ rfl rfl rfl rfl _ rfl hC ?_;intro wz Cz Gz))
    (try simp only[pt_])
    have hF:=(hE).fin Gz;obtain⟨td,hbd⟩:=Cz.blk;have L2:=run_loadVar_row (P:=Tryz.prog) wz rb td 26 _ _ _ hbd underlying26 rfl (by kernel_rfl);refine bodyPost_ret (v:=repV win tot (.slice (some ⟨gl,0,none⟩) ls.length lc2) O2 trk rest (.slice ja rj.length jc)) (by simp[results,results10,asAddr,L2]) rfl ?_;rw[←Hr0.out] at hF;exact hF
   ·have e0:decide (0<xx.lo)=false:=df_ hlo0
    clear hlo0
    go_upto_region 23 with fail
    have hE:=S0.e (r:=r0) hq2 Hq1.out;clear S0 a5 f5 c1 fz;have hA:=(hE).A;have hC:=(hE).C;dsimp only at hA hC
    go_wp2_with (first
     |(refine Ax_ rfl _ rfl _ rfl hA ?_)
     |(refine A5_ rfl _ _ rfl _ rfl rfl rfl rfl _ rfl hC ?_;intro wz Cz Gz))
    (try simp only[pt_])
    have hF:=(hE).fin Gz;obtain⟨td,hbd⟩:=Cz.blk;have L2:=run_loadVar_row (P:=Tryz.prog) wz rb td 26 _ _ _ hbd underlying26 rfl (by kernel_rfl);refine bodyPost_ret (v:=repV win tot (.slice (some ⟨gl,0,none⟩) ls.length lc2) over trk rest (.slice ja rj.length jc)) (by simp[results,results10,asAddr,L2]) rfl ?_;rw[←Hr0.out] at hF;exact hF
  ·have hi1:¬((i:Int)<(ls.length:Int)):=by omega
   clear hil
   go_upto_region 23 with fail
   have hE:=S0.e (r:=r0) hq2 Hq1.out;clear S0 a5 f5;have hA:=(hE).A;have hC:=(hE).C;dsimp only at hA hC
   go_wp2_with (first
    |(refine Ax_ rfl _ rfl _ rfl hA ?_)
    |(refine A5_ rfl _ _ rfl _ rfl rfl rfl rfl _ rfl hC ?_;intro wz Cz Gz))
   (try simp only[pt_])
   have hF:=(hE).fin Gz;obtain⟨td,hbd⟩:=Cz.blk;have L2:=run_loadVar_row (P:=Tryz.prog) wz rb td 26 _ _ _ hbd underlying26 rfl (by kernel_rfl);refine bodyPost_ret (v:=repV win tot (.slice la2 ls.length lc2) over trk rest (.slice ja rj.length jc)) (by simp[results,results10,asAddr,L2]) rfl ?_;rw[←Hr0.out] at hF;exact hF
 ·by_cases hil:0<ls.length
  ·obtain⟨gl,cap',hv',hgB,hgl,hcap,hcx,hfz⟩:=S0.ol.at_ Ar_ (show ls.length-1<ls.length by omega)
   cases hv';have c1':=hcx 1 _ rfl;have hxw':=HW0.lines _ (mg_ (show ls.length-1<ls.length by omega));obtain⟨xx,c1,hxw⟩:∃x:Ln,w5.cell? ⟨gl,(ls.length-1)*3+1,none⟩=some (.int .u64 x.lo)∧LnW x:=⟨_,c1',hxw'⟩;clear c1' hxw';clear hcx hfz
   have hi1 :(0:Int)<(ls.length:Int):=by omega
   have hI0 :(0:Int)≤(ls.length:Int)-1:=by omega
   have hI1 :(ls.length:Int)-1<(ls.length:Int):=by omega
   have hI2 :((ls.length:Int)-1).toNat=ls.length-1:=by omega
   go_upto_region 17 with fail
   (refine Tail.wp_region_tail_drawn 13 (by kernel_rfl) (by kernel_rfl) ?_;simp only[List.take,List.drop];(repeat(go_big_quiet_step (fail)));refine wn_ ?_;rintro _ ⟨nq,rfl⟩)
   have S1:=(S0.drewN nq).set ⟨win,tot,.slice (some ⟨gl,0,none⟩) ls.length lc2,IntKind.u64.wrap (over+xx.lo),trk,rest,.slice ja rj.length jc,ls,rj⟩ 3 (.int .u64 (IntKind.u64.wrap (over+xx.lo))) rfl (S0.drewN nq).ol (S0.drewN nq).oj S0.jl S0.jc ⟨HW0.win,HW0.tot,wrapW4 _,HW0.trk,HW0.rest,HW0.lines,HW0.rej⟩
   go_upto_region 18 with fail
   generalize (w5.drewN nq).setCell ⟨br,3,none⟩ (.int .u64 (IntKind.u64.wrap (over+xx.lo)))=w6 at *;generalize IntKind.u64.wrap (over+xx.lo)=ov at *;clear S0 a5 f5 c1;have a6:=S1.A.cell;have f6:=S1.A.free;have hcap2:ls.length≤lc2:=hcap
   have hI3 :(ls.length:Int)-1≤(lc2:Int):=by omega
   go_upto_region 23 with fail
   have hlt2 :(ls.take (ls.length-1)).length=ls.length-1:=by simp
   have Rl:RdL lnF 3 w6 (.slice (some ⟨gl,0,none⟩) (ls.length-1) lc2) (ls.take (ls.length-1)):=S1.ol.rd.take Ar_ (by dsimp only;omega) lc2
   have Fl:From B (.slice (some ⟨gl,0,none⟩) (ls.length-1) lc2):=fun a n c e=>by cases e;exact hgB
   have gs:=Ac_ (Ab_ w6 (some br)) 2 (.slice (some ⟨gl,0,none⟩) (ls.length-1) lc2)
   have hE:SpE4 r0 w B br rb (w6.setCell ⟨br,2,none⟩ (.slice (some ⟨gl,0,none⟩) (ls.length-1) lc2)) ⟨win,tot,.slice (some ⟨gl,0,none⟩) (ls.length-1) lc2,ov,trk,rest,.slice ja rj.length jc,ls.take (ls.length-1),rj⟩:=
    ⟨S1.A.set_ 2 _ rfl,S1.C.kept gs (by simp;exact hne),⟨Rl.keptFrom Fl gs hbB,S1.oj.kept0 gs (fun h0 k e a n c hv=>by cases e;have:=S1.jl h0 a n c hv;omega),fun a n c e=>by cases e;omega,S1.jc⟩,Fl,S1.jl,
     ⟨S1.W.win,S1.W.tot,S1.W.over,S1.W.trk,S1.W.rest,fun z hz=>HW0.lines z (List.mem_of_mem_take hz),HW0.rej⟩,
     Aj_ (p:=⟨br,2,none⟩) S1.G hlb _,hlo,hrB,by dsimp only;rw[hlt2];omega,Hq1.out⟩
   generalize w6.setCell ⟨br,2,none⟩ (.slice (some ⟨gl,0,none⟩) (ls.length-1) lc2)=w7 at *;clear S1 a6 f6 Rl Fl gs hI2 hlt2;have hA:=(hE).A;have hC:=(hE).C;dsimp only at hA hC
   go_wp2_with (first
    |(refine Ax_ rfl _ rfl _ rfl hA ?_)
    |(refine A5_ rfl _ _ rfl _ rfl rfl rfl rfl _ rfl hC ?_;intro wz Cz Gz))
   (try simp only[pt_])
   have hF:=(hE).fin Gz;obtain⟨td,hbd⟩:=Cz.blk;have L2:=run_loadVar_row (P:=Tryz.prog) wz rb td 26 _ _ _ hbd underlying26 rfl (by kernel_rfl);refine bodyPost_ret (v:=repV win tot (.slice (some ⟨gl,0,none⟩) (ls.length-1) lc2) ov trk rest (.slice ja rj.length jc)) (by simp[results,results10,asAddr,L2]) rfl ?_;rw[←Hr0.out] at hF;exact hF
  ·have hi1:¬((0:Int)<(ls.length:Int)):=by omega
   clear hil
   go_upto_region 23 with fail
   have hE:=S0.e (r:=r0) hq2 Hq1.out;clear S0 a5 f5;have hA:=(hE).A;have hC:=(hE).C;dsimp only at hA hC
   go_wp2_with (first
    |(refine Ax_ rfl _ rfl _ rfl hA ?_)
    |(refine A5_ rfl _ _ rfl _ rfl rfl rfl rfl _ rfl hC ?_;intro wz Cz Gz))
   (try simp only[pt_])
   have hF:=(hE).fin Gz;obtain⟨td,hbd⟩:=Cz.blk;have L2:=run_loadVar_row (P:=Tryz.prog) wz rb td 26 _ _ _ hbd underlying26 rfl (by kernel_rfl);refine bodyPost_ret (v:=repV win tot (.slice la2 ls.length lc2) over trk rest (.slice ja rj.length jc)) (by simp[results,results10,asAddr,L2]) rfl ?_;rw[←Hr0.out] at hF;exact hF
 ·by_cases hil:i<ls.length
  ·obtain⟨gl,cap',hv',hgB,hgl,hcap,hcx,hfz⟩:=S0.ol.at_ Ar_ hil
   cases hv';have fz:=hfz (i*3+0)
   (try rw[Nat.add_zero] at fz)
   have c0:=hcx 0 _ rfl;have c1:=hcx 1 _ rfl;have c2:=hcx 2 _ rfl;rw[Nat.add_zero] at c0;clear hcx hfz
   have hi1 :(i:Int)<(ls.length:Int):=by omega
   have Hil:=hh_ hil
   go_upto_region 23 with fail
   have S1:=S0.line rfl Hil.out (show 0<3 by omega) (.string ⟨#[120]⟩) (⟨⟨#[120]⟩,ls[i].lo,ls[i].hi⟩) rfl ⟨(HW0.lines _ (mg_ Hil.out)).lo,(HW0.lines _ (mg_ Hil.out)).hi,(by show(1:Nat)≤_;omega)⟩
   (try rw[Nat.add_zero] at S1)
   have hE:=S1.e (r:=r0) (by simp only[List.length_set];exact hq2) Hq1.out;clear S1;generalize w5.setCell ⟨gl,i*3,none⟩ (.string ⟨#[120]⟩)=w6 at *;clear S0 a5 f5 fz c0 c1 c2;have hA:=(hE).A;have hC:=(hE).C;dsimp only at hA hC
   go_wp2_with (first
    |(refine Ax_ rfl _ rfl _ rfl hA ?_)
    |(refine A5_ rfl _ _ rfl _ rfl rfl rfl rfl _ rfl hC ?_;intro wz Cz Gz))
   (try simp only[pt_])
   have hF:=(hE).fin Gz;obtain⟨td,hbd⟩:=Cz.blk;have L2:=run_loadVar_row (P:=Tryz.prog) wz rb td 26 _ _ _ hbd underlying26 rfl (by kernel_rfl);refine bodyPost_ret (v:=repV win tot (.slice (some ⟨gl,0,none⟩) ls.length lc2) over trk rest (.slice ja rj.length jc)) (by simp[results,results10,asAddr,L2]) rfl ?_;rw[←Hr0.out] at hF;exact hF
  ·have hi1:¬((i:Int)<(ls.length:Int)):=by omega
   clear hil
   go_upto_region 23 with fail
   have hE:=S0.e (r:=r0) hq2 Hq1.out;clear S0 a5 f5;have hA:=(hE).A;have hC:=(hE).C;dsimp only at hA hC
   go_wp2_with (first
    |(refine Ax_ rfl _ rfl _ rfl hA ?_)
    |(refine A5_ rfl _ _ rfl _ rfl rfl rfl rfl _ rfl hC ?_;intro wz Cz Gz))
   (try simp only[pt_])
   have hF:=(hE).fin Gz;obtain⟨td,hbd⟩:=Cz.blk;have L2:=run_loadVar_row (P:=Tryz.prog) wz rb td 26 _ _ _ hbd underlying26 rfl (by kernel_rfl);refine bodyPost_ret (v:=repV win tot (.slice la2 ls.length lc2) over trk rest (.slice ja rj.length jc)) (by simp[results,results10,asAddr,L2]) rfl ?_;rw[←Hr0.out] at hF;exact hF
 ·obtain⟨q3,hq3⟩:∃q,IntKind.i64.wrap m3=q:=⟨_,rfl⟩
  go_upto_region 23 with fail
  have S1:=S0.set ⟨wrap64 (win+q3),tot,.slice la2 ls.length lc2,over,trk,rest,.slice ja rj.length jc,ls,rj⟩ 0 (.int .i64 (wrap64 (win+q3))) rfl S0.ol S0.oj S0.jl S0.jc ⟨Ou_ _,HW0.tot,HW0.over,HW0.trk,HW0.rest,HW0.lines,HW0.rej⟩;have hE:=S1.e (r:=r0) hq2 Hq1.out;generalize w5.setCell ⟨br,0,none⟩ (.int .i64 (wrap64 (win+q3)))=w6 at *;clear S0 S1 a5 f5;have hA:=(hE).A;have hC:=(hE).C;dsimp only at hA hC
  go_wp2_with (first
   |(refine Ax_ rfl _ rfl _ rfl hA ?_)
   |(refine A5_ rfl _ _ rfl _ rfl rfl rfl rfl _ rfl hC ?_;intro wz Cz Gz))
  (try simp only[pt_])
  have hF:=(hE).fin Gz;obtain⟨td,hbd⟩:=Cz.blk;have L2:=run_loadVar_row (P:=Tryz.prog) wz rb td 26 _ _ _ hbd underlying26 rfl (by kernel_rfl);refine bodyPost_ret (v:=repV (wrap64 (win+q3)) tot (.slice la2 ls.length lc2) over trk rest (.slice ja rj.length jc)) (by simp[results,results10,asAddr,L2]) rfl ?_;rw[←Hr0.out] at hF;exact hF
def kA:ByteArray:=⟨#[1,97,0]⟩
def kB:ByteArray:=⟨#[1,98,0]⟩
def tA:TagR:=⟨⟨#[97]⟩,⟨#[]⟩⟩
def tB:TagR:=⟨⟨#[98]⟩,⟨#[]⟩⟩
theorem Vk_:keyE [tA]=0:=by decide
theorem a5_:keyE [tB]=0:=by decide
theorem fp_:keyY [tA]=kA:=by unfold keyY;rw[if_pos Vk_];rfl
theorem fz_:keyY [tB]=kB:=by unfold keyY;rw[if_pos a5_];rfl
theorem dr_:splitE kA=0:=by
 refine(Hp_ (L:=[tA]) (by decide) ?_ Vk_ fp_).1
 show splitP [1,97,0]=_
 rw[Iw_ (t:=tA) (s:=[]) (by simp) rfl,Iz_];rfl
def awk34C:Cfg:=⟨10,0,1,0,0,0,1,4,0,0,0,0,1,0,.slice none 0 0,.slice none 0 0,0⟩
def B1_ (vl vr:Value):Rep:=⟨0,7,vl,2,2,2,vr,[⟨kA,5,5⟩],[0,0,0,0,0,0,0]⟩
theorem Uf_ (vl vr:Value):repErr (B1_ vl vr)=0:=by rfl
theorem Tj_ (vl vr:Value):audBad awk34C (B1_ vl vr)=false:=by rfl
theorem H9_ (vl vr:Value):auditE awk34C (B1_ vl vr)=0:=by
 unfold auditE;rw[Uf_,if_neg (by simp),Tj_,if_neg (by simp),if_neg]
 show ¬([⟨kA,5,5⟩]:List Ln).any (lineBad 1)=true
 simp[lineBad,dr_]
def itA:ItR:=⟨kA,3,5⟩
def itB:ItR:=⟨kB,4,2⟩
def itC:ItR:=⟨kA,5,1⟩
theorem W7_:cntL awk34C 0 [itA,itB]=[([1,97,0],5),([1,98,0],2)]:=by rfl
theorem Xd_:cntL awk34C 0 [itA,itB,itC]=[([1,97,0],6),([1,98,0],2)]:=by rfl
theorem ai_ {c:Cfg} {r:Rep} {l:List ItR} {L:List KW} (hL:cntL c r.win l=L) (h:auditE c r=0):agE c r l=if (agT L).2=false∨(agT L).1≠r.tot then 13
 else if r.lines.any (lineOff L)=true then 13
 else if (delAll L (keysN r.lines)).any (fun p=>decide (r.rest<p.2))=true then 13 else 0:=by
 subst hL;unfold agE;rw[if_neg (by omega)]
theorem Vj_ (vl vr:Value):agE awk34C (B1_ vl vr) [itA,itB]=0:=by
 rw[ai_ (r:=B1_ vl vr) W7_ (H9_ vl vr)]
 rfl
theorem Tp_ (vl vr:Value):agE awk34C (B1_ vl vr) [itA,itB,itC]=13:=by
 rw[ai_ (r:=B1_ vl vr) Xd_ (H9_ vl vr)]
 rfl
theorem Nu_ (vl vr:Value):RepW (B1_ vl vr):=by
 refine⟨by unfold I64 B1_;simp,by unfold W64 B1_;simp,by unfold W64 B1_;simp,by unfold I64 B1_;simp,by unfold W64 B1_;simp,fun x hx=>?_,fun n hn=>?_⟩
 ·simp only[B1_,List.mem_singleton] at hx
  subst hx;exact⟨by unfold W64;simp,by unfold W64;simp,by show(3:Nat)≤_;omega⟩
 ·simp only[B1_,List.mem_cons,List.not_mem_nil,or_false,or_self] at hn
  subst hn;unfold W64;simp
theorem Sz_:∀x∈[itA,itB,itC],ItW x:=by
 intro x hx;simp only[List.mem_cons,List.not_mem_nil,or_false] at hx
 rcases hx with rfl|rfl|rfl
 ·exact⟨by show(-9223372036854775808:Int)≤3∧(3:Int)≤_;omega,by show W64 5;unfold W64;omega,by show(3:Nat)≤_;omega⟩
 ·exact⟨by show(-9223372036854775808:Int)≤4∧(4:Int)≤_;omega,by show W64 2;unfold W64;omega,by show(3:Nat)≤_;omega⟩
 ·exact⟨by show(-9223372036854775808:Int)≤5∧(5:Int)≤_;omega,by show W64 1;unfold W64;omega,by show(3:Nat)≤_;omega⟩
theorem Z0_ {t:TagR} (h:t.name.size=1∧t.value.size=0):TagW t:=⟨by omega,by omega⟩
theorem Blk.many {α:Type} {f:α→List Value} {size:Nat} {w:World} {g:Nat} {cs:Array Value} (h:Blk w g cs) (hf:∀x,(f x).length=size) (l:List α) (hcs:cs.toList=cellsOf f l) (hl:l.length≤9223372036854775807):RdL f size w (.slice (some ⟨g,0,none⟩) l.length l.length) l:=by
 refine⟨At_ f size hf l,hl,.inr ⟨g,0,l.length,rfl,h.lt,fun j u hu=>?_⟩⟩;rw[Nat.zero_add,h.cell j];rw[←hcs] at hu
 simpa using hu
end
section
open Go.RowKit Go.Sort
attribute [local go_sem ↓] Ag_
attribute [local go_sem] Ah_
theorem F4_ {ops:Array Oper} {rest:List Oper} {o:Oper} {a:Act} {w:World} {Q:Exit→Act→World→Prop} (hw:Region.wanted o (yielded ops a.tmps)=true) (x:Operand) (ho:o.op=.load 26 x)
  (b:Nat) (hx:a.eval x=.pointer (some ⟨b,0,none⟩)) {win tot over trk rst:Int} {vl vr:Value} (hb:Blk w b (repA win tot vl over trk rst vr)) (h:wpList Tryz.prog ops Q rest (a.put o.dst (repV win tot vl over trk rst vr)) w):wpList Tryz.prog ops Q (o::rest) a w:=by
 obtain⟨t,hbl⟩:=hb.blk
 exact BigFrame.wpList_want hw fun K hK=>wp_load_row _ x ho b hx t _ _ _ hbl underlying26 rfl E1_ (hK _ _ h)
section
variable {α:Type} {f:α→List Value} {st e:TypeId} {z:Value} {size bytes:Nat} {w:World} {g n:Nat} {l l2:List α} {A:Option Addr} {m c:Nat}
variable {o:Oper} {a:Act} {ops:Array Oper} {rest:List Oper} {Q:Exit→Act→World→Prop}
theorem Ng_ (E:Elt st e z size bytes) (hr0:RdL f size w (.slice (some ⟨g,0,none⟩) n n) l) (hn:n=l.length) (hr:RdL f size w (.slice A m c) l2) (hm:m=l2.length) (h0:0<l.length) (h02:0<l2.length) (hb :(l.length+l2.length)*bytes≤140737488355328) (h63:l.length+l2.length≤9223372036854775807)
  (hw:Region.wanted o (yielded ops a.tmps)=true) (s x:Operand) (ho:o.op=.call { callee:=.builtin .append,args:=#[s,x],argTypes:=#[st,st] }) (hs:a.eval s=.slice (some ⟨g,0,none⟩) n n) (hx:a.eval x=.slice A m c)
  (h:∀v' w',Own f size e w.heap.size w' v' (l++l2)→w.grownBy w' none→wpList Tryz.prog ops Q rest (a.put o.dst v') w'):wpList Tryz.prog ops Q (o::rest) a w:=by
 subst hm hn;obtain⟨i,hi,hz0,hz1,hz2⟩:=info_parts E.info
 rcases hr0.2.2 with⟨h3,_⟩ |⟨g1,off1,cap1,hv1,_,hc1⟩
 ·omega
 rcases hr.2.2 with⟨h3,_⟩ |⟨g2,off2,cap2,hv2,_,hc2⟩
 ·omega
 cases hv1;cases hv2
 have hadd:∀b off j,(⟨b,off,none⟩:Addr).add j =⟨b,off+j,none⟩:=fun b off j=>by unfold Addr.add;split <;> simp_all
 obtain⟨v',w',hrun,h2,h3⟩:=run_append_arg_grows (P:=Tryz.prog) w st o.type e i z size bytes E.ht hi hz0 hz1 hz2 E.cells E.pos ⟨g,0,none⟩ l.length l.length (cellsOf f l) hr0.1 (fun j u hu=>by rw[hadd];exact hc1 j u hu) ⟨g2,off2,none⟩ l2.length c (cellsOf f l2) hr.1 (fun j u hu=>by rw[hadd];exact hc2 j u hu) (by omega) (by unfold maxLen;exact h63) hb
 refine BigFrame.wpList_want hw fun K hK=>?_
 unfold Oper.wp execOp;simp only[ho,resolve,invoke,builtin,Sem.run_bind,Sem.run_pure,Result.andThen_ok,List.map_toArray,List.map_cons,List.map_nil,hs,hx,hrun];exact hK _ _ (h v' w' (by unfold Own;rw[Aq_,la_];exact h2) h3)
end
theorem Es_ (w:World):Calls Tryz.prog 6 #[] w (B6_ true w):=by
 have hmk:∀w,(Instr.makeSlice 24 (.int .i64 7) (.int .i64 7)).run Tryz.prog w=.ok (.slice (some ⟨w.heap.size,0,none⟩) 7 7) (w.alloc (.cells #[.int .u64 0,.int .u64 0,.int .u64 0,.int .u64 0,.int .u64 0,.int .u64 0,.int .u64 0] 22)):=fun _=>by kernel_rfl
 have K1:=hh_ (Hg_ _ [tA] _ ((Blk.new w #[.string ⟨#[97]⟩,.string ⟨#[]⟩] 53).one Av_ tA rfl) (fun t ht=>by rw[ms_ ht];exact Z0_ ⟨rfl,rfl⟩));unfold KeyP at K1;rw[fp_,Vk_] at K1
 go_enter func6,ntmps6
 go_upto_region 2 with(go_at_call 16;refine K1.out.mono ?_;rintro e w2 ⟨rfl,g2⟩)
 have G2:=Aa_ (ga_ w (.cells #[.string ⟨#[97]⟩,.string ⟨#[]⟩] 53) none) g2;have K2:=hh_ (Hg_ _ [tB] _ ((Blk.new w2 #[.string ⟨#[98]⟩,.string ⟨#[]⟩] 53).one Av_ tB rfl) (fun t ht=>by rw[ms_ ht];exact Z0_ ⟨rfl,rfl⟩));unfold KeyP at K2;rw[fz_,a5_] at K2;clear K1 g2
 go_upto_region 3 with(go_at_call 16;refine K2.out.mono ?_;rintro e w3 ⟨rfl,g3⟩)
 have G3:=Aa_ (Ad_ G2 (.cells #[.string ⟨#[98]⟩,.string ⟨#[]⟩] 53)) g3;clear K2 g3 G2
 go_upto_region 4 with(first |(refine C0_ rfl rfl ?_;intro w4 B4 G4 z4) |(refine C3_ rfl _ _ rfl _ rfl awk34C rfl rfl rfl Cfg.zero (by assumption) ?_;intro w5 B5 G5))
 have G6:=Aa_ G3 (Af_ G4 G5 (le_ _));generalize w3.heap.size=cb at *;clear B4 G4 G5 G3;have A1:=(Blk.new w5 #[.string kA,.int .u64 5,.int .u64 5] 46).same (ga_ _ (.cells #[.int .u64 0,.int .u64 0,.int .u64 0,.int .u64 0,.int .u64 0,.int .u64 0,.int .u64 0] 22) none);have A2:=Blk.new' (w5.alloc (.cells #[.string kA,.int .u64 5,.int .u64 5] 46)) #[.int .u64 0,.int .u64 0,.int .u64 0,.int .u64 0,.int .u64 0,.int .u64 0,.int .u64 0] 22 (g:=w5.heap.size+1) (by simp);have R1:=A1.one Ar_ ⟨kA,5,5⟩ rfl;have R2:=A2.many (f:=wordF) (size:=1) (fun _=>rfl) [0,0,0,0,0,0,0] rfl (by simp);have hR:RepRd ((w5.alloc (.cells #[.string kA,.int .u64 5,.int .u64 5] 46)).alloc (.cells #[.int .u64 0,.int .u64 0,.int .u64 0,.int .u64 0,.int .u64 0,.int .u64 0,.int .u64 0] 22)) (B1_ (.slice (some ⟨w5.heap.size,0,none⟩) 1 1) (.slice (some ⟨w5.heap.size+1,0,none⟩) 7 7)):=⟨R1,R2,fun a n c e=>by cases e;omega,fun a n c e=>by cases e;omega⟩;have B6:=(B5.same (ga_ _ (.cells #[.string kA,.int .u64 5,.int .u64 5] 46) none)).same (ga_ _ (.cells #[.int .u64 0,.int .u64 0,.int .u64 0,.int .u64 0,.int .u64 0,.int .u64 0,.int .u64 0] 22) none);have G7:=Ad_ (Ad_ G6 (.cells #[.string kA,.int .u64 5,.int .u64 5] 46)) (.cells #[.int .u64 0,.int .u64 0,.int .u64 0,.int .u64 0,.int .u64 0,.int .u64 0,.int .u64 0] 22);have HR:=hh_ hR;have HB:=hh_ B6;have HG:=hh_ G7;clear A1 A2 R1 R2 hR B5 B6 G6 G7
 go_upto_region 5 with(first
  |(refine H3_ rfl rfl ?_;intro w7 A7 g7 z7)
  |(refine A5_ rfl _ _ rfl _ rfl (win:=0) (tot:=7) (over:=2) (trk:=2) (rst:=2) (vl:=.slice (some ⟨w5.heap.size,0,none⟩) 1 1) (vr:=.slice (some ⟨w5.heap.size+1,0,none⟩) 7 7) rfl rfl rfl rep0 rfl A7 ?_;intro w8 A8 g8))
 have g9:=Af_ g7 g8 (le_ _);have R8:=HR.out.same g9;have B8:=HB.out.same g9;have G8:=Aa_ HG.out g9;generalize ((w5.alloc (.cells #[.string kA,.int .u64 5,.int .u64 5] 46)).alloc (.cells #[.int .u64 0,.int .u64 0,.int .u64 0,.int .u64 0,.int .u64 0,.int .u64 0,.int .u64 0] 22)).heap.size=rb at *;clear HR HB HG g7 g8 g9 A7
 go_upto_region 6 with fail
 have I9:=(Blk.new w8 #[.string kA,.int .i64 3,.int .u64 5,.string kB,.int .i64 4,.int .u64 2] 41).many Dv_ [itA,itB] rfl (by decide);have g9:=ga_ w8 (.cells #[.string kA,.int .i64 3,.int .u64 5,.string kB,.int .i64 4,.int .u64 2] 41) none;have A9:=A8.same g9;have R9:=R8.same g9;have B9:=B8.same g9;have G9:=Aa_ G8 g9;generalize w8.alloc _=w9 at *;generalize w8.heap.size=ib at *;clear A8 R8 B8 G8 g9
 have HC:=hh_ fun y (h:w9.grownBy y none)=>O0_ awk34C _ y (R9.same h) (Nu_ _ _)
 have HG1:=hh_ fun y (h:w9.grownBy y none)=>Cv_ awk34C _ _ _ y (R9.same h) (Nu_ _ _) (RdL.same I9 h) (fun x hx=>Sz_ x (by simp only[List.mem_cons,List.not_mem_nil,or_false] at hx ⊢;rcases hx with h|h <;> simp[h])) (by decide)
 have HG2:=hh_ fun v y (h:w9.grownBy y none) hv=>Cv_ awk34C _ v [itA,itB,itC] y (R9.same h) (Nu_ _ _) hv Sz_ (by decide)
 simp only[H9_,Vj_,Tp_] at HC HG1 HG2;dsimp only[B1_] at HC HG1 HG2;have HI:=hh_ I9;have HA:=hh_ A9;have G10:=hh_ G9;have K6:World.grownBy w9 w9.drew none:=gw_;have B6:=B9.same K6;clear R9 I9 A9 G9 B9
 (refine rn_ 23 (fun k _ w v w'=>match k with | 2=>v=.int .i64 0∧World.grownBy w w' none | 8=>v=.int .i64 0∧World.grownBy w w' none | 19=>v=.int .i64 13∧World.grownBy w w' none | _=>False) ?_;simp only[ts_])
 generalize w9.drew=w10 at *
 (refine to_ ?_;intro y0 my0 dy0)
 clear dy0;have BX:=B6.same my0
 go_wp2_with (refine Al_ rfl _ rfl _ rfl awk34C (by assumption) ?_)
 refine⟨Ab_ _ _,?_⟩;clear BX
 (refine to_ ?_;intro y1 my1 dy1)
 clear dy1;have AX:=HA.out.same (Aa_ K6 my1)
 go_wp2_with (refine Ax_ rfl _ rfl _ rfl AX ?_)
 refine⟨Ab_ _ _,?_⟩;clear AX
 ((refine tc_ ?_;intro y2 my2 dy2;refine⟨?_,?_⟩;· (unfold Rg.callSpec;go_simp;(refine(HC.out y2 (Aa_ K6 my2)).mono ?_;rintro e w' ⟨rfl,g⟩;exact⟨_,rfl,rfl,g⟩)));clear dy2;rintro v y ⟨rfl,g⟩;refine⟨g,?_⟩;clear g;simp only[pt_])
 (refine tq_ 2 ?_;(repeat(go_big_quiet_step (fail)));refine wn_ ?_)
 (refine to_ ?_;intro y5 my5 dy5)
 clear dy5;have BX:=B6.same my5
 go_wp2_with (refine A0_ rfl _ rfl _ rfl awk34C (by assumption) ?_)
 refine⟨Ab_ _ _,?_⟩;clear BX
 (refine to_ ?_;intro y6 my6 dy6)
 clear dy6;have AX:=HA.out.same (Aa_ K6 my6)
 go_wp2_with (refine F4_ (by rfl) _ rfl _ rfl AX ?_)
 refine⟨Ab_ _ _,?_⟩;clear AX
 (refine tq_ 1 ?_;(repeat(go_big_quiet_step (fail)));refine wn_ ?_)
 ((refine Rg.tree_callG rfl rfl rfl ?_;intro y8 my8 dy8;refine⟨?_,?_⟩;· (unfold Rg.callSpec;go_simp;(refine(HG1.out y8 (Aa_ K6 my8)).mono ?_;rintro e w' ⟨rfl,g⟩;exact⟨_,rfl,rfl,g⟩)));clear dy8;rintro v y ⟨rfl,g⟩;refine⟨g,?_⟩;clear g;simp only[pt_])
 (refine tq_ 3 ?_;(repeat(go_big_quiet_step (fail)));refine wn_ ?_)
 (refine to_ ?_;intro y12 my12 dy12)
 clear dy12;have BX:=B6.same my12
 go_wp2_with (refine A0_ rfl _ rfl _ rfl awk34C (by assumption) ?_)
 refine⟨Ab_ _ _,?_⟩;clear BX
 (refine to_ ?_;intro y13 my13 dy13)
 clear dy13;have AX:=HA.out.same (Aa_ K6 my13)
 go_wp2_with (refine F4_ (by rfl) _ rfl _ rfl AX ?_)
 refine⟨Ab_ _ _,?_⟩;clear AX
 (refine tq_ 3 ?_;(repeat(go_big_quiet_step (fail)));refine wn_ ?_)
 (refine to_ ?_;intro y17 my17 dy17)
 clear dy17
 go_wp2_with fail
 refine⟨ga_ _ _ _,?_⟩;have N17:=Blk.new y17 #[.string kA,.int .i64 5,.int .u64 1] 41;generalize y17.alloc _=e17 at *;generalize y17.heap.size=g17 at *
 (refine to_ ?_;intro y18 my18 dy18)
 have R18:=(N17.same (dy18.out 17 (by omega) (by kernel_rfl))).one Dv_ itC rfl;have I18:=RdL.same HI.out (Aa_ K6 my18);clear dy18 N17
 go_wp2_with (at_builtin;refine Ng_ Pg_ I18 rfl R18 rfl (by decide) (by decide) (by decide) (by decide) (by rfl) _ _ (by rfl) (by rfl) (by rfl) ?_;intro v18 e18 o18 g18;have Hg18:=hh_ g18;clear g18)
 refine⟨Hg18.out,?_⟩;obtain⟨a18,c18,rfl⟩:=o18.shape;clear I18 R18 Hg18
 (refine Rg.tree_callG rfl rfl rfl ?_;intro y19 my19 dy19;refine⟨?_,?_⟩;· (unfold Rg.callSpec;go_simp;(refine(HG2.out _ y19 (Aa_ K6 my19) (show RdL itF 3 y19 _ [itA,itB,itC] from RdL.same o18.rd (dy19.out 18 (by omega) (by kernel_rfl)))).mono ?_;rintro e w' ⟨rfl,g⟩;exact⟨_,rfl,rfl,g⟩)))
 clear dy19;rintro v y ⟨rfl,g⟩;refine⟨g,?_⟩;clear g;simp only[pt_]
 (refine tq_ 3 ?_;(repeat(go_big_quiet_step (fail)));refine wn_ ?_)
 (refine Rg.tree_nil ?_;intro z mz dz cz)
 clear dz cz
 go_wp2_with fail
 go_ret
 exact A7_ rfl (Aa_ G10.out (Aa_ K6 mz))
end
section
open Go.RowKit
theorem Id_ {P:Program} (w:World) (g off:Nat) (ty:TypeId) (cs:Array Value) (d:TypeDesc) (hc:∀j v,cs[j]?=some v→w.cell? ⟨g,off+j,none⟩=some v)
  (hu:P.underlying ty=some d) (hd :(match d with | .struct _ | .array _ _=>true | _=>false)=true) (hi :(P.info? ty).map (·.size)=some cs.size) :
  (loadVar ty ⟨g,off,none⟩).run P w=.ok (.agg cs) w:=by
 have hl :(loadCells ⟨g,off,none⟩ cs.toList.length).run P w=.ok cs.toList.toArray w:=
  run_loadCells_list (P:=P) w ⟨g,off,none⟩ cs.toList (fun j v hv=>by
   have hadd :(⟨g,off,none⟩:Addr).add j =⟨g,off+j,none⟩:=by unfold Addr.add;split <;> simp_all
   rw[hadd]
   exact hc j v (by simpa using hv))
 cases hq:P.info? ty with
 | none=>simp[hq] at hi
 | some i=>
  have hs:i.size=cs.size:=by simpa [hq] using hi
  have hagg :(isAgg ty).run P w=.ok true w:=by
   unfold isAgg;rw[Sem.run_bind,run_underlying hu w];cases d <;> simp_all
  simp only[Array.length_toList,Array.toArray_toList] at hl
  simp[loadVar,Sem.run_bind,hagg,sizeOf,typeInfo,hq,hs,hl]
theorem N8_ {ops:Array Oper} {rest:List Oper} {o:Oper} {a:Act} {w:World} {Q:Exit→Act→World→Prop} (hgd:o.guard=none) (x:Operand) (ho:o.op=.load 26 x)
  (b off:Nat) (hx:a.eval x=.pointer (some ⟨b,off,none⟩)) {r:Rep} (hc:∀j v,(repF r)[j]?=some v→w.cell? ⟨b,off+j,none⟩=some v) (h:wpList Tryz.prog ops Q rest (a.put o.dst (repV r.win r.tot r.vl r.over r.trk r.rest r.vr)) w):wpList Tryz.prog ops Q (o::rest) a w:=
 wpList_plain hgd fun _ hK=>by
  unfold Oper.wp execOp;simp only[ho,hx,Instr.loadAt,Instr.sureAddr,Sem.run_bind,Sem.run_pure,Result.andThen_ok,Id_ w b off _ (repA r.win r.tot r.vl r.over r.trk r.rest r.vr) _ (fun j v hv=>hc j v (by simpa [repF,repA] using hv)) underlying26 rfl E1_];exact hK _ _ h
end
section
open Go.RowKit Go.Sort
attribute [local go_sem ↓] Ag_
attribute [local go_sem] Ah_
structure f0_ (c:Cfg) (rs:List Rep):Prop where
 w:∀r∈rs,RepW r∧r.lines.length≤64
theorem gg_ {c:Cfg} {t:List Int} {rs:List Rep} (hn:CfgNums c) (h:F2_ c t rs):f0_ c rs:=⟨fun r hr=>by
 obtain⟨K,win,h1,_,_,h2⟩:=h r hr
 exact de_ hn h2 (h1.len hn.shards.1)⟩
end
section
open Go.RowKit Go.Sort
attribute [local go_sem ↓] Ag_
attribute [local go_sem] Ah_
theorem Cm_ {ops:Array Oper} {rest:List Oper} {o:Oper} {a:Act} {w:World} {Q:Exit→Act→World→Prop} (hw:Region.wanted o (yielded ops a.tmps)=true) (x:Operand) (ho:o.op=.load 26 x)
  (b:Nat) (hx:a.eval x=.pointer (some ⟨b,0,none⟩)) {win tot over trk rst:Int} {vl vr:Value} (hb:Blk w b (repA win tot vl over trk rst vr)) (h:wpList Tryz.prog ops Q rest (a.put o.dst (repV win tot vl over trk rst vr)) w):wpList Tryz.prog ops Q (o::rest) a w:=by
 obtain⟨t,hbl⟩:=hb.blk
 exact BigFrame.wpList_want hw fun K hK=>wp_load_row _ x ho b hx t _ _ _ hbl underlying26 rfl E1_ (hK _ _ h)
theorem Rg_ (x0:Rep) (a1:Option Addr) (cap1:Nat) (z1:List ItR) (dv ov:Value) (xs ys:List Int) (n m:Nat) (at_ nn:Int) (more:ItR) (w:World) (hR:RepRd w x0) (hW:RepW x0) (h1:RdL itF 3 w (.slice a1 z1.length cap1) z1) (hI1:∀x∈z1,ItW x)
  (hd:Rd w 1 dv n (xs.map (fun x=>Value.int .i64 x))) (ho:Rd w 1 ov m (ys.map (fun x=>Value.int .i64 x))) (hM:ItW more) :
  Calls Tryz.prog 4 #[repV x0.win x0.tot x0.vl x0.over x0.trk x0.rest x0.vr,.slice a1 z1.length cap1,dv,ov,.int .i64 at_,.int .u64 nn,.agg #[.string more.key,.int .i64 more.time,.int .u64 more.weight]] w (B6_ true w):=by
 obtain⟨da,dc,rfl⟩:=hd.shape;obtain⟨oa,oc,rfl⟩:=ho.shape;obtain⟨win0,tot0,vl0,over0,trk0,rest0,vr0,ls0,rj0⟩:=x0;obtain⟨la0,lc0,e1⟩:=hR.lines.shape;obtain⟨ja0,jc0,e2⟩:=hR.rej.shape;obtain⟨mk,mt,mw⟩:=more;dsimp only at *;subst e1 e2;have HR0:=hh_ hR;have HW0:=hh_ hW;have HI1:=hh_ hI1;have H1:=hh_ h1;have HD:=hh_ hd;have HO:=hh_ ho;have HM:=hh_ hM;clear hR hW hI1 h1 hd ho hM;have B1:=Blk.new w (repA win0 tot0 (.slice la0 ls0.length lc0) over0 trk0 rest0 (.slice ja0 rj0.length jc0)) 26;have G1:=Ad_ (Ab_ w none) (.cells (repA win0 tot0 (.slice la0 ls0.length lc0) over0 trk0 rest0 (.slice ja0 rj0.length jc0)) 26);have A2:=Blk.new (w.alloc (.cells (repA win0 tot0 (.slice la0 ls0.length lc0) over0 trk0 rest0 (.slice ja0 rj0.length jc0)) 26)) #[.string mk,.int .i64 mt,.int .u64 mw] 41;have B2:=B1.same (ga_ _ (.cells #[.string mk,.int .i64 mt,.int .u64 mw] 41) none);have G2:=Ad_ G1 (.cells #[.string mk,.int .i64 mt,.int .u64 mw] 41);rw[show(w.alloc (.cells (repA win0 tot0 (.slice la0 ls0.length lc0) over0 trk0 rest0 (.slice ja0 rj0.length jc0)) 26)).heap.size=w.heap.size+1 from by simp] at A2
 go_enter func4,ntmps4
 go_upto_region 1 with fail
 generalize (w.alloc (.cells (repA win0 tot0 (.slice la0 ls0.length lc0) over0 trk0 rest0 (.slice ja0 rj0.length jc0)) 26)).alloc (.cells #[.string mk,.int .i64 mt,.int .u64 mw] 41)=w2 at *;have HB2:=hh_ B2;have HA2:=hh_ A2;have HG2:=hh_ G2;have b2:=B2.cell;clear B1 G1 B2 A2 G2
 have haw:∀w',w2.grownBy w' none→w.grownBy w' none:=fun w' h=>Aa_ HG2.out h
 by_cases h90:90<ls0.length
 ·have i1 :(90:Int)<(ls0.length:Int):=by omega
  go_wp2_with (go_at_call 6;refine(Es_ _).mono ?_;rintro e w6 ⟨rfl,G6⟩)
  go_ret
  exact A7_ rfl (Aa_ HG2.out G6)
 have i1:¬(90:Int)<(ls0.length:Int):=by omega
 by_cases h20:20<rj0.length
 ·have i2 :(20:Int)<(rj0.length:Int):=by omega
  go_wp2_with (go_at_call 6;refine(Es_ _).mono ?_;rintro e w6 ⟨rfl,G6⟩)
  go_ret
  exact A7_ rfl (Aa_ HG2.out G6)
 have i2:¬(20:Int)<(rj0.length:Int):=by omega
 by_cases h60:60<z1.length
 ·have i3 :(60:Int)<(z1.length:Int):=by omega
  go_wp2_with (go_at_call 6;refine(Es_ _).mono ?_;rintro e w6 ⟨rfl,G6⟩)
  go_ret
  exact A7_ rfl (Aa_ HG2.out G6)
 have i3:¬(60:Int)<(z1.length:Int):=by omega
 have hz1:z1.length≤1000000000:=by omega
 have CR:=hh_ (Vy_ (.slice da n dc) (.slice oa m oc) xs ys n m w2 (Rd.same HD.out HG2.out) (Rd.same HO.out HG2.out))
 go_upto_region 4 with(first
  |(go_at_call 7;refine CR.out.mono ?_;rintro e w3 ⟨c,lc,t,K,vl,vi,rs,rfl,N1,Z1,M1,F1,L1,hrl,R1,RK,CK,I1,O1,G1,T1⟩;have oc1:=M1.one1;have oc2:=M1.one2;obtain⟨la,lcp,rfl⟩:=L1.own.shape;obtain⟨ia,ic,rfl⟩:=I1.shape)
  |(refine C0_ rfl rfl ?_;intro w4 B3 G3 z3)
  |(refine C3_ rfl _ _ rfl _ rfl c rfl oc1 oc2 Cfg.zero B3 ?_;intro w5 B5 G5))
 have KW:=Af_ G3 G5 (le_ _);have hl5:=(L1.same repK KW).rdAll;have HL:=hh_ hl5.1;have HR:=hh_ hl5.2;have HI:=hh_ (I1.same KW).rd;have HIw:=hh_ CK.its;have HIl:=hh_ (show K.items.length≤5000000 from CK.items);have HW:=hh_ (gg_ N1 R1).w;have HB:=hh_ B5;have K25:=Aa_ G1 KW;have HG:=hh_ (Aa_ HG2.out K25);have HB5:=hh_ (HB2.out.same K25);have HA5:=hh_ (HA2.out.same K25);have HR05:=hh_ (HR0.out.same HG.out);have H15:=hh_ (RdL.same H1.out HG.out)
 have hrl2:rs.length≤9223372036854775807:=by omega
 have C0:=hh_ fun w' (g:w5.grownBy w' none)=>Cv_ c ⟨win0,tot0,.slice la0 ls0.length lc0,over0,trk0,rest0,.slice ja0 rj0.length jc0,ls0,rj0⟩ _ z1 w' (HR05.out.same g) HW0.out (RdL.same H15.out g) HI1.out hz1
 have C1:=hh_ fun w' (g:w5.grownBy w' none)=>D3_ c ⟨win0,tot0,.slice la0 ls0.length lc0,over0,trk0,rest0,.slice ja0 rj0.length jc0,ls0,rj0⟩ _ z1 w' (HR05.out.same g) HW0.out (RdL.same H15.out g) HI1.out hz1
 generalize K.items=items at *;generalize w3.heap.size=cb at *;generalize w.heap.size=rb0 at *;clear N1 Z1 M1 F1 L1 R1 RK CK I1 O1 T1 G1 G3 G5 B3 B5 z3 hl5 KW CR oc1 oc2 b2 i1 i2 i3 haw HB2 HA2 HD HO HR0 H1 HG2 K25 h90 h20 h60;generalize agE c ⟨win0,tot0,.slice la0 ls0.length lc0,over0,trk0,rest0,.slice ja0 rj0.length jc0,ls0,rj0⟩ z1=E0 at *;have K6:World.grownBy w5 w5.drew none:=gw_
 (refine rn_ 9 (fun k _ w v w'=>match k with | 3=>v=.int .i64 E0∧World.grownBy w w' none | 7=>v=.int .i64 E0∧World.grownBy w w' none | _=>False) ?_;simp only[ts_])
 generalize w5.drew=wd at *
 ((refine to_ ?_;intro x0 mx0 dx0);clear dx0;have BX:=HB.out.same (Aa_ K6 mx0);go_wp2_with (refine Al_ rfl _ rfl _ rfl c BX ?_);refine⟨Ab_ _ _,?_⟩;clear BX)
 ((refine to_ ?_;intro x1 mx1 dx1);clear dx1;go_wp2_with (refine Ax_ rfl _ rfl _ rfl (HB5.out.same (Aa_ K6 mx1)) ?_);refine⟨Ab_ _ _,?_⟩)
 (refine tq_ 1 ?_;(repeat(go_big_quiet_step (fail)));refine wn_ ?_)
 ((refine tc_ ?_;intro x3 mx3 dx3;refine⟨?_,?_⟩;· (unfold Rg.callSpec;go_simp;(refine(C0.out x3 (Aa_ K6 mx3)).mono ?_;rintro e w' ⟨rfl,g⟩;exact⟨_,rfl,rfl,g⟩)));clear dx3;rintro v y ⟨rfl,g⟩;refine⟨g,?_⟩;clear g;simp only[pt_])
 ((refine to_ ?_;intro x4 mx4 dx4);clear dx4;have BX:=HB.out.same (Aa_ K6 mx4);go_wp2_with (refine Al_ rfl _ rfl _ rfl c BX ?_);refine⟨Ab_ _ _,?_⟩;clear BX)
 ((refine to_ ?_;intro x5 mx5 dx5);clear dx5;go_wp2_with (refine Ax_ rfl _ rfl _ rfl (HB5.out.same (Aa_ K6 mx5)) ?_);refine⟨Ab_ _ _,?_⟩)
 (refine tq_ 1 ?_;(repeat(go_big_quiet_step (fail)));refine wn_ ?_)
 ((refine tc_ ?_;intro x7 mx7 dx7;refine⟨?_,?_⟩;· (unfold Rg.callSpec;go_simp;(refine(C1.out x7 (Aa_ K6 mx7)).mono ?_;rintro e w' ⟨rfl,g⟩;exact⟨_,rfl,rfl,g⟩)));clear dx7;rintro v y ⟨rfl,g⟩;refine⟨g,?_⟩;clear g;simp only[pt_])
 (refine tq_ 1 ?_;(repeat(go_big_quiet_step (fail)));refine wn_ ?_)
 (refine Rg.tree_nil ?_;intro x9 mx9 dx9 cx9)
 have K9:=Aa_ K6 mx9;clear dx9 cx9;have HL9:=hh_ (RdL.same HL.out K9)
 go_upto_region 7 with fail
 have HG9:=hh_ (Aa_ HG.out K9);clear K6 mx9
 go_loopw [56] (fun s56 wk=>∃k:Nat,k≤rs.length∧s56=.int .i64 k∧x9.grownBy wk none) (fun s56 _=>rs.length-(RowKit.intOf s56).toNat)
 case atStart=>exact⟨0,zl_ _,rfl,Ab_ _ _⟩
 case round=>
  obtain⟨k,hk,rfl,hg0⟩:=hrel;have hg:=Aa_ K9 hg0
  by_cases hkl:k<rs.length
  ·obtain⟨gx,ox,cx,hv,hgx,hcx⟩:=(HL.out.same hg).at_ Hb_ hkl
   cases hv
   have hklt :(k:Int)<(rs.length:Int):=by omega
   have hrr:=(HR.out _ (mg_ hkl)).same hg;obtain⟨hrw,hr64⟩:=HW.out _ (mg_ hkl);have Hcx:=hh_ hcx;clear hcx;generalize rs[k]=r at *;obtain⟨win,tot,vl,over,trk,rest,vr,ls,rj⟩:=r;obtain⟨ra,rc,e1⟩:=hrr.lines.shape;obtain⟨ja,jc,e2⟩:=hrr.rej.shape;dsimp only at *;subst e1 e2;have Hrr:=hh_ hrr;have Hrw:=hh_ hrw;clear hrr hrw
   go_upto_region 9 with(first
    |(refine N8_ rfl _ rfl _ _ rfl Hcx.out ?_)
    |(refine H3_ rfl rfl ?_;intro w6 A6 G6 z6)
    |(refine A5_ rfl _ _ rfl _ rfl rfl rfl rfl _ rfl A6 ?_;intro w7 A7 G7))
   simp only[pt_];have K7:=Af_ G6 G7 (le_ _);have HSp:=hh_ (Sh_ ⟨win,tot,.slice ra ls.length rc,over,trk,rest,.slice ja rj.length jc,ls,rj⟩ at_ nn w7 (Hrr.out.same K7) Hrw.out (by show ls.length≤_;omega));clear A6 G6 z6 G7 Hcx
   go_upto_region 10 with(first
    |(refine Ax_ rfl _ rfl _ rfl A7 ?_)
    |(go_at_call 10;refine HSp.out.mono ?_;rintro e w8 ⟨y,rfl,yr,yw,y1,y2,g8⟩;obtain⟨yw0,yt,yv,yo,yk,ys,yu,yl,yq⟩:=y;obtain⟨ya,yc,e1⟩:=yr.lines.shape;obtain⟨yb,yd,e2⟩:=yr.rej.shape;dsimp only at e1 e2;subst e1 e2;dsimp only)
    |(refine H3_ rfl rfl ?_;intro w9 A9 G9 z9)
    |(refine A5_ rfl _ _ rfl _ rfl rfl rfl rfl _ rfl A9 ?_;intro wa Aa Ga))
   simp only[pt_];have Ka:=Af_ G9 Ga (le_ _);have HK:=hh_ (Aa_ hg (Aa_ K7 (Aa_ g8 Ka)));have HK0:=hh_ (Aa_ hg0 (Aa_ K7 (Aa_ g8 Ka)));have Hyr:=hh_ (yr.same Ka);have Hyw:=hh_ yw;have HXa:=hh_ (A7.same (Aa_ g8 Ka));have HYa:=hh_ Aa;have HBa:=hh_ (HB.out.same HK.out);have HAa:=hh_ (HA5.out.same HK.out);have HIa:=hh_ (RdL.same HI.out HK.out);have HRa:=hh_ (Hrr.out.same (Aa_ K7 (Aa_ g8 Ka)));have HZa:=hh_ (RdL.same H15.out HK.out);clear yr yw y1 y2 g8 A9 G9 z9 Ga Ka A7 K7 hg hg0 HSp Hrr Aa;generalize w8.heap.size=yb0 at *;generalize wr.heap.size=xb0 at *;have KN:World.grownBy wa wa.drew none:=gw_;refine wp_region_any (by kernel_rfl) ?_
   (refine ra_ 5 #[false,false,false,false,false,false,false] ?_;simp only[List.take,List.drop,Rg.tailL];simp (decide:=true) only[if_false])
   have hb1:items.length*32≤140737488355328:=by have:=HIl.out;omega
   have hb2:items.length≤9223372036854775807:=by have:=HIl.out;omega
   have hb3 :(items.length+1)*32≤140737488355328:=by have:=HIl.out;omega
   have hb4:items.length+1≤9223372036854775807:=by have:=HIl.out;omega
   (refine to_ ?_;intro y0 my0 dy0)
   clear dy0;have zy0:wa.heap.size≤y0.heap.size:=(Aa_ KN my0).size
   go_wp2_with fail
   refine⟨ga_ _ _ _,?_⟩;have N0:=Aw_ (B:=wa.heap.size) (w:=y0) (e:=41) itF 3 zy0;generalize y0.alloc _=e0 at *;generalize y0.heap.size=g0 at *
   (refine tq_ 1 ?_;(repeat(go_big_quiet_step (fail)));refine wn_ ?_)
   (refine to_ ?_;intro y2 my2 dy2)
   have N2:=N0.same (dy2.out 0 (by omega) (by kernel_rfl));have K2:=Aa_ KN my2;have R2:=HIa.out.same K2;have z2:=K2.size;clear dy2
   go_wp2_with (at_builtin;refine A2_ Pg_ Ui_ N2 R2 rfl hb1 hb2 z2 (by rfl) _ _ (by rfl) (by rfl) (by rfl) ?_;intro v2 e2 o2 g2 l2;have Hg2:=hh_ g2;clear g2)
   refine⟨Hg2.out,?_⟩
   (refine to_ ?_;intro y3 my3 dy3)
   clear dy3;have bx:=(HAa.out.same (Aa_ KN my3)).cell
   go_wp2_with fail
   refine⟨Ab_ _ _,?_⟩;clear bx
   (refine to_ ?_;intro y4 my4 dy4)
   clear dy4
   go_wp2_with fail
   refine⟨ga_ _ _ _,?_⟩;have A4:=Blk.new y4 #[.string mk,.int .i64 mt,.int .u64 mw] 41;generalize y4.alloc _=e4 at *;generalize y4.heap.size=g4 at *
   (refine Rg.tree_nil ?_;intro z mz dz cz)
   have O5:=o2.same (dz.out 2 (by omega));have N5:=(A4.same (dz.out 4 (by omega))).one Dv_ ⟨mk,mt,mw⟩ rfl;have KZ:=Aa_ KN mz;have z5:=KZ.size;clear dz cz my0 my2 my3 my4 mz Hg2 l2 o2 N0 N2 K2 R2 A4 KN
   go_upto_region 11 with(at_builtin;refine app Pg_ Ui_ O5 N5 rfl hb3 hb4 z5 (by rfl) _ _ (by rfl) (by rfl) (by rfl) ?_;intro v5 wb o5 g5 l5;have Kb:=Ao_ KZ O5 (le_ _) g5;have hml:=o5.len;obtain⟨ba,bc,rfl⟩:=o5.shape)
   have hz2 :(items++[(⟨mk,mt,mw⟩:ItR)]).length≤1000000000:=by have:=HIl.out;simp;omega
   have hIz:∀x∈items++[(⟨mk,mt,mw⟩:ItR)],ItW x:=fun x hx=>(ma_ hx).elim (HIw.out x) fun h=>by rw[ms_ h];exact HM.out
   have hia:items.length≤1000000000:=by have:=HIl.out;omega
   have HOZ:=hh_ o5.rd
   have CY0:=hh_ fun w' (g:wb.grownBy w' none)=>Cv_ c ⟨yw0,yt,.slice ya yl.length yc,yo,yk,ys,.slice yb yq.length yd,yl,yq⟩ _ items w' (Hyr.out.same (Aa_ Kb g)) Hyw.out (HIa.out.same (Aa_ Kb g)) HIw.out hia
   have CY1:=hh_ fun w' (g:wb.grownBy w' none)=>D3_ c ⟨yw0,yt,.slice ya yl.length yc,yo,yk,ys,.slice yb yq.length yd,yl,yq⟩ _ items w' (Hyr.out.same (Aa_ Kb g)) Hyw.out (HIa.out.same (Aa_ Kb g)) HIw.out hia
   have CX0:=hh_ fun w' (g:wb.grownBy w' none)=>Cv_ c ⟨win,tot,.slice ra ls.length rc,over,trk,rest,.slice ja rj.length jc,ls,rj⟩ _ _ w' (HRa.out.same (Aa_ Kb g)) Hrw.out (RdL.same HOZ.out g) hIz hz2
   have CX1:=hh_ fun w' (g:wb.grownBy w' none)=>D3_ c ⟨win,tot,.slice ra ls.length rc,over,trk,rest,.slice ja rj.length jc,ls,rj⟩ _ _ w' (HRa.out.same (Aa_ Kb g)) Hrw.out (RdL.same HOZ.out g) hIz hz2
   have CZ0:=hh_ fun w' (g:wb.grownBy w' none)=>Cv_ c ⟨win,tot,.slice ra ls.length rc,over,trk,rest,.slice ja rj.length jc,ls,rj⟩ _ z1 w' (HRa.out.same (Aa_ Kb g)) Hrw.out (HZa.out.same (Aa_ Kb g)) HI1.out hz1
   have CZ1:=hh_ fun w' (g:wb.grownBy w' none)=>D3_ c ⟨win,tot,.slice ra ls.length rc,over,trk,rest,.slice ja rj.length jc,ls,rj⟩ _ z1 w' (HRa.out.same (Aa_ Kb g)) Hrw.out (HZa.out.same (Aa_ Kb g)) HI1.out hz1
   rw[show(items++[(⟨mk,mt,mw⟩:ItR)]).length=items.length+1 by simp] at CX0 CX1;have HBb:=hh_ (HBa.out.same Kb);have HYb:=hh_ (HYa.out.same Kb);have HXb:=hh_ (HXa.out.same Kb);have HKb:=hh_ (Aa_ HK0.out Kb);generalize agE c ⟨yw0,yt,.slice ya yl.length yc,yo,yk,ys,.slice yb yq.length yd,yl,yq⟩ items=E1 at *;generalize agE c ⟨win,tot,.slice ra ls.length rc,over,trk,rest,.slice ja rj.length jc,ls,rj⟩ (items++[(⟨mk,mt,mw⟩:ItR)])=E2 at *;generalize agE c ⟨win,tot,.slice ra ls.length rc,over,trk,rest,.slice ja rj.length jc,ls,rj⟩ z1=E3 at *;clear o5 g5 l5 hml Kb KZ z5 O5 N5 hb1 hb2 hb3 hb4 HBa HYa HXa HAa HIa HRa HZa Hyr hz2 hIz hia HK HK0;have K6:World.grownBy wb wb.drew none:=gw_
   (refine rn_ 31 (fun k _ w v w'=>match k with | 3=>v=.int .i64 E1∧World.grownBy w w' none | 7=>v=.int .i64 E1∧World.grownBy w w' none | 13=>v=.int .i64 E2∧World.grownBy w w' none | 17=>v=.int .i64 E2∧World.grownBy w w' none | 24=>v=.int .i64 E3∧World.grownBy w w' none | 28=>v=.int .i64 E3∧World.grownBy w w' none | _=>False) ?_;simp only[ts_])
   generalize wb.drew=wd2 at *
   ((refine to_ ?_;intro x0 mx0 dx0);clear dx0;have BX:=HBb.out.same (Aa_ K6 mx0);go_wp2_with (refine Al_ rfl _ rfl _ rfl c BX ?_);refine⟨Ab_ _ _,?_⟩;clear BX)
   ((refine to_ ?_;intro x1 mx1 dx1);clear dx1;go_wp2_with (refine Ax_ rfl _ rfl _ rfl (HYb.out.same (Aa_ K6 mx1)) ?_);refine⟨Ab_ _ _,?_⟩)
   (refine tq_ 1 ?_;(repeat(go_big_quiet_step (fail)));refine wn_ ?_)
   ((refine tc_ ?_;intro x3 mx3 dx3;refine⟨?_,?_⟩;· (unfold Rg.callSpec;go_simp;(refine(CY0.out x3 (Aa_ K6 mx3)).mono ?_;rintro e w' ⟨rfl,g⟩;exact⟨_,rfl,rfl,g⟩)));clear dx3;rintro v y ⟨rfl,g⟩;refine⟨g,?_⟩;clear g;simp only[pt_])
   ((refine to_ ?_;intro x4 mx4 dx4);clear dx4;have BX:=HBb.out.same (Aa_ K6 mx4);go_wp2_with (refine Al_ rfl _ rfl _ rfl c BX ?_);refine⟨Ab_ _ _,?_⟩;clear BX)
   ((refine to_ ?_;intro x5 mx5 dx5);clear dx5;go_wp2_with (refine Ax_ rfl _ rfl _ rfl (HYb.out.same (Aa_ K6 mx5)) ?_);refine⟨Ab_ _ _,?_⟩)
   (refine tq_ 1 ?_;(repeat(go_big_quiet_step (fail)));refine wn_ ?_)
   ((refine tc_ ?_;intro x7 mx7 dx7;refine⟨?_,?_⟩;· (unfold Rg.callSpec;go_simp;(refine(CY1.out x7 (Aa_ K6 mx7)).mono ?_;rintro e w' ⟨rfl,g⟩;exact⟨_,rfl,rfl,g⟩)));clear dx7;rintro v y ⟨rfl,g⟩;refine⟨g,?_⟩;clear g;simp only[pt_])
   (refine tq_ 2 ?_;(repeat(go_big_quiet_step (fail)));refine wn_ ?_)
   ((refine to_ ?_;intro x10 mx10 dx10);clear dx10;have BX:=HBb.out.same (Aa_ K6 mx10);go_wp2_with (refine A0_ rfl _ rfl _ rfl c BX ?_);refine⟨Ab_ _ _,?_⟩;clear BX)
   ((refine to_ ?_;intro x11 mx11 dx11);clear dx11;go_wp2_with (refine Cm_ (by rfl) _ rfl _ rfl (HXb.out.same (Aa_ K6 mx11)) ?_);refine⟨Ab_ _ _,?_⟩)
   (refine tq_ 1 ?_;(repeat(go_big_quiet_step (fail)));refine wn_ ?_)
   ((refine Rg.tree_callG rfl rfl rfl ?_;intro x13 mx13 dx13;refine⟨?_,?_⟩;· (unfold Rg.callSpec;go_simp;(refine(CX0.out x13 (Aa_ K6 mx13)).mono ?_;rintro e w' ⟨rfl,g⟩;exact⟨_,rfl,rfl,g⟩)));clear dx13;rintro v y ⟨rfl,g⟩;refine⟨g,?_⟩;clear g;simp only[pt_])
   ((refine to_ ?_;intro x14 mx14 dx14);clear dx14;have BX:=HBb.out.same (Aa_ K6 mx14);go_wp2_with (refine A0_ rfl _ rfl _ rfl c BX ?_);refine⟨Ab_ _ _,?_⟩;clear BX)
   ((refine to_ ?_;intro x15 mx15 dx15);clear dx15;go_wp2_with (refine Cm_ (by rfl) _ rfl _ rfl (HXb.out.same (Aa_ K6 mx15)) ?_);refine⟨Ab_ _ _,?_⟩)
   (refine tq_ 1 ?_;(repeat(go_big_quiet_step (fail)));refine wn_ ?_)
   ((refine Rg.tree_callG rfl rfl rfl ?_;intro x17 mx17 dx17;refine⟨?_,?_⟩;· (unfold Rg.callSpec;go_simp;(refine(CX1.out x17 (Aa_ K6 mx17)).mono ?_;rintro e w' ⟨rfl,g⟩;exact⟨_,rfl,rfl,g⟩)));clear dx17;rintro v y ⟨rfl,g⟩;refine⟨g,?_⟩;clear g;simp only[pt_])
   (refine tq_ 3 ?_;(repeat(go_big_quiet_step (fail)));refine wn_ ?_)
   ((refine to_ ?_;intro x21 mx21 dx21);clear dx21;have BX:=HBb.out.same (Aa_ K6 mx21);go_wp2_with (refine A0_ rfl _ rfl _ rfl c BX ?_);refine⟨Ab_ _ _,?_⟩;clear BX)
   ((refine to_ ?_;intro x22 mx22 dx22);clear dx22;go_wp2_with (refine Cm_ (by rfl) _ rfl _ rfl (HXb.out.same (Aa_ K6 mx22)) ?_);refine⟨Ab_ _ _,?_⟩)
   (refine tq_ 1 ?_;(repeat(go_big_quiet_step (fail)));refine wn_ ?_)
   ((refine Rg.tree_callG rfl rfl rfl ?_;intro x24 mx24 dx24;refine⟨?_,?_⟩;· (unfold Rg.callSpec;go_simp;(refine(CZ0.out x24 (Aa_ K6 mx24)).mono ?_;rintro e w' ⟨rfl,g⟩;exact⟨_,rfl,rfl,g⟩)));clear dx24;rintro v y ⟨rfl,g⟩;refine⟨g,?_⟩;clear g;simp only[pt_])
   ((refine to_ ?_;intro x25 mx25 dx25);clear dx25;have BX:=HBb.out.same (Aa_ K6 mx25);go_wp2_with (refine A0_ rfl _ rfl _ rfl c BX ?_);refine⟨Ab_ _ _,?_⟩;clear BX)
   ((refine to_ ?_;intro x26 mx26 dx26);clear dx26;go_wp2_with (refine Cm_ (by rfl) _ rfl _ rfl (HXb.out.same (Aa_ K6 mx26)) ?_);refine⟨Ab_ _ _,?_⟩)
   (refine tq_ 1 ?_;(repeat(go_big_quiet_step (fail)));refine wn_ ?_)
   ((refine Rg.tree_callG rfl rfl rfl ?_;intro x28 mx28 dx28;refine⟨?_,?_⟩;· (unfold Rg.callSpec;go_simp;(refine(CZ1.out x28 (Aa_ K6 mx28)).mono ?_;rintro e w' ⟨rfl,g⟩;exact⟨_,rfl,rfl,g⟩)));clear dx28;rintro v y ⟨rfl,g⟩;refine⟨g,?_⟩;clear g;simp only[pt_])
   (refine tq_ 2 ?_;(repeat(go_big_quiet_step (fail)));refine wn_ ?_)
   (refine Rg.tree_nil ?_;intro x31 mx31 dx31 cx31)
   have K31:=Aa_ HKb.out (Aa_ K6 mx31);clear dx31 cx31
   go_wp2_with fail
   exact⟨⟨k+1,by omega,by go_num,K31⟩,by simp[RowKit.intOf];omega⟩
  ·have HG7:=hh_ (Aa_ HG9.out hg0)
   go_wp2_with (go_at_call 6;refine(Es_ _).mono ?_;rintro e w6 ⟨rfl,G6⟩)
   go_ret
   exact A7_ rfl (Aa_ HG7.out G6)
end
section
open Go.RowKit
theorem own:ownKnob Tryz.prog.godebug=none:=by kernel_rfl
theorem G2_:laidOutB Tryz.prog=true:=by kernel_rfl
def IsRow (k:IntKind) (w:World) (a:Option Addr) (len cap:Nat) (zs:List Int):Prop:=
 (a=none∧len=0∧cap=0∧zs=[]) ∨
 ∃x,a=some x∧len≤cap∧cap≤maxLen∧zs.length=cap∧(∀i,i<zs.length→w.cell? (x.add i)=some (.int k (zs.getD i 0)))∧∀n∈zs,(Lit.int k n).wf=true
theorem IsRow.rd {k:IntKind} {w:World} {a:Option Addr} {len cap:Nat} {zs:List Int} (h:IsRow k w a len cap zs):Rd w 1 (.slice a len cap) len ((zs.take len).map (fun x=>Value.int k x)):=by
 rcases h with⟨rfl,rfl,rfl,rfl⟩ |⟨x,rfl,h1,h2,h3,h4,h5⟩
 ·exact⟨by simp,by omega,.inl ⟨rfl,_,_,rfl⟩⟩
 ·have hm:len≤9223372036854775807:=by unfold maxLen at h2;omega
  rcases Nat.eq_zero_or_pos len with rfl|h0
  ·exact⟨by simp,by omega,.inl ⟨rfl,_,_,rfl⟩⟩
  ·obtain⟨b,off,spot⟩:=x
   have hc:=h4 0 (by omega)
   cases spot with
   | some s=>
    exfalso
    unfold Addr.add at hc
    simp[World.cell?] at hc
    split at hc <;> simp_all
   | none=>
    refine⟨by simp;omega,hm,.inr ⟨b,off,cap,rfl,block_lt_of_cell hc,fun j u hu=>?_⟩⟩
    have hj:j<len:=by
     have:=(gs_ hu).1
     simp at this;omega
    have:=h4 j (by omega)
    have ha :(⟨b,off,none⟩:Addr).add j =⟨b,off+j,none⟩:=by unfold Addr.add;split <;> simp_all
    rw[ha] at this;rw[this,←hu]
    simp[hj,gq_ (show j<zs.length by omega)]
end
section
open Go.RowKit Go.WideShapes Go.ChangeShapes Go.Deep
section
variable {H:Type} {enc:TypeId×Value→H} {P:Program} {w:World} {base:Nat} {spare:Nat→Bool} {held:Bool}
theorem Er_ {t:TypeId} {fs:Array Field} {fuel:Nat} {cs:List Value} {x:DataW H×List MemPlace} (ht:P.underlying t=some (.struct fs)) (hone:oneCellFields P fs=true) (hC:P.cellsOf t=fs.size)
  (h:DataW.trod enc P w base spare held fuel t cs=some x):cs.length=fs.size∧∃n,∀(i:Nat) (f:Field),fs[i]?=some f→∃c y,cs[i]?=some c∧DataW.trod enc P w base spare held n f.type [c]=some y:=by
 obtain⟨xs,n,_,_,hl,hlen,hf⟩:=DataW.trod_struct ht h;refine⟨hl.trans hC,n,fun i f hi=>?_⟩;have hi2:i<fs.size:=(Array.getElem?_eq_some_iff.1 hi).1;obtain⟨o,k⟩:=hone_of hone i f hi;have h1:=hf i f hi
 have hi3:i<cs.length:=by rw[hl,hC];exact hi2
 have hi4:i<xs.length:=by rw[hlen];exact hi2
 rw[o,k,gq_ hi4] at h1
 have e :(cs.drop i).take 1=[cs[i]]:=by
  rw[List.take_one,List.head?_drop,gq_ hi3];rfl
 rw[e] at h1;exact⟨cs[i],xs[i],gq_ hi3,h1⟩
theorem Fy_ {α:Type} [Inhabited α] (f:α→List Value) (s:Nat) {t e:TypeId} (ht:P.underlying t=some (.slice e)) (hC:P.cellsOf e=s) (hpos:0<s) (hs:∀x,(f x).length=s) (Ok:α→Prop)
  (hel:∀n cs y,DataW.trod enc P w base spare held n e cs=some y→∃x,cs=f x∧Ok x) {fuel:Nat} {cs:List Value} {x:DataW H×List MemPlace} (h:DataW.trod enc P w base spare held fuel t cs=some x) :
  ∃a len cap,∃l:List α,cs=[.slice a len cap]∧l.length=len∧len≤cap∧RdL f s w (.slice a len cap) l∧∀x∈l,Ok x:=by
 rcases open_slice ht h with⟨rfl,_⟩ |⟨a,len,cap,m,n,D,Pl,rfl,_,hl,hm,hmm,_,hx⟩
 ·exact⟨none,0,0,[],rfl,rfl,le_ _,⟨by simp[cellsOf],by simp,.inl ⟨rfl,none,0,rfl⟩⟩,by simp⟩
 ·have hml:len≤m:=by rw[hmm];split <;> omega
  have hm63:len≤9223372036854775807:=by unfold maxLen at hm;omega
  obtain⟨V,hV⟩:=choose_lt (α:=α) (n:=len) (p:=fun i y=>w.cells? base (a.add (i*P.cellsOf e)) (P.cellsOf e)=some (f y)∧Ok y) (fun i hi=>by
   obtain⟨cs',h1,h2⟩:=hx i (by omega);obtain⟨y,rfl,hy⟩:=hel _ _ _ h2
   exact⟨y,h1,hy⟩)
  have hlen :((List.range len).map V).length=len:=by simp
  refine⟨some a,len,cap,(List.range len).map V,rfl,hlen,hl,?_,fun y hy=>?_⟩
  ·rcases Nat.eq_zero_or_pos len with h0|h0
   ·subst h0
    exact⟨by simp[cellsOf],by simp,.inl ⟨by simp,some a,cap,by simp⟩⟩
   ·obtain⟨b,off,spot⟩:=a
    have hc0:=(World.cells?_some (hV 0 h0).1).2.2 0 (by rw[hC];exact hpos)
    have hf0:0<(f (V 0)).length:=by rw[hs];exact hpos
    rw[gq_ hf0] at hc0
    cases spot with
    | some q=>
     exfalso
     unfold Addr.add at hc0
     simp[World.cell?] at hc0
     split at hc0 <;> simp_all
    | none=>
     have hadd:∀o i,(⟨b,o,none⟩:Addr).add i =⟨b,o+i,none⟩:=fun o i=>by unfold Addr.add;split <;> simp_all
     refine⟨At_ f s hs _,by rw[hlen];exact hm63,.inr ⟨b,off,cap,by rw[hlen],?_,fun j u hu=>?_⟩⟩
     ·rw[hadd,hadd] at hc0
      exact block_lt_of_cell hc0
     ·have hj:j<len*s:=by
       have:=(gs_ hu).1
       rwa [At_ f s hs,hlen] at this
      have hq:j/s<len:=Nat.div_lt_of_lt_mul (by rw[Nat.mul_comm];exact hj);have hr:j%s<s:=Nat.mod_lt _ hpos;have he:j/s*s+j%s=j:=Nat.div_add_mod' j s;have h1:=(World.cells?_some (hV (j/s) hq).1).2.2 (j%s) (by rw[hC];exact hr);rw[hadd,hadd,hC] at h1;have h2:=El_ f s hs ((List.range len).map V) (j/s) (j%s) hr (V (j/s)) (by simp[hq]);rw[he] at h2;rw[←he,←Nat.add_assoc,h1,←h2,hu]
  ·obtain⟨i,hi,rfl⟩:=List.mem_map.1 hy
   exact(hV i (List.mem_range.1 hi)).2
theorem Ic_ {k:IntKind} {t e:TypeId} (ht:P.underlying t=some (.slice e)) (he:P.underlying e=some (.int k)) (hC:P.cellsOf e=1) {fuel:Nat} {cs:List Value} {x:DataW H×List MemPlace} (h:DataW.trod enc P w base spare held fuel t cs=some x) :
  ∃a len cap,∃l:List Int,cs=[.slice a len cap]∧l.length=len∧len≤cap∧RdL (fun n=>[Value.int k n]) 1 w (.slice a len cap) l∧∀n∈l,(Lit.int k n).wf=true:=
 Fy_ (fun n=>[Value.int k n]) 1 ht hC (by omega) (fun _=>rfl) (fun n=>(Lit.int k n).wf=true) (fun n cs y h=>by obtain⟨m,h1,_,h2⟩:=DataW.trod_int he h;exact⟨m,h1,h2⟩) h
theorem Zq_ {r:Reach} {b0:Nat} {t:TypeId} {fs:Array Field} {v:Value} {d:DataW H} {p:List MemPlace} (ht:P.underlying t=some (.struct fs)) (hone:oneCellFields P fs=true) (hC:P.cellsOf t=fs.size)
  (hv:Value.okWide P w r b0 t v) (h:DataW.Trod enc P w base spare held t v d p) :
  ∃cs:Array Value,v=.agg cs∧cs.size=fs.size∧∃n,∀(i:Nat) (f:Field),fs[i]?=some f→∃c y,cs[i]?=some c∧DataW.trod enc P w base spare held n f.type [c]=some y:=by
 obtain⟨cs,rfl,hsz⟩:=okWide_struct ht hv;obtain⟨fuel,hf⟩:=h;obtain⟨_,n,hh⟩:=Er_ ht hone hC hf;exact⟨cs,rfl,hsz.trans hC,n,fun i f hi=>by obtain⟨c,y,h1,h2⟩:=hh i f hi;exact⟨c,y,by simpa [Value.cells] using h1,h2⟩⟩
theorem ep_ {α:Type} {cs:Array α} (h:cs.size=7):∃a b c d e f g,cs=#[a,b,c,d,e,f,g]:=by
 obtain⟨l⟩:=cs
 match l,h with
 | [a,b,c,d,e,f,g],_=>exact⟨a,b,c,d,e,f,g,rfl⟩
theorem gc_ {α:Type} {l:List α} (h:l.length=3):∃a b c,l=[a,b,c]:=by
 match l,h with
 | [a,b,c],_=>exact⟨a,b,c,rfl⟩
end
theorem K2_:∃fs,Tryz.prog.underlying 46=some (.struct fs)∧oneCellFields Tryz.prog fs=true∧Tryz.prog.cellsOf 46=fs.size∧fs.size=3∧(fs[0]?).map (·.type)=some 9∧(fs[1]?).map (·.type)=some 22∧(fs[2]?).map (·.type)=some 22:=
 ⟨_,underlying46,by kernel_rfl,by kernel_rfl,rfl,rfl,rfl,rfl⟩
theorem Rf_:∃fs,Tryz.prog.underlying 26=some (.struct fs)∧oneCellFields Tryz.prog fs=true∧Tryz.prog.cellsOf 26=fs.size∧fs.size=7∧(fs[0]?).map (·.type)=some 3∧(fs[1]?).map (·.type)=some 22∧(fs[2]?).map (·.type)=some 23 ∧
  (fs[3]?).map (·.type)=some 22∧(fs[4]?).map (·.type)=some 3∧(fs[5]?).map (·.type)=some 22∧(fs[6]?).map (·.type)=some 24:=
 ⟨_,underlying26,by kernel_rfl,by kernel_rfl,rfl,rfl,rfl,rfl,rfl,rfl,rfl,rfl⟩
theorem To_ {n:Nat} (h:n≤maxLen):n≤9223372036854775807:=by unfold maxLen at h;omega
section
variable {H:Type} {enc:TypeId×Value→H} {w:World} {base:Nat} {spare:Nat→Bool} {held:Bool}
instance:Inhabited Ln:=⟨⟨ByteArray.empty,0,0⟩⟩
theorem Bz_ {α β:Type} {o:Option α} {g:α→β} {b:β} (h:o.map g=some b):∃x,o=some x∧g x=b:=by
 cases o with
 | none=>cases h
 | some x=>exact⟨x,rfl,by simpa using h⟩
theorem Vw_ {n:Nat} {cs:List Value} {y:DataW H×List MemPlace} (h:DataW.trod enc Tryz.prog w base spare held n 46 cs=some y):∃x:Ln,cs=lnF x∧LnW x:=by
 obtain⟨fs,h1,h2,h3,h4,f0,f1,f2⟩:=K2_;obtain⟨hl,m,hf⟩:=Er_ h1 h2 h3 h;obtain⟨a,b,c,rfl⟩:=gc_ (hl.trans h4);obtain⟨g0,e0,t0⟩:=Bz_ f0;obtain⟨g1,e1,t1⟩:=Bz_ f1;obtain⟨g2,e2,t2⟩:=Bz_ f2;obtain⟨c0,y0,k0,r0⟩:=hf 0 g0 e0;obtain⟨c1,y1,k1,r1⟩:=hf 1 g1 e1;obtain⟨c2,y2,k2,r2⟩:=hf 2 g2 e2
 simp at k0 k1 k2
 subst k0 k1 k2;rw[t0] at r0;rw[t1] at r1;rw[t2] at r2;obtain⟨s,q0,_,s0⟩:=DataW.trod_string underlying9 r0;obtain⟨lo,q1,_,s1⟩:=DataW.trod_int underlying22 r1;obtain⟨hi,q2,_,s2⟩:=DataW.trod_int underlying22 r2
 simp at q0 q1 q2
 subst q0 q1 q2;exact⟨⟨s,lo,hi⟩,rfl,Im_ s1,Im_ s2,To_ s0⟩
-- A report that came in.
theorem Xy_ {r:Reach} {b0:Nat} {v:Value} {d:DataW H} {p:List MemPlace} (hv:Value.okWide Tryz.prog w r b0 26 v) (h:DataW.Trod enc Tryz.prog w base spare held 26 v d p) :
  ∃x:Rep,v=repV x.win x.tot x.vl x.over x.trk x.rest x.vr∧RepRd w x∧RepW x:=by
 obtain⟨fs,h1,h2,h3,h4,f0,f1,f2,f3,f4,f5,f6⟩:=Rf_;obtain⟨cs,rfl,hl,m,hf⟩:=Zq_ h1 h2 h3 hv h;obtain⟨a0,a1,a2,a3,a4,a5,a6,rfl⟩:=ep_ (hl.trans h4);obtain⟨g0,e0,t0⟩:=Bz_ f0;obtain⟨g1,e1,t1⟩:=Bz_ f1;obtain⟨g2,e2,t2⟩:=Bz_ f2;obtain⟨g3,e3,t3⟩:=Bz_ f3;obtain⟨g4,e4,t4⟩:=Bz_ f4;obtain⟨g5,e5,t5⟩:=Bz_ f5;obtain⟨g6,e6,t6⟩:=Bz_ f6;obtain⟨c0,y0,k0,r0⟩:=hf 0 g0 e0;obtain⟨c1,y1,k1,r1⟩:=hf 1 g1 e1;obtain⟨c2,y2,k2,r2⟩:=hf 2 g2 e2;obtain⟨c3,y3,k3,r3⟩:=hf 3 g3 e3;obtain⟨c4,y4,k4,r4⟩:=hf 4 g4 e4;obtain⟨c5,y5,k5,r5⟩:=hf 5 g5 e5;obtain⟨c6,y6,k6,r6⟩:=hf 6 g6 e6;clear hf
 simp at k0 k1 k2 k3 k4 k5 k6
 subst k0 k1 k2 k3 k4 k5 k6;rw[t0] at r0;rw[t1] at r1;rw[t2] at r2;rw[t3] at r3;rw[t4] at r4;rw[t5] at r5;rw[t6] at r6;obtain⟨win,q0,_,s0⟩:=DataW.trod_int underlying3 r0;obtain⟨tot,q1,_,s1⟩:=DataW.trod_int underlying22 r1;obtain⟨la,ln,lc,ls,q2,hln,hlc,hlr,hlw⟩:=Fy_ lnF 3 underlying23 (by kernel_rfl) (by omega) Ar_ LnW (fun n cs y h=>Vw_ h) r2;obtain⟨ov,q3,_,s3⟩:=DataW.trod_int underlying22 r3;obtain⟨trk,q4,_,s4⟩:=DataW.trod_int underlying3 r4;obtain⟨rst,q5,_,s5⟩:=DataW.trod_int underlying22 r5;obtain⟨ra,rn,rc,rj,q6,hrn,hrc,hrr,hrw⟩:=Ic_ (k:=.u64) underlying24 underlying22 (by kernel_rfl) r6
 simp at q0 q1 q2 q3 q4 q5 q6
 subst q0 q1 q2 q3 q4 q5 q6;refine⟨⟨win,tot,_,ov,trk,rst,_,ls,rj⟩,rfl,⟨hlr,hrr,fun a n c e=>by cases e;exact hlc,fun a n c e=>by cases e;exact hrc⟩,?_,Im_ s1,Im_ s3,?_,Im_ s5,hlw,fun n hn=>Im_ (hrw n hn)⟩
 ·have:=bounds_i64 s0;unfold I64;simp only;omega
 ·have:=bounds_i64 s4;unfold I64;simp only;omega
end
end
section
open Go.RowKit Go.WideShapes Go.ChangeShapes Go.Deep
instance:Inhabited OpR:=⟨⟨0,.slice none 0 0,0,0,ByteArray.empty,.slice none 0 0,[],[]⟩⟩
section
variable {H:Type} {enc:TypeId×Value→H} {w:World} {base:Nat} {spare:Nat→Bool} {held:Bool}
end
end
section
open Go.RowKit Go.WideShapes Go.ChangeShapes Go.Deep
theorem K6_:∃fs,Tryz.prog.underlying 41=some (.struct fs)∧oneCellFields Tryz.prog fs=true∧Tryz.prog.cellsOf 41=fs.size∧fs.size=3∧(fs[0]?).map (·.type)=some 9∧(fs[1]?).map (·.type)=some 3∧(fs[2]?).map (·.type)=some 22:=
 ⟨_,underlying41,by kernel_rfl,by kernel_rfl,rfl,rfl,rfl,rfl⟩
theorem eq_ {α:Type} {l:List α} (h:l.length=3):∃a b c,l=[a,b,c]:=by
 match l,h with
 | [a,b,c],_=>exact⟨a,b,c,rfl⟩
theorem Ny_ {α β:Type} {o:Option α} {g:α→β} {b:β} (h:o.map g=some b):∃x,o=some x∧g x=b:=by
 cases o with
 | none=>cases h
 | some x=>exact⟨x,rfl,by simpa using h⟩
instance:Inhabited ItR:=⟨⟨ByteArray.empty,0,0⟩⟩
section
variable {H:Type} {enc:TypeId×Value→H} {w:World} {base:Nat} {spare:Nat→Bool} {held:Bool}
theorem Vn_ {n:Nat} {cs:List Value} {y:DataW H×List MemPlace} (h:DataW.trod enc Tryz.prog w base spare held n 41 cs=some y):∃x:ItR,cs=itF x∧ItW x:=by
 obtain⟨fs,h1,h2,h3,h4,f0,f1,f2⟩:=K6_;obtain⟨hl,m,hf⟩:=Er_ h1 h2 h3 h;obtain⟨a,b,c,rfl⟩:=eq_ (hl.trans h4);obtain⟨g0,e0,t0⟩:=Ny_ f0;obtain⟨g1,e1,t1⟩:=Ny_ f1;obtain⟨g2,e2,t2⟩:=Ny_ f2;obtain⟨c0,y0,k0,r0⟩:=hf 0 g0 e0;obtain⟨c1,y1,k1,r1⟩:=hf 1 g1 e1;obtain⟨c2,y2,k2,r2⟩:=hf 2 g2 e2;clear hf
 simp at k0 k1 k2
 subst k0 k1 k2;rw[t0] at r0;rw[t1] at r1;rw[t2] at r2;obtain⟨ky,q0,_,s0⟩:=DataW.trod_string underlying9 r0;obtain⟨tm,q1,_,s1⟩:=DataW.trod_int underlying3 r1;obtain⟨wt,q2,_,s2⟩:=DataW.trod_int underlying22 r2
 simp at q0 q1 q2
 subst q0 q1 q2;refine⟨⟨ky,tm,wt⟩,rfl,?_,?_,by unfold maxLen at s0;show ky.size≤_;omega⟩
 ·have:=bounds_i64 s1;simp only;omega
 ·have:=bounds_u64 s2;unfold W64;simp only;omega
theorem Qd_ {fuel:Nat} {cs:List Value} {x:DataW H×List MemPlace} (h:DataW.trod enc Tryz.prog w base spare held fuel 33 cs=some x) :
  ∃a len cap,∃l:List ItR,cs=[.slice a len cap]∧l.length=len∧len≤cap∧RdL itF 3 w (.slice a len cap) l∧∀o∈l,ItW o:=by
 obtain⟨a,len,cap,l,h1,h2,h3,h4,h5⟩:=Fy_ itF 3 underlying33 (by kernel_rfl) (by omega) Dv_ ItW (fun n cs y h=>Vn_ h) h;exact⟨a,len,cap,l,h1,h2,h3,h4,h5⟩
end
end
section
open Go.RowKit Go.WideShapes Go.ChangeShapes Go.Deep
section
variable {H:Type} {enc:TypeId×Value→H} {w:World} {base:Nat} {spare:Nat→Bool} {held:Bool}
theorem U7_ {r:Reach} {b0:Nat} {v:Value} {d:DataW H} {p:List MemPlace} (hv:Value.okWide Tryz.prog w r b0 41 v) (h:DataW.Trod enc Tryz.prog w base spare held 41 v d p) :
  ∃x:ItR,v=.agg #[.string x.key,.int .i64 x.time,.int .u64 x.weight]∧ItW x:=by
 obtain⟨fs,h1,h2,h3,h4,_⟩:=K6_;obtain⟨cs,rfl,hsz⟩:=okWide_struct h1 hv;obtain⟨fuel,hf⟩:=h;obtain⟨x,e,hw⟩:=Vn_ hf;refine⟨x,?_,hw⟩;have e2:cs.toList=itF x:=e
 congr 1
 exact Array.toList_inj.1 (by rw[e2];rfl)
end
end
end Go.Proofs.YtckmgjmeanloaaaGreat
