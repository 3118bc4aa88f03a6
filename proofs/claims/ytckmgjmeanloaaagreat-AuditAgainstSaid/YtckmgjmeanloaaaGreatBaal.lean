/- Several texts in one file: contracts of functions of the given program, and plain laws, for the proof of a statement. -/
import Derived.Test.YtckmgjmeanloaaaGreatBaak
import Derived.Lib.RowBridge
set_option maxHeartbeats 8000000
set_option maxRecDepth 100000
namespace Go.Proofs.YtckmgjmeanloaaaGreat
open Go.Proofs.Tryz
section
open Go.RowKit Go.Sort
structure FdR (w:World) (U:Fp) (lo:Nat) (vc:Value) (l:List ChR) (vi:Value) (li:List InpR) (b:Nat) (y:InpR):Prop where
 chs:ChsG lo w vc l
 o1:Off (chsF vc l) U
 inp:Own inpF 4 114 0 w vi li
 o2:Off (ownF vi) U
 box:Blk w b #[.string y.it.key,.int .i64 y.it.time,.int .u64 y.it.weight,.int .i64 y.ver]
 o3:¬U b
theorem FdR.mov {w w':World} {U U':Fp} {lo:Nat} {vc:Value} {l:List ChR} {vi:Value} {li:List InpR} {b:Nat} {y:InpR} (h:FdR w U lo vc l vi li b y) (m:Mov U U' w w'):FdR w' U' lo vc l vi li b y:=
 ⟨h.chs.offS m.grown h.o1,m.off h.chs.low h.o1,h.inp.offS m.grown h.o2,m.off h.inp.low h.o2,h.box.keptS m.grown h.o3,fun hu=>(m.new b hu).elim h.o3 fun e=>by have:=h.box.lt;omega⟩
theorem FdR.same {w w':World} {U:Fp} {lo:Nat} {vc:Value} {l:List ChR} {vi:Value} {li:List InpR} {b:Nat} {y:InpR} (h:FdR w U lo vc l vi li b y) (g:w.grownBy w' none):FdR w' U lo vc l vi li b y:=h.mov (Mov.same g)
theorem J1_ {l:List RshG} {i:Nat} {s s':RshG} (h:l[i]?=some s) (hg:s'.g=s.g) :(l.set i s').map (·.g)=l.map (·.g):=by
 have hil:=(gs_ h).1;rw[List.map_set]
 refine List.ext_getElem? fun j=>?_
 by_cases hij:i=j
 ·subst hij
  rw[List.getElem?_set_self (by simpa using hil),List.getElem?_map,h];simp[hg]
 ·rw[List.getElem?_set_ne hij]
def Z2_ (G:RcG) (c:Cfg) (t:List Int) (K:CluM) (p:List UInt8) (w:World) (e:Ending) (w':World):Prop:=
 ∃G' vo,e=.returned vo∧FdS w G c t w' G' (feedK c t K p).1 vo (feedK c t K p).2
theorem Wk_ (G:RcG) (c:Cfg) (t:List Int) (K:CluM) (N:Nat) (v:Value) (p:List UInt8) (w:World) (h:RClu w G c t K) (hC:CfgW w c t G.F) (hOk:CluOk c K N) (hp:RdL byF 1 w v p) (hl:p.length≤1000000) (hN:N+65*p.length<1000000000) :
  Calls Tryz.prog 21 #[.pointer (some ⟨G.g,0,none⟩),v] w (Z2_ G c t K p w):=by
 obtain⟨pa,pc,rfl⟩:=hp.shape;obtain⟨ba,bc,hbv⟩:=h.core.buf.shape;have CF:=hh_ (show Calls Tryz.prog 46 #[.agg #[.slice ba K.str.buf.length bc,.int .u64 K.str.skip,.bool K.str.broken],.slice pa p.length pc] w (FeedP K.str p w) from by rw[←hbv];exact bu_ K.str G.vb _ p w h.core.buf.rd hOk.str hp hl);have b0:=h.blk.cell;rw[hbv] at b0
 have HB:=hh_ fun y (q:w.grownBy y none)=>(h.same q).blk
 have HSt:=hh_ fun y (q:w.grownBy y none) v' S' (o:Own byF 1 5 w.heap.size y v' S'.buf)=>h.setB q (S':=S') o
 obtain⟨hso,hsc,hsl⟩:=Ka_ hOk.str p p.length (le_ _);rw[List.take_length] at hso hsc hsl;have HFK:=hh_ (show feedK c t K p=inpsK c t { K with str:=(strF K.str p).1 } ((strF K.str p).2.flatMap (chInps c)) from rfl);have HC:=hh_ hC;have hgl:=h.blk.lt;have HOk:=hh_ (show CluOk c { K with str:=(strF K.str p).1 } N from⟨hso,hOk.acc,hOk.led,hOk.items,hOk.len,hOk.sh,hOk.its⟩);have HLw:=hh_ h.core.low;clear hp h hso hC hOk;obtain⟨St,hSt⟩:∃St,(strF K.str p).1=St:=⟨_,rfl⟩;obtain⟨Cs,hCs⟩:∃Cs,(strF K.str p).2=Cs:=⟨_,rfl⟩;have HSC:=hh_ (And.intro hSt hCs);rw[hSt] at HFK HOk;rw[hCs] at HFK hsc hsl;clear hSt hCs
 go_enter func21,ntmps21
 go_upto_region 4 with(go_at_call 46;refine CF.out.mono ?_;rintro e w1 ⟨vb',vc,l,rfl,oB,oC,hm,hoff,g1⟩;rw[HSC.out.1] at oB;rw[HSC.out.2] at hm;rw[HSC.out.1];obtain⟨a1,c1,rfl⟩:=oB.shape;obtain⟨a2,c2,rfl⟩:=oC.own.shape;have b1:=(HB.out _ g1).cell;have f1:=(HB.out _ g1).free)
 obtain⟨RC2,MC2⟩:=HSt.out w1 g1 _ St oB
 have hgk:GrownS (oneF G.g) w1 (((w1.setCell ⟨G.g,18,none⟩ (.slice a1 St.buf.length c1)).setCell ⟨G.g,19,none⟩ (.int .u64 St.skip)).setCell ⟨G.g,20,none⟩ (.bool St.broken)):=GrownS.of (Ac_ (Ac_ (Ac_ (Ab_ w1 (some G.g)) _ _) _ _) _ _) fun k e=>by cases e;rfl
 have oC2:=Bo_.keptS chK oC hgk fun i e=>.inl (by rw[show i=G.g from e];exact hgl)
 have hofC:Off (chsF (.slice a2 l.length c2) l) (fdU { G with vb:=.slice a1 St.buf.length c1 } (.slice none 0 0)):=fun i hi hf=>by
  rcases hf with hf|hf
  ·have e:RcG.parts { G with vb:=.slice a1 St.buf.length c1 }=G.parts.set 1 (ownF (.slice a1 St.buf.length c1)):=rfl
   unfold RcG.F at hf;rw[e] at hf
   rcases mem_partsF hf with hf|hf
   ·exact hoff i hi hf
   ·have:=oC.ge i hi;have:=HLw.out i hf;omega
  ·exact Ay_ i hf
 have D0:FdS w G c t _ { G with vb:=.slice a1 St.buf.length c1 } { K with str:=St } (.slice none 0 0) []:=⟨RC2,HC.out.mov MC2,MC2,Own.nil _ _ _ _ _,fun i hi=>absurd hi (Ay_ i),HC.out.low,rfl,rfl,rfl,rfl⟩;have HD0:=hh_ D0;have HC2:=hh_ oC2;have HofC:=hh_ hofC;have Hm:=hh_ hm
 have hll:l.length≤p.length:=by have:=congrArg List.length hm;rw[List.length_map] at this;omega
 clear b0 b1 f1 RC2 MC2 hgk oC2 hofC oC oB hoff D0 CF HSt HB g1 hm HSC HLw hbv;generalize ((w1.setCell ⟨G.g,18,none⟩ (.slice a1 St.buf.length c1)).setCell ⟨G.g,19,none⟩ (.int .u64 St.skip)).setCell ⟨G.g,20,none⟩ (.bool St.broken)=w2 at *;clear w1;generalize hG1 :({ G with vb:=.slice a1 St.buf.length c1 }:RcG)=G1 at *;generalize hK1 :({ K with str:=St }:CluM)=K1 at *;clear hG1 hK1
 go_upto_region 5 with fail
 go_loopw [5,29] (fun s5 s29 wk=>∃(k:Nat) (G':RcG) (K':CluM) (outs:List Int),k≤l.length∧s29=.int .i64 k∧FdS w G c t wk G' K' s5 outs∧inpsK c t K1 ((l.take k).flatMap fun x=>chInps c x.m) =(K',outs)∧CluOk c K' (N+outs.length)∧outs.length≤65*k∧ChsG w.heap.size wk (.slice a2 l.length c2) l∧Off (chsF (.slice a2 l.length c2) l) (fdU G' s5)) (fun _ s29 _=>l.length-(RowKit.intOf s29).toNat)
 case atStart=>exact⟨0,G1,K1,[],zl_ _,rfl,HD0.out,rfl,HOk.out,zl_ _,HC2.out,HofC.out⟩
 case round=>
  clear HD0 HC2 HofC;obtain⟨k,G',K',outs,hk,rfl,hD,hE,hO,hol,hCh,hOf⟩:=hrel
  by_cases hlt:k<l.length
  ·obtain⟨gc,cc,hv,_,hgc,_,hcc,_⟩:=hCh.own.at_ Kc_ hlt
   cases hv;have c0:=hcc 0 _ rfl;have c1':=hcc 1 _ rfl;rw[Nat.add_zero] at c0;have hxR:=(hCh.all _ (mg_ hlt)).1;have hxlo:=(hCh.all _ (mg_ hlt)).2.1;have hxok:=hsc (l[k]).m (by rw[←Hm.out];exact List.mem_map_of_mem (mg_ hlt))
   have hbl0 :(l[k]).m.body.length≤1000000:=by have:=hxok.len;omega
   have hxF:∀i,ownF (l[k]).vb i→chsF (.slice (some ⟨gc,0,none⟩) l.length c2) l i:=fun i hi=>.inr ⟨_,mg_ hlt,hi⟩
   have HT:=hh_ (show(l.take (k+1)).flatMap (fun x=>chInps c x.m) =(l.take k).flatMap (fun x=>chInps c x.m)++chInps c (l[k]).m by rw[tg_ hlt,List.flatMap_append];simp);obtain⟨hil,hio⟩:=G5_ (c:=c) hxok;have HD:=hh_ hD;have HCh:=hh_ hCh;have HOf:=hh_ hOf;have HE:=hh_ hE;have HO:=hh_ hO;have HIO:=hh_ hio;obtain⟨xa,xc,hxv⟩:=Own.shape hxR
   have hxcap :(l[k]).m.body.length≤xc:=by have:=hxR;unfold ChRd at this;rw[hxv] at this;exact this.cap
   have HXR:=hh_ (show Own byF 1 5 0 wr (.slice xa (l[k]).m.body.length xc) (l[k]).m.body by rw[←hxv];exact hxR);rw[hxv] at c0
   have hklt :(k:Int)<(l.length:Int):=by omega
   clear hcc hxR hxlo hD hE hO hCh hOf hio hxF hxok;generalize (l[k]).m=xm at *;clear hxv
   go_upto_region 8 with fail
   have A3:Blk ((wr.alloc (.cells #[.slice xa xm.body.length xc,.int .i64 xm.ver] 112)).alloc (.cells #[.string ⟨#[]⟩,.int .i64 0,.int .u64 0,.int .i64 xm.ver] 114)) wr.heap.size #[.slice xa xm.body.length xc,.int .i64 xm.ver]:=(Blk.new wr _ _).same (ga_ _ _ none)
   have I3:Own inpF 4 114 wr.heap.size ((wr.alloc (.cells #[.slice xa xm.body.length xc,.int .i64 xm.ver] 112)).alloc (.cells #[.string ⟨#[]⟩,.int .i64 0,.int .u64 0,.int .i64 xm.ver] 114)) (.slice (some ⟨wr.heap.size+1,0,none⟩) 1 1) [⟨itZ,xm.ver⟩]:=by
    have:=Mt_ (wr.alloc (.cells #[.slice xa xm.body.length xc,.int .i64 xm.ver] 112)) ⟨itZ,xm.ver⟩
    have e :(wr.alloc (.cells #[.slice xa xm.body.length xc,.int .i64 xm.ver] 112)).heap.size=wr.heap.size+1:=by simp
    rw[e] at this
    exact this.base fun q hq=>by have:=(this.lt q hq).1;omega
   have G3:wr.grownBy ((wr.alloc (.cells #[.slice xa xm.body.length xc,.int .i64 xm.ver] 112)).alloc (.cells #[.string ⟨#[]⟩,.int .i64 0,.int .u64 0,.int .i64 xm.ver] 114)) none:=Aa_ (ga_ _ _ none) (ga_ _ _ none);have HI3:=hh_ I3;clear I3;generalize (wr.alloc (.cells #[.slice xa xm.body.length xc,.int .i64 xm.ver] 112)).alloc (.cells #[.string ⟨#[]⟩,.int .i64 0,.int .u64 0,.int .i64 xm.ver] 114)=w4 at *;have a3:=A3.cell
   go_upto_if 39 with fail
   go_cut [9,40,41,42,43,44,45,46,47] (fun s9 _ _ _ _ _ _ _ _ wx=>∃li,li=chInps c xm∧Own inpF 4 114 wr.heap.size wx s9 li∧wr.grownBy wx none)
   case first=>
    by_cases hv:xm.ver=0
    ·have HCi:=hh_ (show chInps c xm=inputsF c.Key xm.body from if_pos hv)
     have hv1 :(xm.ver==0)=true:=by simp[hv]
     go_upto_region 9 with fail
     have KN:World.grownBy w4 w4.drew none:=gw_;have HX:=hh_ (A3.same KN);have HR:=hh_ (HD.out.clu.same (Aa_ G3 KN));have HXR2:=hh_ (HXR.out.same (Aa_ G3 KN));have hky:=HC.out.nums.key;have hgg:=HD.out.g;have K6:=hh_ (Aa_ G3 KN);clear a3 A3 KN
     (refine rn_ 9 (fun j _ w v w'=>match j with | 7=>Own inpF 4 114 w.heap.size w' v (inputsF c.Key xm.body)∧World.grownBy w w' none | _=>False) ?_;simp only[ts_])
     generalize w4.drew=w6 at *
     (refine tq_ 1 ?_;(repeat(go_big_quiet_step (fail)));refine wn_ ?_)
     (refine to_ ?_;intro x1 mx1 dx1)
     clear dx1;have bx:=(HX.out.same mx1).cell
     go_wp2_with fail
     refine⟨Ab_ _ _,?_⟩;clear bx
     (refine tq_ 4 ?_;(repeat(go_big_quiet_step (fail)));refine wn_ ?_)
     (refine to_ ?_;intro x6 mx6 dx6)
     clear dx6;have bx:=(HR.out.same mx6).blk.cell;rw[hgg] at bx
     go_wp2_with fail
     refine⟨Ab_ _ _,?_⟩;clear bx
     (refine tc_ ?_;intro x7 mx7 dx7;refine⟨?_,?_⟩;· (unfold Rg.callSpec;go_simp;(refine(X9_ _ xm.body c.Key x7 (HXR2.out.same mx7).rd (fun a n c e=>by cases e;exact hxcap) hbl0 (by omega)).mono ?_;rintro e w' ⟨vz,rfl,oz,gz⟩;exact⟨vz,rfl,oz,gz⟩)))
     clear dx7;rintro v7 y7 ⟨o7,g7⟩;have hsx:=mx7.size;refine⟨g7,?_⟩;simp only[pt_]
     (refine tq_ 1 ?_;(repeat(go_big_quiet_step (fail)));refine wn_ ?_)
     (refine Rg.tree_nil ?_;intro z mz dz cz)
     have OZ:=o7.same (dz.out 7 (by omega));have hk6:=K6.out.size
     go_wp2_with fail
     go_meet
     exact⟨_,HCi.out.symm,OZ.base fun q hq=>by have:=(OZ.lt q hq).1;omega,Aa_ K6.out mz⟩
    ·have hv1 :(xm.ver==0)=false:=by simp[hv]
     have HCi:=hh_ (show chInps c xm=[⟨itZ,xm.ver⟩] from if_neg hv);clear hv
     go_wp2_with fail
     go_meet
     exact⟨_,HCi.out.symm,HI3.out,G3⟩
   case rest=>
    obtain⟨li,hli,oI,gI⟩:=hcut
    rename_i hKx
    refine hKx _ _ ?_;clear hKx;have D4:=HD.out.same gI;have C4:=HCh.out.same chK gI
    have hlowU:Low wr (fdU G' u5):=fun i hi=>hi.elim (HD.out.clu.low i) (HD.out.out.low i)
    have oF4:Off (ownF u9) (fdU G' u5):=fun i hi hf=>by have:=(oI.lt i hi).1;have:=hlowU i hf;omega
    obtain⟨ia,ic,rfl⟩:=oI.shape;have HD4:=hh_ D4;have HC4:=hh_ C4;have HI4:=hh_ oI.zero;have HF4:=hh_ oF4;rw[←hli] at hil HIO HT;obtain⟨DN,hDN⟩:∃DN,(l.take k).flatMap (fun x=>chInps c x.m)=DN:=⟨_,rfl⟩;rw[hDN] at HE HT;have HDN:=hh_ hDN;clear D4 C4 oF4 oI hlowU gI A3 a3 G3 HI3 HXR c0 c1' hxcap hbl0 hli hDN HD HCh
    go_upto_region 11 with fail
    go_loopw [5,50] (fun s5 s50 wk=>∃(j:Nat) (G2:RcG) (K2:CluM) (outs2:List Int),j≤li.length∧s50=.int .i64 j∧FdS w G c t wk G2 K2 s5 outs2∧inpsK c t K1 (DN++li.take j) =(K2,outs2)∧CluOk c K2 (N+outs2.length)∧outs2.length≤65*k+j∧ChsG w.heap.size wk (.slice (some ⟨gc,0,none⟩) l.length c2) l∧Off (chsF (.slice (some ⟨gc,0,none⟩) l.length c2) l) (fdU G2 s5)∧Own inpF 4 114 0 wk (.slice ia li.length ic) li∧Off (ownF (.slice ia li.length ic)) (fdU G2 s5)) (fun _ s50 _=>li.length-(RowKit.intOf s50).toNat)
    case atStart=>exact⟨0,G',K',outs,zl_ _,rfl,HD4.out,by simpa using HE.out,HO.out,by omega,HC4.out,HOf.out,HI4.out,HF4.out⟩
    case round=>
     clear HD4 HC4 HI4 HF4 HE HO HOf;obtain⟨j,G2,K2,outs2,hj,rfl,hD,hE,hO,hol2,hCh,hOf,hIn,hIf⟩:=hrel
     by_cases hjl:j<li.length
     ·obtain⟨gi,ci,hvi,_,hgi,_,hci,_⟩:=hIn.at_ Ec_ hjl
      cases hvi;have e0:=hci 0 _ rfl;have e1:=hci 1 _ rfl;have e2:=hci 2 _ rfl;have e3:=hci 3 _ rfl;rw[Nat.add_zero] at e0;have hyok:=HIO.out _ (mg_ hjl);have HTj:=hh_ (show DN++li.take (j+1) =(DN++li.take j)++[li[j]] by rw[tg_ hjl,List.append_assoc])
      have hjlt :(j:Int)<(li.length:Int):=by omega
      generalize li[j]=y at *
      have hlowU:Low wr (fdU G2 u5):=fun i hi=>hi.elim (hD.clu.low i) (hD.out.low i)
      have gA:=ga_ wr (.cells #[.string y.it.key,.int .i64 y.it.time,.int .u64 y.it.weight,.int .i64 y.ver] 114) none;have R5:FdR (wr.alloc (.cells #[.string y.it.key,.int .i64 y.it.time,.int .u64 y.it.weight,.int .i64 y.ver] 114)) (fdU G2 u5) w.heap.size (.slice (some ⟨gc,0,none⟩) l.length c2) l (.slice (some ⟨gi,0,none⟩) li.length ic) li wr.heap.size y:=⟨hCh.same chK gA,hOf,hIn.same gA,hIf,Blk.new wr _ _,fun hf=>Nat.lt_irrefl _ (hlowU _ hf)⟩;have D5:=hD.same gA;have HR5:=hh_ R5;have HD5:=hh_ D5;have HE:=hh_ hE;have HO:=hh_ hO;have HY:=hh_ hyok;clear hD hE hCh hOf hIn hIf hci R5 D5 gA hlowU hyok
      go_upto_region 13 with fail
      generalize wr.alloc _=w5 at *;generalize wr.heap.size=by' at *;clear e0 e1 e2 e3;have hgg:=HD5.out.g;have CJ:=Xp_ G2 c t K2 y w5 HD5.out.clu HD5.out.cfg hO.len ⟨hO.acc.1,by have:=hO.acc.2;omega⟩ ⟨HY.out.time,⟨by have:=HY.out.weight;omega,by have:=HY.out.weight;omega⟩,by have:=HY.out.size;omega⟩;rw[hgg] at CJ;unfold Sb_ at CJ;have hVs:=hh_ (show ∀V Sx,judgeV c t K2 y =(V,Sx)→V≠0→inpK c t K2 y =({ K2 with rej:=rejR K2.rej V },V) from fun V Sx e h=>by have:=P5_ (c:=c) (t:=t) (K:=K2) (x:=y) (by rw[e];exact h);rw[e] at this;exact this)
      have hVa:=hh_ (show ∀V Sx,judgeV c t K2 y =(V,Sx)→V=0→(y.ver=0∧fitsB (ldAt K2.led (winV c y.it.time)) y.it.weight=true∧qLen K2 Sx≠c.Queue∧Sx=routeF c t y.it.key K2.acc)∧inpK c t K2 y =({ K2 with led:=ldPut K2.led (winV c y.it.time) y.it.weight,acc:=K2.acc+1,sh:=K2.sh.set Sx.toNat (pushS ((K2.sh[Sx.toNat]?).getD ⟨[],[]⟩) (winV c y.it.time) y.it),items:=K2.items++[y.it] },0) from fun V Sx e h=>by
       have h0 :(judgeV c t K2 y).1=0:=by rw[e];exact h
       obtain⟨b1,b2,b3,b4,b5⟩:=Hz_ h0;rw[e] at b5;have b5':Sx=routeF c t y.it.key K2.acc:=b5
       exact⟨⟨b1,b3,by rw[b5'];exact b4,b5'⟩,by rw[Py_ h0,←b5']⟩)
      obtain⟨V,Sx,hJ⟩:∃V Sx,judgeV c t K2 y =(V,Sx):=⟨_,_,rfl⟩;rw[hJ] at CJ;dsimp only at CJ;have CJ:=hh_ CJ;have HSn:=hh_ (show inpsK c t K1 (DN++li.take (j+1)) =((inpK c t K2 y).1,outs2++[(inpK c t K2 y).2]) by rw[HTj.out,Fz_,HE.out]);have HOn:=hh_ (Tv_ (t:=t) HC.out.nums hO HY.out)
      have hb3 :(outs2.length+1)*8≤140737488355328:=by omega
      have hb4:outs2.length+1≤9223372036854775807:=by omega
      have a5:=HR5.out.box.cell;have HOd:=hh_ hO;clear hO
      go_upto_region 14 with(go_at_call 48;refine CJ.out.mono ?_;rintro e w6 ⟨rfl,g6⟩)
      have D6:=HD5.out.same g6;have HR6:=hh_ (HR5.out.same g6);have hos:=HD5.out.out.lt;obtain⟨va,vcp,rfl⟩:=D6.out.shape;have hbase:w.heap.size≤w6.heap.size:=D6.mov.size;have HD6:=hh_ D6;have Hcs:=hh_ (show(#[Value.int .i64 V]:Array Value).toList=intF V from rfl);clear a5 HR5 HD5 g6 D6 CJ hos
      go_upto_region 15 with(at_builtin;refine A6_ Bv_ Bw_ A8_ HD6.out.out V hb3 hb4 hbase Hcs.out (by rfl) _ _ (by rfl) (by rfl) (by rfl) ?_;intro v7 w7 o7 g7 l7;obtain⟨a7,c7,rfl⟩:=o7.shape)
      obtain⟨D7,M7⟩:=HD6.out.app o7 g7 l7;have R7:=HR6.out.mov M7;simp only[la_,ls_] at D7 R7;have HD7:=hh_ D7;have HR7:=hh_ R7;clear o7 g7 l7 D7 R7 M7 HD6 HR6 hbase hb3 hb4
      by_cases hV:V=0
      ·obtain⟨⟨hv0,hfit,hq,hsx⟩,hin⟩:=hVa.out V Sx hJ hV
       subst hV;rw[hin] at HSn HOn;obtain⟨hw1,TL,ht1,ht2,ht3⟩:=HY.out.good hv0;have hkey:0<y.it.key.size∧y.it.key.size≤255:=⟨by rw[ht2];exact Ph_ ht1,HY.out.size⟩;have hw64:W64 y.it.weight:=⟨by omega,by have:=HY.out.weight;omega⟩;have hwb:=M0_ c y.it.time;have HO2:=HOd.out
       have hil2:Sx.toNat<K2.sh.length:=by
        have h1:=Gq_ (t:=t) (k:=y.it.key) HC.out.nums.shards.1 HC.out.nums.spread.1 K2.acc HO2.acc.1;have h2:=HO2.len;rw[←hsx] at h1
        omega
       have hSx0:0≤Sx∧Sx<c.Shards:=by
        have h1:=Gq_ (t:=t) (k:=y.it.key) HC.out.nums.shards.1 HC.out.nums.spread.1 K2.acc HO2.acc.1;rw[←hsx] at h1;exact h1.2
       have hS2:K2.sh[Sx.toNat]?=some K2.sh[Sx.toNat]:=gq_ hil2
       have hqS :((K2.sh[Sx.toNat]).queue.length:Int)<c.Queue:=by
        have h1:=(HO2.sh _ (mg_ hil2)).1.queue
        have h2:qLen K2 Sx =((K2.sh[Sx.toNat]).queue.length:Int):=by unfold qLen;rw[hS2];rfl
        rw[h2] at hq
        omega
       have hQ1:c.Queue≤1000:=by have:=HC.out.nums.queue;omega
       have hled:K2.led.length<1000000000:=by have:=HO2.led;omega
       have hacc2:0≤K2.acc∧K2.acc<1000000000:=⟨HO2.acc.1,by have:=HO2.acc.2;omega⟩
       have hit2:K2.items.length<1000000000:=by have:=HO2.items;omega
       have HWn:=hh_ (show ∀z,Calls Tryz.prog 50 #[c.val,.int .i64 y.it.time] z (fun e w'=>e=.returned (.int .i64 (winV c y.it.time))∧z.grownBy w' none) from fun z=>P7_ c y.it.time z);rw[hS2] at HSn HOn;simp only[Option.getD_some] at HSn HOn;have HS2:=hh_ hS2;obtain⟨Wn,hWn⟩:∃v,winV c y.it.time=v:=⟨_,rfl⟩;rw[hWn] at HWn HSn HOn hfit hwb;clear hin hVs hVa hWn HO2 hq hS2 hJ HOd hsx ht1 ht2 ht3 hv0 hw1;generalize K2.sh[Sx.toNat]=S2 at *
       go_upto_region 17 with fail
       have KN:World.grownBy w7 w7.drew none:=gw_;have HDz:=hh_ (HD7.out.same KN);have HRz:=hh_ (HR7.out.same KN);have HX:=hh_ (HRz.out.box);have HR:=hh_ (HDz.out.clu);clear KN HD7 HR7
       (refine rn_ 9 (fun j _ w v w'=>match j with | 7=>v=.int .i64 Wn∧World.grownBy w w' none | _=>False) ?_;simp only[ts_])
       generalize w7.drew=w8 at *
       (refine tq_ 3 ?_;(repeat(go_big_quiet_step (fail)));refine wn_ ?_)
       (refine to_ ?_;intro x3 mx3 dx3)
       clear dx3;have BX:=(HR.out.same mx3).cfgIn;rw[hgg] at BX
       go_wp2_with (refine Bn_ rfl _ rfl _ rfl c BX ?_)
       refine⟨Ab_ _ _,?_⟩;clear BX
       (refine tq_ 2 ?_;(repeat(go_big_quiet_step (fail)));refine wn_ ?_)
       (refine to_ ?_;intro x6 mx6 dx6)
       clear dx6;have bx:=(HX.out.same mx6).cell
       go_wp2_with fail
       refine⟨Ab_ _ _,?_⟩;clear bx
       (refine tc_ ?_;intro x7 mx7 dx7;refine⟨?_,?_⟩;· (unfold Rg.callSpec;go_simp;(refine(HWn.out x7).mono ?_;rintro e w' ⟨rfl,g⟩;exact⟨_,rfl,rfl,g⟩)))
       clear dx7;rintro vx7 yx7 ⟨rfl,gx7⟩;refine⟨gx7,?_⟩;clear gx7;simp only[pt_]
       (refine tq_ 1 ?_;(repeat(go_big_quiet_step (fail)));refine wn_ ?_)
       (refine Rg.tree_nil ?_;intro z1 mz1 dz1 cz1)
       have HD8:=hh_ (HDz.out.same mz1);have HR8:=hh_ (HRz.out.same mz1);clear mx3 mx6 mx7 mz1 dz1 cz1 HX HR HDz HRz HWn
       go_upto_region 18 with fail
       have KN:World.grownBy z1 z1.drew none:=gw_;have HDz:=hh_ (HD8.out.same KN);have HRz:=hh_ (HR8.out.same KN);have HX:=hh_ (HRz.out.box);have HR:=hh_ (HDz.out.clu);clear KN HD8 HR8
       (refine rn_ 8 (fun _ _ _ _ _=>False) ?_;simp only[ts_])
       generalize z1.drew=w9 at *
       (refine tq_ 3 ?_;(repeat(go_big_quiet_step (fail)));refine wn_ ?_)
       (refine to_ ?_;intro x3 mx3 dx3)
       clear dx3;have bx:=(HR.out.same mx3).blk.cell;rw[hgg] at bx
       go_wp2_with fail
       refine⟨Ab_ _ _,?_⟩;clear bx
       (refine tq_ 3 ?_;(repeat(go_big_quiet_step (fail)));refine wn_ ?_)
       (refine to_ ?_;intro x7 mx7 dx7)
       clear dx7;have bx:=(HX.out.same mx7).cell
       go_wp2_with fail
       refine⟨Ab_ _ _,?_⟩;clear bx
       (refine Rg.tree_nil ?_;intro z2 mz2 dz2 cz2)
       have D9:=HDz.out.same mz2;have HD9:=hh_ D9;have HR9:=hh_ (HRz.out.same mz2);have CA:=hh_ (Tq_ D9.clu Wn y.it.weight ⟨by omega,by omega⟩ hw64 hled hacc2 hfit);clear mx3 mx7 mz2 dz2 cz2 HX HR HDz HRz D9
       go_upto_region 19 with(go_at_call 51;refine CA.out.mono ?_;rintro e wA ⟨rfl,F',RA,MA⟩)
       obtain⟨DA,MA2⟩:=HD9.out.step RA MA rfl rfl rfl rfl;have KN:World.grownBy wA wA.drew none:=gw_;have HDz:=hh_ (DA.same KN);have HRz:=hh_ ((HR9.out.mov MA2).same KN);clear KN DA MA2 RA MA CA HD9 HR9;have HX:=hh_ (HRz.out.box);have HR:=hh_ (HDz.out.clu);have hgg2 :({ G2 with LF:=F' }:RcG).g=G.g:=hgg;obtain⟨G3,hG3⟩:∃G3:RcG,{ G2 with LF:=F' }=G3:=⟨_,rfl⟩;rw[hG3] at HDz HRz HR hgg2;obtain⟨K3,hK3⟩:∃K3:CluM,{ K2 with led:=ldPut K2.led Wn y.it.weight,acc:=K2.acc+1 }=K3:=⟨_,rfl⟩
       have hS3:K3.sh[Sx.toNat]?=some S2:=by rw[←hK3];exact HS2.out
       have hK3i:K3.items=K2.items:=by rw[←hK3]
       rw[hK3] at HDz HR;have HK3:=hh_ hK3
       have hgl3:Sx.toNat<G3.sh.length:=by have h1:=HR.out.core.len;have h2:=(gs_ hS3).1;omega
       have hs3:G3.sh[Sx.toNat]?=some G3.sh[Sx.toNat]:=gq_ hgl3;obtain⟨ga,ca,hva,_,hga,_,hca,_⟩:=HR.out.core.sp.at_ Cb_ (i:=Sx.toNat) (by simpa using hgl3);have hc0:=hca 0 _ rfl;rw[Nat.mul_one,Nat.add_zero,List.getElem_map] at hc0;rw[List.length_map] at hva;have hc0:=hh_ hc0
       have hslt:Sx<(G3.sh.length:Int):=by omega
       have hs0:0≤Sx:=hSx0.1
       have CP:=hh_ fun z (k:wA.drew.grownBy z none)=>cq_ (HR.out.same k) hs3 hS3 Wn y.it hqS hQ1 hkey
       have HS3:=hh_ hs3;clear hG3 hK3 hca hs3 hS3;generalize G3.sh[Sx.toNat]=s3 at *
       (refine rn_ 10 (fun _ _ _ _ _=>False) ?_;simp only[ts_])
       generalize wA.drew=wB at *
       (refine tq_ 3 ?_;(repeat(go_big_quiet_step (fail)));refine wn_ ?_)
       (refine to_ ?_;intro x3 mx3 dx3)
       clear dx3;have bx:=(HR.out.same mx3).blk.cell;rw[hgg2,hva] at bx
       go_wp2_with fail
       refine⟨Ab_ _ _,?_⟩;clear bx
       (refine tq_ 2 ?_;(repeat(go_big_quiet_step (fail)));refine wn_ ?_)
       (refine to_ ?_;intro x6 mx6 dx6)
       clear dx6;have bx:=((An_ mx6).1 ga _ hga (by simp)).trans hc0.out
       go_wp2_with fail
       refine⟨Ab_ _ _,?_⟩;clear bx
       (refine tq_ 2 ?_;(repeat(go_big_quiet_step (fail)));refine wn_ ?_)
       (refine to_ ?_;intro x9 mx9 dx9)
       clear dx9;have bx:=(HX.out.same mx9).cell
       go_wp2_with fail
       refine⟨Ab_ _ _,?_⟩;clear bx
       (refine Rg.tree_nil ?_;intro z3 mz3 dz3 cz3)
       have HDB:=hh_ (HDz.out.same mz3);have HRB:=hh_ (HRz.out.same mz3);have CP2:=hh_ (CP.out _ mz3);clear mx3 mx6 mx9 mz3 dz3 cz3 HX HR HDz HRz CP hc0
       go_upto_region 20 with(go_at_call 52;refine CP2.out.mono ?_;rintro e wC ⟨rfl,s4,RC,MC,hgs⟩)
       obtain⟨DC,MC2⟩:=HDB.out.step RC MC rfl rfl rfl (J1_ HS3.out hgs);have RCx:=HRB.out.mov MC2;clear RC MC MC2 CP2 HDB HRB hgs;obtain⟨G4,hG4⟩:∃G4:RcG,{ G3 with sh:=G3.sh.set Sx.toNat s4 }=G4:=⟨_,rfl⟩;obtain⟨K4,hK4⟩:∃K4:CluM,{ K3 with sh:=K3.sh.set Sx.toNat (pushS S2 Wn y.it) }=K4:=⟨_,rfl⟩
       have hg4:G4.g=G.g:=by rw[←hG4];exact hgg2
       have hi4:K4.items=K2.items:=by rw[←hK4];exact hK3i
       rw[hG4] at DC RCx;rw[hK4] at DC;have HK4:=hh_ hK4;clear hG4 hK4 HS3;have KN:World.grownBy wC wC.drew none:=gw_;have HDz:=hh_ (DC.same KN);have HRz:=hh_ (RCx.same KN);clear KN DC RCx;have hr0:=HDz.out.clu.core.off (i:=0) (j:=4) rfl rfl (by omega);obtain⟨ia2,ic2,hvi⟩:=HDz.out.clu.core.it.shape;obtain⟨r,hr⟩:∃r,G4.vi.ownBlock=r:=⟨_,rfl⟩
       have hr1:r≠some G.g:=fun e=>hr0 G4.g rfl (by show G4.vi.ownBlock=some G4.g;rw[hr,e,hg4])
       have hr2:r≠some by':=fun e=>HRz.out.o3 (.inl (RcG.F_part (j:=4) (P:=ownF G4.vi) rfl by' (by show G4.vi.ownBlock=some by';rw[hr,e])))
       have Hr:=hh_ hr;have HI:=hh_ HDz.out.clu.core.it;have HB:=hh_ HDz.out.clu.blk;have HX:=hh_ HRz.out.box
       have hb1 :(K4.items.length+[y.it].length)*32≤140737488355328:=by rw[hi4];simp;omega
       have hb2:K4.items.length+[y.it].length≤9223372036854775807:=by rw[hi4];simp;omega
       have Hi4:=hh_ hi4;have Hvi:=hh_ hvi;clear hr0 hr hi4 hvi
       (refine Rg.wp_region_rgZ 11 #[] (KeepR itF 3 41 0 (fun T=>T=K4.items∨T=K4.items++[y.it]) r) (fun _ _ _ _ _=>False) (by kernel_rfl) (by kernel_rfl) (KeepR.refl _ _ _ _ _ _) (fun _ _ _ h k=>h.trans k) (fun _ _ _ _ _ h=>h) ?_;simp only[List.take,List.drop])
       generalize wC.drew=wd at *
       (refine tq_ 4 ?_;(repeat(go_big_quiet_step (fail)));refine wn_ ?_)
       (refine to_ ?_;intro y4 my4 dy4)
       clear dy4;have bx:=(my4.blk HB.out (by rw[hg4];exact hr1)).cell;rw[hg4,Hvi.out] at bx
       go_wp2_with fail
       refine⟨KeepR.refl _ _ _ _ _ _ _,?_⟩;clear bx
       (refine tq_ 1 ?_;(repeat(go_big_quiet_step (fail)));refine wn_ ?_)
       (refine to_ ?_;intro y6 my6 dy6)
       clear dy6;have bx:=(my6.blk HX.out hr2).cell
       go_wp2_with fail
       refine⟨KeepR.refl _ _ _ _ _ _ _,?_⟩;clear bx
       (refine to_ ?_;intro y7 my7 dy7)
       clear dy7
       go_wp2_with fail
       refine⟨KeepR.of (ga_ _ _ _),?_⟩;have N7:=Blk.new y7 #[.string y.it.key,.int .i64 y.it.time,.int .u64 y.it.weight] 41;have hy7:=my7.grown.size;generalize y7.alloc _=e7 at *
       have hg7:r≠some y7.heap.size:=fun e=>by have:=HI.out.lt _ (Hr.out.trans e);omega
       generalize y7.heap.size=g7 at *
       (refine to_ ?_;intro y8 my8 dy8)
       have N8:=((dy8.out 7 (by omega) (by kernel_rfl)).blk N7 hg7).one Dv_ y.it rfl;have O8:=my8.own _ _ (.inl rfl) HI.out;have z8:=my8.grown.size;rw[Hvi.out] at O8;clear dy8 N7
       go_wp2_with (at_builtin;refine H0_ (P:=fun T=>T=K4.items∨T=K4.items++[y.it]) Pg_ Ui_ Dv_ O8 N8 rfl hb1 hb2 (zl_ _) (fun T e=>e.elim (fun e=>.inl (by rw[e];exact le_ _)) (fun e=>.inr (.inl (by rw[e];exact List.prefix_refl _)))) (by rfl) _ _ (by rfl) (by rfl) (by rfl) ?_;intro v8 e8 o8 k8 l8;have Hk8:=hh_ k8;clear k8)
       rw[←Hvi.out] at Hk8 l8;rw[Hr.out] at Hk8;refine⟨Hk8.out,?_⟩
       have L8:Lies G4.vi v8 wd.heap.size:=l8.imp id fun⟨m,e1,e2⟩=>⟨m,e1,lt_ z8 e2⟩
       obtain⟨a8,c8,rfl⟩:=o8.shape
       (refine tq_ 2 ?_;(repeat(go_big_quiet_step (fail)));refine wn_ ?_)
       (refine Rg.tree_nil ?_;intro z4 mz4 dz4 cz4)
       have OZ:=(dz4.out 8 (by omega)).own _ _ (.inr rfl) o8;obtain⟨BZ,RZ,MZ⟩:=HDz.out.clu.setI OZ (by rw[Hr.out];exact mz4.grown) L8;have bz:=BZ.cell;have bf:=BZ.free;obtain⟨DZ,MZ2⟩:=HDz.out.step RZ MZ rfl rfl rfl rfl;have RZx:=HRz.out.mov MZ2;rw[hg4] at bz bf DZ RZx;have HZ:=hh_ (And.intro DZ RZx);clear dz4 cz4 mz4 my4 my6 my7 my8 Hk8 o8 O8 N8 l8 L8 OZ BZ RZ MZ DZ MZ2 RZx HB HX HI HDz HRz
       go_wp2_with fail
       obtain⟨DE,RE⟩:=HZ.out
       have eK :({ K4 with items:=K4.items++[y.it] }:CluM)={ K2 with led:=ldPut K2.led Wn y.it.weight,acc:=K2.acc+1,sh:=K2.sh.set Sx.toNat (pushS S2 Wn y.it),items:=K2.items++[y.it] }:=by rw[←HK4.out,←HK3.out]
       rw[eK] at DE
       have hol3 :(outs2++[(0:Int)]).length=outs2.length+1:=by simp
       simp only[la_,ls_] at DE RE;refine⟨⟨j+1,_,_,outs2++[0],by omega,by go_num,DE,HSn.out,by have:=HOn.out;rw[hol3];simpa [Nat.add_assoc] using this,by simp;omega,RE.chs,RE.o1,RE.inp,RE.o2⟩,by simp[RowKit.intOf];omega⟩
      ·have hV1 :(V==0)=false:=by simp[hV]
       have hV2 :(V != 0)=true:=by simp[hV]
       have hin:=hVs.out V Sx hJ hV;rw[hin] at HSn HOn;have CR:=hh_ (Tu_ HD7.out.clu V);have b7:=HD7.out.clu.blk.cell;rw[hgg] at b7;clear hV hin hJ hVs hVa
       go_wp2_with (go_at_call 49;refine CR.out.mono ?_;rintro e w8 ⟨rfl,F',R8,M8⟩)
       obtain⟨D9,M9⟩:=HD7.out.step R8 M8 rfl rfl rfl rfl;have R9:=HR7.out.mov M9;exact⟨⟨j+1,_,_,outs2++[V],by omega,by go_num,D9,by rw[HSn.out],by have:=HOn.out;simpa [Nat.add_assoc] using this,by simp;omega,R9.chs,R9.o1,R9.inp,R9.o2⟩,by simp[RowKit.intOf];omega⟩
     ·have hje:j=li.length:=by omega
      subst hje;rw[tk_ (le_ _),←HT.out] at hE;have HE2:=hh_ hE;have HO2:=hh_ hO;have HD2:=hh_ hD;have HC2:=hh_ hCh;have HF2:=hh_ hOf;clear hE hO hD hCh hOf hIn hIf HT
      go_wp2_with fail
      exact⟨⟨k+1,_,_,outs2,by omega,by go_num,HD2.out,HE2.out,HO2.out,by omega,HC2.out,HF2.out⟩,by simp[RowKit.intOf];omega⟩
  ·have hke:k=l.length:=by omega
   subst hke;rw[tk_ (le_ _),←List.flatMap_map] at hE;rw[Hm.out] at hE;have HE:=hh_ (HFK.out.trans hE);have HD:=hh_ hD;clear hE hD hO hCh hOf
   go_wp2_with fail
   go_ret
   exact⟨_,_,rfl,by rw[HE.out];exact HD.out⟩
end
section
open Go.RowKit
attribute [local go_sem ↓] Ag_
attribute [local go_sem] Ah_
section
variable {B b bc br bs:Nat} {c:Cfg} {w0 w w':World} {tot un:Int} {ve vr:Value}
end
end
section
open Go.RowKit
attribute [local go_sem ↓] Ag_
attribute [local go_sem] Ah_
end
section
open Go.RowKit
attribute [local go_sem ↓] Ag_
attribute [local go_sem] Ah_
end
section
open Go.RowKit
attribute [local go_sem ↓] Ag_
attribute [local go_sem] Ah_
def D1_ (c:Cfg) (l:List Summ):Int:=fstN (l.map (sumErr c.Depth c.Width))
def mergeErr (c:Cfg) (l:List Summ):Int:=if (l.length:Int)≠c.Shards then 11 else if D1_ c l≠0 then D1_ c l else if 9223372036854775808<totalF l then 12 else 0
theorem c2_ {c:Cfg} {l:List Summ} {j:Nat} (hj:j<l.length) (h:∀i,(hi:i<l.length)→i<j→sumErr c.Depth c.Width l[i]=0) (h2:sumErr c.Depth c.Width l[j]≠0):D1_ c l=sumErr c.Depth c.Width l[j]:=by
 unfold D1_;rw[Oc_ (j:=j) (by simpa using hj) (fun i hi hij=>by simpa using h i (by simpa using hi) hij) (by simpa using h2)]
 simp
theorem a8_ {c:Cfg} {l:List Summ} (h:∀i,(hi:i<l.length)→sumErr c.Depth c.Width l[i]=0):D1_ c l=0:=N0_ fun i hi=>by simpa using h i (by simpa using hi)
def Dz_ (l:List Summ):Prop:=∀s∈l,SumSmall s
end
section
open Go.RowKit
theorem CfgMem.one1 {c:Cfg} {l:List (Int×Int)} {t:List Int} {w:World} (h:CfgMem c l t w):c.Classes.oneCell'=true:=by obtain⟨a,cap,hv⟩:=h.classes.shape;rw[hv];rfl
theorem CfgMem.one2 {c:Cfg} {l:List (Int×Int)} {t:List Int} {w:World} (h:CfgMem c l t w):c.Table.oneCell'=true:=by obtain⟨a,cap,hv⟩:=h.table.shape;rw[hv];rfl
end
section
open Go.RowKit
attribute [local go_sem ↓] Ag_
attribute [local go_sem] Ah_
def uAt (l:List Summ) (i:Int):Int:=((l[i.toNat]?).map (·.untr)).getD 0
def uF (l:List Summ) (is:List Int):Int:=is.foldl (fun a i=>satA a (uAt l i)) 0
theorem b0_ (l:List Summ) (is:List Int) (i:Int):uF l (is++[i])=satA (uF l is) (uAt l i):=by simp[uF]
theorem d4_ {l:List Summ} {n:Nat} (h:n<l.length):uAt l n=l[n].untr:=by simp[uAt,gq_ h]
def restI (m:Int) (n:Nat) (l:List Summ) (k:Nat):Int:=(F5_ k).foldl (fun x h=>max x (uF l (setN h m n))) 0
theorem I6_ (m:Int) (n:Nat) (l:List Summ) (k:Nat):restI m n l (k+1)=max (restI m n l k) (uF l (setN k m n)):=by simp[restI,G6_]
def restF (c:Cfg) (l:List Summ):Int:=if mergeErr c l≠0 then 0 else restI c.Shards c.Spread.toNat l c.Shards.toNat
theorem Ua_ {c:Cfg} {l:List Summ} (h:mergeErr c l=0) :(l.length:Int)=c.Shards:=by
 unfold mergeErr at h
 by_cases e :(l.length:Int)≠c.Shards
 ·rw[if_pos e] at h;cases h
 ·omega
end
section
open Go.RowKit
theorem Jc_:∀{l l':List Ap_},l.Pairwise (·<·)→l'.Pairwise (·<·)→(∀x,x∈l↔x∈l')→l=l'
 | [],[],_,_,_=>rfl
 | [],b::_,_,_,h=>by have:=(h b).2 (by simp);simp at this
 | a::_,[],_,_,h=>by have:=(h a).1 (by simp);simp at this
 | a::l,b::l',h1,h2,h=>by
  obtain⟨h3,h4⟩:=List.pairwise_cons.1 h1;obtain⟨h5,h6⟩:=List.pairwise_cons.1 h2
  have hab:a=b:=by
   rcases List.mem_cons.1 ((h a).1 (by simp)) with e|e
   ·exact e
   ·rcases List.mem_cons.1 ((h b).2 (by simp)) with e'|e'
    ·exact e'.symm
    ·exact absurd (Dh_ (h3 b e') (h5 a e)) (Cj_ _)
  subst hab
  congr 1
  refine Jc_ h4 h6 fun x=>?_
  have hx:=h x;simp only[List.mem_cons] at hx
  constructor
  ·intro hm
   rcases hx.1 (.inr hm) with e|e
   ·subst e;exact absurd (h3 x hm) (Cj_ _)
   ·exact e
  ·intro hm
   rcases hx.2 (.inr hm) with e|e
   ·subst e;exact absurd (h5 x hm) (Cj_ _)
   ·exact e
open Go.Lib in
theorem G8_ (d:Array Ap_) (hs:∀i j,i<j→j<d.size→d[i]!≤d[j]!):∀m,m≤d.size →
  (compactUpTo d m).Pairwise (·<·)∧(∀x∈compactUpTo d m,∃j,j<m∧x=d[j]!)∧∀j,j<m→d[j]!∈compactUpTo d m
 | 0,_=>⟨by simp[compactUpTo],by simp[compactUpTo],by omega⟩
 | m+1,hm=>by
  obtain⟨h1,h2,h3⟩:=G8_ d hs m (by omega);rw[compactUpTo_succ]
  by_cases hk:keeps d m=true
  ·rw[if_pos hk]
   refine⟨List.pairwise_append.2 ⟨h1,by simp,fun x hx y hy=>?_⟩,fun x hx=>?_,fun j hj=>?_⟩
   ·obtain rfl:=ms_ hy
    obtain⟨j,hj,rfl⟩:=h2 x hx
    have hne:d[m]!≠d[m-1]!:=by
     simp only[keeps,decide_eq_true_eq] at hk
     rcases hk with e|e
     ·omega
     ·exact e
    rcases Nat.lt_or_ge j (m-1) with h4|h4
    ·exact b7_ (hs j (m-1) h4 (by omega)) (b_lt (hs (m-1) m (by omega) (by omega)) (Ne.symm hne))
    ·obtain rfl:j=m-1:=by omega
     exact b_lt (hs (m-1) m (by omega) (by omega)) (Ne.symm hne)
   ·rcases ma_ hx with hx|hx
    ·obtain⟨j,hj,e⟩:=h2 x hx;exact⟨j,by omega,e⟩
    ·exact⟨m,by omega,ms_ hx⟩
   ·rcases Nat.lt_or_ge j m with h4|h4
    ·exact List.mem_append_left _ (h3 j h4)
    ·obtain rfl:j=m:=by omega
     exact List.mem_append_right _ (by simp)
  ·rw[if_neg hk,List.append_nil]
   refine⟨h1,fun x hx=>?_,fun j hj=>?_⟩
   ·obtain⟨j,hj,e⟩:=h2 x hx;exact⟨j,by omega,e⟩
   ·rcases Nat.lt_or_ge j m with h4|h4
    ·exact h3 j h4
    ·obtain rfl:j=m:=by omega
     have he:d[j]! = d[j-1]!∧0<j:=by
      simp only[keeps,decide_eq_true_eq,not_or,Decidable.not_not] at hk;exact⟨hk.2,Nat.pos_of_ne_zero hk.1⟩
     rw[he.1];exact h3 (j-1) (by omega)
def keysL (l:List Summ):List Ap_:=l.flatMap fun s=>s.es.map fun e=>e.key.data.toList
def sortL (L:List Ap_):List Ap_:=L.mergeSort fun x y=>decide (x≤y)
def ascF (L:List Ap_):List Ap_:=Lib.compact (sortL L)
theorem M4_ (L:List Ap_) :(ascF L).Pairwise (·<·)∧∀x,x∈ascF L↔x∈L:=by
 have hs :(sortL L).Pairwise fun x y=>decide (x≤y)=true:=List.pairwise_mergeSort (le:=fun x y:Ap_=>decide (x≤y)) (fun a b c h h'=>dt_ (Ql_ (of_decide_eq_true h) (of_decide_eq_true h'))) (fun a b=>by
  rcases b_total a b with h|h <;> simp[h]) L
 have hp :(sortL L).Perm L:=List.mergeSort_perm L _;unfold ascF Lib.compact;generalize sortL L=K at *
 have hd:∀i j,i<j→j<K.toArray.size→K.toArray[i]!≤K.toArray[j]!:=fun i j hij hj=>by
  have hj':j<K.length:=by simpa using hj
  rw[getElem!_pos K.toArray i (by simp;omega),getElem!_pos K.toArray j hj];exact of_decide_eq_true (List.pairwise_iff_getElem.1 hs i j (by omega) hj' hij)
 obtain⟨h1,h2,h3⟩:=G8_ K.toArray hd K.length (by simp);refine⟨h1,fun x=>⟨fun hx=>?_,fun hx=>?_⟩⟩
 ·obtain⟨j,hj,rfl⟩:=h2 x hx
  rw[getElem!_pos K.toArray j (by simpa using hj)];exact hp.mem_iff.1 (by simp)
 ·obtain⟨j,hj,e⟩:=List.mem_iff_getElem.1 (hp.mem_iff.2 hx)
  have:=h3 j hj
  rw[getElem!_pos K.toArray j (by simpa using hj)] at this
  simpa [e] using this
theorem b5_ {L M:List Ap_} (h:M.Pairwise (·<·)) (hm:∀x,x∈M↔x∈L):ascF L=M:=
 Jc_ (M4_ L).1 h fun x=>((M4_ L).2 x).trans (hm x).symm
def lessN (L:List Ap_) (k:Ap_):Nat:=(L.takeWhile fun x=>decide (x<k)).length
def insF (L:List Ap_) (k:Ap_):List Ap_:=if L[lessN L k]?=some k then L else L.take (lessN L k)++[k]++L.drop (lessN L k)
theorem R0_:∀{L:List Ap_} (k:Ap_),L.Pairwise (·<·)→(insF L k).Pairwise (·<·)∧∀x,x∈insF L k↔x=k∨x∈L
 | [],k,_=>by simp[insF,lessN]
 | a::L,k,h=>by
  obtain⟨h1,h2⟩:=List.pairwise_cons.1 h
  by_cases ha:a<k
  ·obtain⟨h3,h4⟩:=R0_ k h2
   have e:insF (a::L) k=a::insF L k:=by
    have hl:lessN (a::L) k=lessN L k+1:=by simp[lessN,ha]
    unfold insF;rw[hl];simp only[List.getElem?_cons_succ,List.take_succ_cons,List.drop_succ_cons]
    split <;> simp
   rw[e];refine⟨List.pairwise_cons.2 ⟨fun x hx=>?_,h3⟩,fun x=>?_⟩
   ·rcases(h4 x).1 hx with e'|e'
    ·exact e'▸ha
    ·exact h1 x e'
   ·simp only[List.mem_cons,h4]
    constructor
    ·rintro(e|e|e)
     ·exact .inr (.inl e)
     ·exact .inl e
     ·exact .inr (.inr e)
    ·rintro(e|e|e)
     ·exact .inr (.inl e)
     ·exact .inl e
     ·exact .inr (.inr e)
  ·have hl:lessN (a::L) k=0:=by simp[lessN,ha]
   unfold insF;rw[hl];simp only[List.getElem?_cons_zero,Option.some.injEq,List.take_zero,List.nil_append,List.drop_zero]
   split
   ·rename_i e
    subst e;exact⟨h,fun x=>by simp⟩
   ·rename_i hne
    have hka:k<a:=b_lt (b_le.2 ha) (Ne.symm hne);refine⟨List.pairwise_cons.2 ⟨fun x hx=>?_,h⟩,fun x=>by simp⟩
    rcases List.mem_cons.1 hx with e|e
    ·exact e▸hka
    ·exact Dh_ hka (h1 x e)
theorem Zh_ (L:List Ap_) (k:Ap_) :(insF L k).length≤L.length+1:=by
 unfold insF
 split
 ·omega
 ·simp;omega
theorem G7_:∀(M L:List Ap_),(M.foldl insF L).length≤M.length+L.length
 | [],L=>by simp
 | k::M,L=>by
  have h1:=G7_ M (insF L k);have h2:=Zh_ L k;simp only[List.foldl_cons,lc_]
  omega
def keysF (l:List Summ):List Ap_:=ascF (keysL l)
theorem W5_ (L:List Ap_):L.foldl insF []=ascF L:=by
 have:∀(L A M:List Ap_),A.Pairwise (·<·)→(∀x,x∈A↔x∈M)→(L.foldl insF A).Pairwise (·<·)∧∀x,x∈L.foldl insF A↔x∈M++L:=by
  intro L
  induction L with
  | nil=>intro A M h hm;exact⟨h,by simpa using hm⟩
  | cons k L ih=>
   intro A M h hm;obtain⟨h1,h2⟩:=R0_ k h
   have:=ih (insF A k) (M++[k]) h1 fun x=>by rw[h2,List.mem_append,List.mem_singleton,hm];exact Or.comm
   simpa using this
 obtain⟨h1,h2⟩:=this L [] [] (by simp) (by simp);exact(b5_ h1 (by simpa using h2)).symm
end
section
open Go.RowKit Go.Sort
def strB (b:Ap_):List Value:=[.string ⟨b.toArray⟩]
theorem Kx_ (b:Ap_) :(strB b).length=1:=rfl
theorem Kj_ (b:Ap_):strB b=[.string ⟨b.toArray⟩]:=rfl
theorem Oj_:OneF strB:=by intro x u hu;simp[strB] at hu;subst hu;rfl
theorem Nq_:Elt 86 9 (.string ⟨#[]⟩) 1 16:=⟨underlying86,by kernel_rfl,rfl,by decide⟩
def entK (e:Ent):Ap_:=e.key.data.toList
theorem Qs_ (l:List Summ) (s:Summ):keysL (l++[s])=keysL l++s.es.map entK:=by simp[keysL,entK]
theorem Jz_ (l:List Summ) (k:Nat) :(keysL (l.take k)).length≤(keysL l).length:=by
 have:keysL l=keysL (l.take k)++keysL (l.drop k):=by unfold keysL;rw[←List.flatMap_append,List.take_append_drop]
 rw[this,la_];omega
end
section
open Go.RowKit
attribute [local go_sem ↓] Ag_
attribute [local go_sem] Ah_
end
section
open Go.RowKit Go.Sort
attribute [local go_sem ↓] Ag_
attribute [local go_sem] Ah_
def bA (b:Ap_):ByteArray:=⟨b.toArray⟩
def lnOf (c:Cfg) (t:List Int) (l:List Summ) (b:Ap_):Ln:=⟨bA b,(lineF c t l (bA b)).1,(lineF c t l (bA b)).2⟩
def allF (c:Cfg) (t:List Int) (l:List Summ):List Ln:=(keysF l).map (lnOf c t l)
theorem Lw_ {l:List Summ} {b:Ap_} (h:b∈keysF l):∃s∈l,∃e∈s.es,b=entK e:=by
 have:=((M4_ _).2 b).1 h
 obtain⟨s,hs,he⟩:=List.mem_flatMap.1 this;obtain⟨e,h1,h2⟩:=List.mem_map.1 he;exact⟨s,hs,e,h1,h2.symm⟩
theorem Hv_ (l:List Summ) :(keysF l).length≤(keysL l).length:=by
 unfold keysF ascF;exact lt_ (Lib.compact_length_le _) (by rw[show(sortL (keysL l)).length =(keysL l).length from(List.mergeSort_perm _ _).length_eq];exact le_ _)
end
section
open Go.RowKit Go.Sort
theorem ed_ (a b:Int) (w:World) (ha:W64 a) (hb:W64 b):Calls Tryz.prog 101 #[.int .u64 a,.int .u64 b] w (C8_ (subF a b) (decide (b≤a)) w):=by
 by_cases h:a<b
 ·have h1:=hh_ (show subF a b=0 by unfold subF;rw[if_pos h])
  have h2:=hh_ (show decide (b≤a)=false from df_ (by omega))
  go_enter func101,ntmps101
  go_wp2
  go_ret2
  first|exact Lp_ h1.out h2.out|exact Lp_ h1.out rfl
 ·have h1:=hh_ (show subF a b=a-b by unfold subF;rw[if_neg h])
  have h2:=hh_ (show decide (b≤a)=true from dt_ (by omega));unfold W64 at ha hb;have hw:IntKind.u64.wrap (a-b)=a-b:=IntWalk.u64_in _ (by omega)
  go_enter func101,ntmps101
  go_wp2
  go_ret2
  first|exact Lp_ h1.out h2.out|exact Lp_ h1.out rfl
theorem es_ (v:Value) (l:List Ln) (k:Int) (w:World) (h:RdL lnF 3 w v l) (hl:l.length≤100000) (hk0:0≤k) (hk1:k≤1000):Calls Tryz.prog 95 #[v,.int .i64 k] w (SelPost k l w):=by
 obtain⟨a,c,rfl⟩:=h.shape;have Hc:=hh_ (ch_ _ l w h (by omega));have hsl:=Ih_ l;have HP:=hh_ (p:=∀e w',SelPost k l w e w'↔∃v1 v2,e=.returned (.tuple #[v1,v2])∧RdL lnF 3 w' v1 ((sortLn l).take (selN k l))∧RdL lnF 3 w' v2 ((sortLn l).drop (selN k l))∧CapOk v1∧From w.heap.size v1∧From w.heap.size v2∧w.grownBy w' none) (fun _ _=>Iff.rfl);obtain⟨kk,hkk⟩:∃kk,selN k l=kk:=⟨_,rfl⟩
 have hkd:kk≤l.length∧min k (l.length:Int) =(kk:Int):=by unfold selN at hkk;omega
 rw[hkk] at HP;clear hkk h
 have hmx:max k 0=k:=by omega
 obtain⟨hkl,hmn⟩:=hkd;rw[←hsl] at hkl hmn;have Hsl:=hh_ hsl;clear hsl;generalize sortLn l=S at *
 go_enter func95,ntmps95
 go_upto_region 2 with(go_at_call 127;refine Hc.out.mono ?_;rintro e w2 ⟨v2,rfl,o2,g2⟩;obtain⟨sa,sc,rfl⟩:=o2.shape)
 have hcap:=o2.cap
 have hk2 :(kk:Int)≤(S.length:Int):=by omega
 have hk3 :(0:Int)≤(kk:Int):=by omega
 have hk4 :(kk:Int)≤(sc:Int):=by omega
 have hk5 :(S.length:Int)≤(sc:Int):=by omega
 have H1:=hh_ fun w' (h:World.grownBy w2 w' none)=>(o2.rd.take Ar_ hkl sc).same h
 have H2:=hh_ fun w' (h:World.grownBy w2 w' none)=>(o2.rd.drop Ar_ hkl hcap (sc-kk)).same h
 have Hc1:=hh_ (show CapOk (.slice sa kk sc) from fun _ _ _ e=>by cases e;omega);have hff:=o2.from_;have Hf1:=hh_ (show From w.heap.size (.slice sa kk sc) from fun a n c e=>by cases e;exact hff _ _ _ rfl)
 have Hf2:=hh_ (show From w.heap.size (.slice (if sc=kk then sa else sa.map (·.add (kk*3))) (S.length-kk) (sc-kk)) from fun a n c e=>by
  split at e
  ·cases e;exact hff _ _ _ rfl
  ·rcases sa with _|sa
   ·cases e
   ·cases e;have:=hff sa _ _ rfl;simp only[Addr.add];split <;> exact this)
 clear Hc o2 hff;have hq1 :(kk:Int)≤(kk:Int):=Int.le_refl _
 rcases Decidable.em (sc=kk) with hq|hq
 ·subst hq
  have e0:S.length-sc=0:=by omega
  have e1:sc-sc=0:=by omega
  simp only[if_true,e0,e1] at H2 Hf2
  rcases sa with _|sa
  ·go_upto_region 3 with fail
   go_quiet (fail)
   go_wp2
   refine bodyPost_ret (v:=.tuple #[.slice none sc sc,.slice none 0 0]) (by simp[results,results95,go_sem]) rfl ?_;exact(HP.out _ _).2 ⟨_,_,rfl,H1.out _ gw_,H2.out _ gw_,Hc1.out,Hf1.out,Hf2.out,Aa_ g2 gw_⟩
  ·go_upto_region 3 with fail
   go_quiet (fail)
   go_wp2
   refine bodyPost_ret (v:=.tuple #[.slice (some sa) sc sc,.slice (some sa) 0 0]) (by simp[results,results95,go_sem]) rfl ?_;exact(HP.out _ _).2 ⟨_,_,rfl,H1.out _ gw_,H2.out _ gw_,Hc1.out,Hf1.out,Hf2.out,Aa_ g2 gw_⟩
 ·simp only[if_neg hq] at H2 Hf2
  go_upto_region 3 with fail
  go_quiet (fail)
  go_wp2
  refine bodyPost_ret (v:=.tuple #[.slice sa kk sc,.slice (sa.map (·.add (kk*3))) (S.length-kk) (sc-kk)]) (by simp[results,results95,go_sem]) rfl ?_;exact(HP.out _ _).2 ⟨_,_,rfl,H1.out _ gw_,H2.out _ gw_,Hc1.out,Hf1.out,Hf2.out,Aa_ g2 gw_⟩
theorem dz_ (v:Value) (l:List Ln) (un:Int) (w:World) (h:RdL lnF 3 w v l):Calls Tryz.prog 99 #[v,.int .u64 un] w (RetWord (hiMax l un) w):=by
 obtain⟨a,c,rfl⟩:=h.shape;have hm:=h.2.1;have H:=hh_ h;have HM:=hh_ (show hiMax l un =(l.map (·.hi)).foldl max un from rfl);clear h;generalize hiMax l un=q at *
 go_enter func99,ntmps99
 go_wp2_with fail
 go_loopw [1,9] (fun s1 s9 wk=>∃k:Nat,k≤l.length∧s9=.int .i64 k∧s1=.int .u64 (((l.take k).map (·.hi)).foldl max un)∧w.grownBy wk none) (fun _ s9 _=>l.length-(RowKit.intOf s9).toNat)
 case atStart=>exact⟨0,zl_ _,rfl,rfl,Ab_ _ _⟩
 case round=>
  obtain⟨k,hk,rfl,rfl,hg⟩:=hrel
  by_cases hlt:k<l.length
  ·obtain⟨g,off,cap,hv,hgl,hc⟩:=(RdL.same H.out hg).at_ Ar_ hlt
   cases hv;have c0:=hc 0 _ rfl;have c1:=hc 1 _ rfl;have c2:=hc 2 _ rfl;rw[Nat.add_zero] at c0;clear hc;have HS:=hh_ (show((l.take (k+1)).map (·.hi)).foldl max un=max (((l.take k).map (·.hi)).foldl max un) l[k].hi by rw[tg_ hlt,List.map_append,List.foldl_append];rfl);generalize ((l.take k).map (·.hi)).foldl max un=M at *;generalize l[k]=x at *;have G2:=Ad_ hg (.cells #[.string x.key,.int .u64 x.lo,.int .u64 x.hi] 46);have A2:=(Blk.new wr #[.string x.key,.int .u64 x.lo,.int .u64 x.hi] 46).cell
   go_wp2_with fail
   exact⟨⟨k+1,by omega,by go_num,by rw[HS.out],G2⟩,by simp[RowKit.intOf];omega⟩
  ·have hle:l.take k=l:=tk_ (by omega)
   rw[hle,←HM.out]
   go_wp2_with fail
   go_ret
   exact Bs_ rfl hg
theorem We_ (c:Cfg) (t:List Int) (l:List Summ) :(allF c t l).length =(keysF l).length:=by simp[allF]
def bLs (c:Cfg) (t:List Int) (l:List Summ):List Ln:=(sortLn (allF c t l)).take (selN c.Top (allF c t l))
def bOm (c:Cfg) (t:List Int) (l:List Summ):List Ln:=(sortLn (allF c t l)).drop (selN c.Top (allF c t l))
theorem Sy_ (L:List Ln) (x:Ln) :(insL L x).Perm (L++[x]):=by
 unfold insL;generalize insK x L L.length=k
 have h1 :(L.take k++[x]++L.drop k).Perm (L.take k++(L.drop k++[x])):=by
  rw[List.append_assoc];exact List.Perm.append_left _ List.perm_append_comm
 rw[←List.append_assoc,List.take_append_drop] at h1;exact h1
theorem Mr_ (l:List Ln) :(sortLn l).Perm l:=by
 have:∀(l a:List Ln),(l.foldl insL a).Perm (a++l):=by
  intro l
  induction l with
  | nil=>intro a;simp
  | cons x l ih=>
   intro a;simp only[List.foldl_cons];refine(ih _).trans ?_
   have:=(Sy_ a x).append_right l
   simpa using this
 simpa [sortLn] using this l []
theorem Jd_ {l:List Ln} {x:Ln} (h:x∈sortLn l):x∈l:=(Mr_ l).mem_iff.1 h
def bOver (c:Cfg) (t:List Int) (l:List Summ):Int:=subF (totalF l) (satL (loSum (bLs c t l)))
def bRest (c:Cfg) (t:List Int) (l:List Summ):Int:=hiMax (bOm c t l) (restF c l)
def H7_ (c:Cfg) (t:List Int) (l:List Summ) (win:Int) (rej:List Int) (w:World) (e:Ending) (w':World):Prop:=
 ∃vl vr,e=.returned (repV win (totalF l) vl (bOver c t l) ((keysF l).length) (bRest c t l) vr)∧RdL lnF 3 w' vl (bLs c t l)∧RdL wordF 1 w' vr rej∧CapOk vl∧CapOk vr∧From w.heap.size vl∧From w.heap.size vr∧w.grownBy w' none
theorem Wj_ (L:List Ap_) (k:Ap_):lessN L k≤L.length:=List.Sublist.length_le (List.takeWhile_sublist _)
theorem Y7_ {L:List Ap_} {k:Ap_}:∀{i:Nat} (_:i<lessN L k) (h2:i<L.length),L[i]<k:=by
 induction L with
 | nil=>intro i h h2;simp at h2
 | cons a L ih=>
  intro i h h2
  by_cases ha:a<k
  ·cases i with
   | zero=>exact ha
   | succ i=>
    have:i<lessN L k:=by simp[lessN,ha] at h;simpa [lessN] using h
    simpa using ih this (by simpa using h2)
  ·simp[lessN,ha] at h
theorem Yy_ {L:List Ap_} {k:Ap_} (h:lessN L k<L.length):¬L[lessN L k]<k:=by
 induction L with
 | nil=>simp at h
 | cons a L ih=>
  by_cases ha:a<k
  ·have e:lessN (a::L) k=lessN L k+1:=by simp[lessN,ha]
   have:=ih (by rw[e] at h;simpa using h)
   simpa [e] using this
  ·have e:lessN (a::L) k=0:=by simp[lessN,ha]
   simpa [e] using ha
theorem gm_ (b:Ap_) (k:ByteArray):Op.bytesLess b k.toList=decide (b<k.data.toList):=by
 rw[ByteArray.toList_eq,bytesLess_eq]
theorem gl_ (b:Ap_) (k:ByteArray) :(b==k.toList)=decide (b=k.data.toList):=by
 rw[ByteArray.toList_eq,Bool.eq_iff_iff];simp
theorem Wa_ (v:Value) (l:List Summ) (w:World) (h:Cn_ w v l) (hs :(keysL l).length≤100000):Calls Tryz.prog 98 #[v] w (RetOwn strB 1 9 (keysF l) w):=by
 obtain⟨a,c,rfl⟩:=h.rd.shape;have hm:=h.rd.2.1;have H:=hh_ h;have Hs:=hh_ hs;clear h hs
 go_enter func98,ntmps98
 go_wp2_with fail
 go_loopw [3,11] (fun s3 s11 wk=>∃(k:Nat),k≤l.length∧s11=.int .i64 k∧Own strB 1 9 w.heap.size wk s3 ((keysL (l.take k)).foldl insF [])∧w.grownBy wk none) (fun _ s11 _=>l.length-(RowKit.intOf s11).toNat)
 case atStart=>exact⟨0,zl_ _,rfl,Own.nil _ _ _ _ _,Ab_ _ _⟩
 case round=>
  obtain⟨k,hk,rfl,hO,hg⟩:=hrel
  by_cases hlt:k<l.length
  ·obtain⟨g,off,cap,hv,hgl,c0,c1,c2,c3,hR,hW⟩:=(H.out.same hg).at_ hlt
   cases hv;have HS:=hh_ (B4_ hlt);have Hk:=hh_ (Qs_ (l.take k) l[k]);have hbig:=hh_ (Jz_ l (k+1));obtain⟨a1,k1,e1⟩:=hR.es.shape;obtain⟨a2,k2,e2⟩:=hR.vs.shape;have Hes:=hh_ (H.out.all _ (mg_ hlt)).es;rw[e1] at c1 Hes;rw[e2] at c3;rw[HS.out] at hbig;clear hR hW e1 e2;generalize keysL (l.take k)=K at *;generalize l[k]=s at *;have hem:=Hes.out.2.1
   go_upto_region 6 with fail
   have O1:=hO.same (ga_ wr (.cells #[.int .u64 s.total,.slice a1 s.es.length k1,.int .u64 s.untr,.slice a2 s.vs.length k2] 129) none);have G1:=Ad_ hg (.cells #[.int .u64 s.total,.slice a1 s.es.length k1,.int .u64 s.untr,.slice a2 s.vs.length k2] 129);generalize wr.alloc _=w1 at *;clear hO hg c0 c1 c2 c3 hgl
   have hKb:K.length+s.es.length≤100000:=by
    have h1:=hbig.out;have h2:=Hs.out;rw[Hk.out,la_,List.length_map] at h1
    omega
   go_loopw [3,18] (fun s3 s18 wk=>∃(j:Nat),j≤s.es.length∧s18=.int .i64 j∧Own strB 1 9 w.heap.size wk s3 ((K++(s.es.take j).map entK).foldl insF [])∧w.grownBy wk none) (fun _ s18 _=>s.es.length-(RowKit.intOf s18).toNat)
   case atStart=>exact⟨0,zl_ _,rfl,by simpa using O1,G1⟩
   case round=>
    obtain⟨j,hj,rfl,hO,hg⟩:=hrel
    by_cases hjl:j<s.es.length
    ·obtain⟨ge,oe,ce,hve,hge,d0,d1,d2⟩:=RdL.ent (RdL.same Hes.out hg) hjl
     cases hve;have HT:=hh_ (B4_ hjl)
     have hbb :((K++(s.es.take j).map entK).foldl insF []).length≤100000:=by
      refine lt_ (G7_ _ []) ?_;rw[la_,List.length_map,lk_];simp;omega
     have HF:=hh_ (show(K++(s.es.take (j+1)).map entK).foldl insF []=insF ((K++(s.es.take j).map entK).foldl insF []) (entK s.es[j]) by rw[HT.out,List.map_append,←List.append_assoc,List.foldl_append];rfl);generalize (K++(s.es.take j).map entK).foldl insF []=KK at *;generalize s.es[j]=en at *;obtain⟨oa,oc,rfl⟩:=hO.shape
     go_upto_region 8 with fail
     have O2:=hO.same (ga_ wr (.cells #[.string en.key,.int .u64 en.own,.int .u64 en.slack] 224) none);have G2:=Ad_ hg (.cells #[.string en.key,.int .u64 en.own,.int .u64 en.slack] 224);have A2:=Blk.new wr #[.string en.key,.int .u64 en.own,.int .u64 en.slack] 224;generalize wr.alloc _=w2 at *;generalize wr.heap.size=gk at *;have HO:=hh_ hO;have HN1:=hh_ (Wj_ KK (entK en))
     have HN2:=hh_ fun i (h:i<lessN KK (entK en)) h2=>Y7_ (k:=entK en) h h2
     have HN3:=hh_ fun h=>Yy_ (L:=KK) (k:=entK en) h
     have HI:=hh_ (show insF KK (entK en)=if KK[lessN KK (entK en)]?=some (entK en) then KK else KK.take (lessN KK (entK en))++[entK en]++KK.drop (lessN KK (entK en)) from rfl);clear hO hg d0 d1 d2 hge;generalize lessN KK (entK en)=N at *;have hN:=HN1.out
     go_cut [8] (fun s8 wx=>s8=.int .i64 0∧w2=wx)
     case first=>
      go_wp2_with fail
      go_meet
      exact⟨rfl,rfl⟩
     obtain⟨rfl,rfl⟩:=hcut
     rename_i hK
     refine hK _ _ ?_
     apply wp_seq_k
     intro K1 hK1
     go_cut [8,22,23,24,25,26,27,28,29,30,31,32,33,34,35,36] (fun s8 _ _ _ _ _ _ _ _ _ _ _ _ _ _ _ wx=>s8=.int .i64 N∧w2.grownBy wx none)
     case first=>
      go_wp2_with fail
      go_loopw [8] (fun s8 wk=>∃m:Nat,m≤N∧s8=.int .i64 m∧w2.grownBy wk none) (fun s8 _=>N-(RowKit.intOf s8).toNat)
      case atStart=>exact⟨0,zl_ _,rfl,Ab_ _ _⟩
      case round=>
       obtain⟨m,hm,rfl,hgm⟩:=hrel;have am:=(A2.same hgm).cell
       by_cases hml:m<KK.length
       ·obtain⟨go,oo,co,hvo,hgo,cm⟩:=(O2.same hgm).rd.one Kj_ hml
        cases hvo
        have hml2 :(m:Int)<(KK.length:Int):=by omega
        have hbl:=gm_ KK[m] en.key
        by_cases hmN:m<N
        ·have hlt:=HN2.out m hmN hml
         rw[dt_ (show KK[m]<en.key.data.toList from hlt)] at hbl;generalize KK[m]=x at *;clear hlt
         go_wp2_with fail
         go_quiet (fail)
         go_wp2_with fail
         exact⟨⟨m+1,by omega,by go_num,Ae_ hgm _⟩,by simp[RowKit.intOf];omega⟩
        ·obtain rfl:m=N:=by omega
         have hlt:=HN3.out hml;rw[df_ (show ¬KK[m]<en.key.data.toList from hlt)] at hbl;generalize KK[m]=x at *;clear hlt
         go_wp2_with fail
         go_quiet (fail)
         go_wp2_with fail
         go_meet
         exact⟨rfl,Ae_ hgm _⟩
       ·obtain rfl:m=N:=by omega
        have hml2:decide ((m:Int)<(KK.length:Int))=false:=df_ (by omega)
        go_wp2_with fail
        go_quiet (fail)
        go_wp2_with fail
        go_meet
        exact⟨rfl,Ae_ hgm _⟩
     obtain⟨rfl,h3⟩:=hcut;refine hK1 _ _ ?_
     apply wp_seq_k
     intro K2 hK2;have O3:=O2.same h3;have A3:=A2.same h3;have a3:=A3.cell
     go_cut [37,38,39,40,41,42,43,44,45,46,47,48,49] (fun _ _ _ _ _ _ _ _ _ _ _ _ s49 wx=>s49=.bool (!decide (KK[N]?=some (entK en)))∧w2.grownBy wx none)
     case first=>
      by_cases hml:N<KK.length
      ·obtain⟨go,oo,co,hvo,hgo,cm⟩:=O3.rd.one Kj_ hml
       cases hvo
       have hml2 :(N:Int)<(KK.length:Int):=by omega
       have hml3 :((N:Int)==(KK.length:Int))=false:=bf_ (by omega);have hbe:=gl_ KK[N] en.key;have hgt:=hh_ (show decide (KK[N]?=some (entK en))=decide (KK[N]=en.key.data.toList) by rw[gq_ hml];simp[entK]);generalize KK[N]=x at *;cases hd:decide (x=en.key.data.toList)
       ·rw[hd] at hbe hgt
        clear hd
        go_wp2_with fail
        go_quiet (fail)
        go_wp2_with fail
        go_meet
        exact⟨by rw[hgt.out];rfl,Ae_ h3 _⟩
       ·rw[hd] at hbe hgt
        clear hd
        go_wp2_with fail
        go_quiet (fail)
        go_wp2_with fail
        go_meet
        exact⟨by rw[hgt.out];rfl,Ae_ h3 _⟩
      ·obtain rfl:N=KK.length:=by omega
       have hgt:=hh_ (show decide (KK[KK.length]?=some (entK en))=false by simp)
       go_wp2_with fail
       go_quiet (fail)
       go_wp2_with fail
       go_meet
       exact⟨by rw[hgt.out];rfl,Ae_ h3 _⟩
     obtain⟨rfl,h4⟩:=hcut;clear a3 A3 O3 hK hK1;refine hK2 _ _ ?_;have O4:=O2.same h4;have A4:=A2.same h4
     by_cases hins:KK[N]?=some (entK en)
     ·rw[dt_ hins]
      have hI:=HI.out;rw[if_pos hins] at hI;have HI2:=hh_ hI;clear hI hins
      go_wp2_with fail
      exact⟨⟨j+1,by omega,by go_num,by rw[HF.out,HI2.out];exact O4,Aa_ G2 h4⟩,by simp[RowKit.intOf];omega⟩
     ·rw[df_ hins]
      have hI:=HI.out;rw[if_neg hins] at hI;have HI2:=hh_ hI;clear hI hins;have O3:=O4;have A3:=A4;have G3:=Aa_ G2 h4;have hKl:=hN
      have hsl:KK.length≤1000000:=by omega
      have Hxk:=hh_ (show(#[Value.string en.key]:Array Value).toList=strB (entK en) by simp[strB,entK]);generalize entK en=x at *;obtain⟨S,rfl⟩:∃S,S=KK:=⟨_,rfl⟩;obtain⟨P,rfl⟩:∃P,P=N:=⟨_,rfl⟩;clear O4 A4
      go_upto_region 12 with fail
      have hcap:=O3.cap
      have hP0 :(0:Int)≤(P:Int):=by omega
      have hP1 :(P:Int)≤(S.length:Int):=by omega
      have hP2 :(P:Int)≤(oc:Int):=by omega
      have hP3 :(S.length:Int)≤(oc:Int):=by omega
      have hsz:=G3.size;refine wp_region_any (by kernel_rfl) ?_
      (refine Tail.take_put 9 59 (.slice oa S.length oc) rfl rfl (by kernel_rfl) (by kernel_rfl) (by kernel_rfl) (fun _ _ _ h=>h) (Or.inl ⟨by rfl,fun w=>?_⟩) ?_;· go_simp);simp only[List.setIfInBounds_toArray,List.set_cons_zero,List.set_cons_succ]
      (refine Tail.take_put 10 60 (.int .i64 P) rfl rfl (by kernel_rfl) (by kernel_rfl) (by kernel_rfl) (fun _ _ _ h=>h) (Or.inl ⟨by rfl,fun w=>?_⟩) ?_;· go_simp);simp only[List.setIfInBounds_toArray,List.set_cons_zero,List.set_cons_succ]
      (refine Tail.take_put 11 61 (.slice (if oc=P then oa else oa.map (·.add (P*1))) (S.length-P) (oc-P)) rfl rfl (by kernel_rfl) (by kernel_rfl) (by kernel_rfl) (fun _ _ _ h=>h) (Or.inl ⟨by rfl,fun w=>?_⟩) ?_;· go_simp);simp only[List.setIfInBounds_toArray,List.set_cons_zero,List.set_cons_succ]
      have RD:=hh_ fun w' (h:Own strB 1 9 w.heap.size w' (.slice oa S.length oc) S)=>h.rd.drop Kx_ hKl hcap (oc-P)
      generalize (if oc=P then oa else oa.map (·.add (P*1)))=od at *
      (refine ra_ 8 #[false,false,false,false,false,false,false,false,false,true,true,true,false,false] ?_;simp only[List.take,List.drop,Rg.tailL];simp (decide:=true) only[if_true,if_false])
      have Gd:wc.grownBy wc.drew none:=gw_;have Kd:=Aa_ G3 Gd
      have hb1 :(S.take P).length=P:=by simp;omega
      have hb2 :(S.take P).length*16≤140737488355328:=by rw[hb1];omega
      have hb3 :(S.take P).length≤9223372036854775807:=by rw[hb1];omega
      have hb4 :((S.take P).length+1)*16≤140737488355328:=by rw[hb1];omega
      have hb5 :(S.take P).length+1≤9223372036854775807:=by rw[hb1];omega
      have hb6 :(S.take P++[x]).length=P+1:=by rw[la_,hb1];rfl
      have hb7 :(S.drop P).length=S.length-P:=by simp
      have hb8 :((S.take P++[x]).length+(S.drop P).length)*16≤140737488355328:=by rw[hb6,hb7];omega
      have hb9 :(S.take P++[x]).length+(S.drop P).length≤9223372036854775807:=by rw[hb6,hb7];omega
      have Hb1:=hh_ hb1.symm;have Hb7:=hh_ hb7.symm;clear hb1 hb6 hb7
      (refine to_ ?_;intro y0 my0 dy0)
      clear dy0;have zy0:w.heap.size≤y0.heap.size:=(Aa_ Kd my0).size
      go_wp2_with fail
      refine⟨ga_ _ _ _,?_⟩;have N0:=Aw_ (e:=9) strB 1 zy0;have hg0:wc.heap.size≤y0.heap.size:=(Aa_ Gd my0).size;generalize y0.alloc _=e0 at *;generalize y0.heap.size=g0 at *
      (refine tq_ 3 ?_;(repeat(go_big_quiet_step (fail)));refine wn_ ?_)
      (refine to_ ?_;intro y4 my4 dy4)
      have N4:=N0.same (dy4.out 0 (by omega) (by kernel_rfl));have K4:=Aa_ Gd my4;have R4:=(O3.rd.take Kx_ hKl oc).same K4;have z4:=(Aa_ Kd my4).size
      go_wp2_with (at_builtin;refine A2_ Nq_ Oj_ N4 R4 Hb1.out hb2 hb3 z4 (by rfl) _ _ (by rfl) (by rfl) (by rfl) ?_;intro v4 e4 o4 g4 l4;have Hg4:=hh_ g4;clear g4)
      refine⟨Hg4.out,?_⟩;have hv4:=Lies.ge l4 (fun k hk=>lt_ hg0 (K7_ _ _ _ k hk)) K4.size;clear R4 N0 N4 K4 z4 dy4 l4
      (refine tq_ 1 ?_;(repeat(go_big_quiet_step (fail)));refine wn_ ?_)
      (refine to_ ?_;intro y5 my5 dy5)
      clear dy5;have a5:=(A3.same (Aa_ Gd my5)).cell
      go_wp2_with fail
      refine⟨Ab_ _ _,?_⟩;clear a5
      (refine to_ ?_;intro y6 my6 dy6)
      clear dy6
      go_wp2_with fail
      refine⟨ga_ _ _ _,?_⟩;have N6:=Blk.new y6 #[.string en.key] 9;generalize y6.alloc _=e6 at *;generalize y6.heap.size=g6 at *
      (refine Rg.tree_nil ?_;intro z mz dz cz)
      have o5:=o4.same (dz.out 4 (by omega));have N7:=(N6.same (dz.out 7 (by omega))).one Kx_ x Hxk.out;have Kz:=Aa_ Gd mz;have KK:=Aa_ Kd mz;have z7:=KK.size;have O7:=O3.same Kz
      have hlo:∀k,Value.ownBlock (.slice oa S.length oc)=some k→k<wc.heap.size:=fun k hk=>(O3.lt k hk).2
      have tok:=hh_ hP0;clear dz cz my0 my4 my5 my6 mz Hg4 Kz N6 o4 O3 A3 hg0 zy0 Gd Kd
      go_wp2_with (first
       |(at_builtin;have _t:=tok;refine app Nq_ Oj_ o5 N7 rfl hb4 hb5 z7 (by rfl) _ _ (by rfl) (by rfl) (by rfl) ?_;intro v7 w7 o7 g7 l7;clear tok;have K7:=Ao_ KK o5 (le_ _) g7;have R8:=RD.out _ (O7.kept g7 (fun k hk e=>by have:=hlo k hk;have:=hv4 k e;omega));have z8:=K7.size)
       |(at_builtin;refine app Nq_ Oj_ o7 R8 Hb7.out hb8 hb9 z8 (by rfl) _ _ (by rfl) (by rfl) (by rfl) ?_;intro v8 w8 o8 g8 l8;have K8:=Ao_ K7 o7 (le_ _) g8))
      exact⟨⟨j+1,by omega,by go_num,by rw[HF.out,HI2.out];exact o8,K8⟩,by simp[RowKit.intOf];omega⟩
    ·have hje:s.es.take j=s.es:=tk_ (by omega)
     rw[hje] at hO
     go_wp2_with fail
     exact⟨⟨k+1,by omega,by go_num,by rw[HS.out,Hk.out];exact hO,hg⟩,by simp[RowKit.intOf];omega⟩
  ·have hke:l.take k=l:=tk_ (by omega)
   rw[hke,W5_] at hO
   go_wp2_with fail
   go_ret
   exact⟨_,rfl,hO,hg⟩
end
section
open Go.RowKit
attribute [local go_sem ↓] Ag_
attribute [local go_sem] Ah_
theorem Rk_ (c:Cfg) (t:List Int) (l:List Summ) (k:ByteArray) (O:List Int) {j:Nat} (hj:j<O.length) :
  foldB c t l k ((O.take (j+1)).filter (fun i:Int=>decide (i<(l.length:Int))))=if decide (O[j]<(l.length:Int)) then addP (foldB c t l k ((O.take j).filter (fun i:Int=>decide (i<(l.length:Int))))) (bP c t l k O[j]) else foldB c t l k ((O.take j).filter (fun i:Int=>decide (i<(l.length:Int)))):=by
 rw[B4_ hj,List.filter_append]
 by_cases h:decide (O[j]<(l.length:Int))=true
 ·rw[if_pos h,List.filter_cons_of_pos (p:=fun i:Int=>decide (i<(l.length:Int))) h,List.filter_nil,Ra_]
 ·rw[if_neg h,List.filter_cons_of_neg (p:=fun i:Int=>decide (i<(l.length:Int))) h,List.filter_nil,List.append_nil]
theorem R4_ {w0 w2:World} {bc g o:Nat} {c:Cfg} {ve vr:Value} {tot un:Int} (hlt:bc<w0.heap.size∧g<w0.heap.size) (hB:BoxAt w0 bc c)
  (h:w0.cell? ⟨g,o,none⟩=some (.int .u64 tot)∧w0.cell? ⟨g,o+1,none⟩=some ve∧w0.cell? ⟨g,o+2,none⟩=some (.int .u64 un)∧w0.cell? ⟨g,o+3,none⟩=some vr) (h0:w0.grownBy w2 none) :
  isCfg w2 bc=true∧readCfg w2 bc=c.val∧w2.cell? ⟨g,o,none⟩=some (.int .u64 tot)∧w2.cell? ⟨g,o+1,none⟩=some ve∧w2.cell? ⟨g,o+2,none⟩=some (.int .u64 un)∧w2.cell? ⟨g,o+3,none⟩=some vr:=by
 obtain⟨h3,h4,h5,h6⟩:=h;obtain⟨l3,l4⟩:=hlt;have hB2:=hB.same h0;have hc:=(An_ h0).1;exact⟨hB2.is,hB2.reads,(hc g _ l4 (by simp)).trans h3,(hc g _ l4 (by simp)).trans h4,(hc g _ l4 (by simp)).trans h5,(hc g _ l4 (by simp)).trans h6⟩
theorem dd_ (c:Cfg) (t:List Int) (lv:Value) (l:List Summ) (k:ByteArray) (w:World) (h:RCfg w c t) (hl:Cn_ w lv l) (ho:F0_ l) (hk:k.size≤9223372036854775807) :
  Calls Tryz.prog 128 #[c.val,lv,.string k] w (B8_ (ez_ k (lineF c t l k).1 (lineF c t l k).2) w):=by
 obtain⟨la,lc,rfl⟩:=hl.rd.shape;have H:=hh_ h;have HL:=hh_ hl;obtain⟨s1,s2⟩:=h.shards;have hsp:=h.spread;have hlm:=hl.rd.2.1;clear h hl
 go_enter func128,ntmps128
 go_upto_region 1 with(refine Au_ rfl _ rfl c rfl ?_;intro w1 B1 G1 z1)
 have kr:Blk (w1.alloc (.cells #[.string ⟨#[]⟩,.int .u64 0,.int .u64 0] 46)) w1.heap.size #[.string ⟨#[]⟩,.int .u64 0,.int .u64 0]:=bk_;have kc:BoxAt (w1.alloc (.cells #[.string ⟨#[]⟩,.int .u64 0,.int .u64 0] 46)) w.heap.size c:=B1.same (ga_ _ _ _);have K4:w.grownBy (w1.alloc (.cells #[.string ⟨#[]⟩,.int .u64 0,.int .u64 0] 46)) none:=Aa_ G1 (ga_ _ _ _);clear G1 B1;generalize w1.alloc _=w4 at *;generalize w1.heap.size=b at *;have kb0:Blk (w4.alloc (.cells #[.int .u64 0,.int .u64 0] 84)) w4.heap.size #[.int .u64 0,.int .u64 0]:=Blk.new _ _ _;have kc5:=kc.same (ga_ w4 (.cells #[.int .u64 0,.int .u64 0] 84) none);have K5:w4.grownBy (w4.alloc (.cells #[.int .u64 0,.int .u64 0] 84)) none:=ga_ _ _ _
 have z5:w4.heap.size<(w4.alloc (.cells #[.int .u64 0,.int .u64 0] 84)).heap.size:=by simp
 go_upto_region 2 with fail
 generalize hbs:w4.heap.size=bs at *;generalize w4.alloc _=w5 at *
 go_upto_region 3 with(first |(refine Al_ rfl _ rfl _ rfl c (by assumption) ?_) |(go_at_call 121;refine(a1_ c t k _ (H.out.same (Aa_ K4 K5)) hk).mono ?_;rintro e w6 ⟨ov,rfl,hov,G6⟩;obtain⟨oa,oc,rfl⟩:=hov.shape))
 have kb:=kb0.same G6;have K6:=Aa_ K5 G6
 have hbase:∀g,Value.ownBlock (.slice oa (setF c t k).length oc)=some g→g≠bs:=fun g hg e=>by have:=(hov.lt g hg).1;omega
 have hin:=Nz_ (h:=S8_ c t k) (n:=c.Spread.toNat) s1
 have hlen :(setF c t k).length≤8:=by rw[setF,Gf_];omega
 have Hfin:=hh_ (p:=foldB c t l k ((setF c t k).filter (fun i:Int=>decide (i<(l.length:Int))))=lineF c t l k) rfl;have Hin:Hid (∀x∈setF c t k,0≤x∧x<c.Shards):=hh_ hin;obtain⟨O,hO⟩:∃O,O=setF c t k:=⟨_,rfl⟩;rw[←hO] at hov hlen Hin Hfin hbase ⊢;have HO:Hid (Own intF 1 3 w5.heap.size w6 (.slice oa O.length oc) O):=hh_ hov;have Hbs:=hh_ hbs
 have hbs1:w4.heap.size≤bs:=by omega
 clear hO hov hin G6 kb0 kc5 K5 hbs
 go_loopw [9,16] (fun s9 s16 wr=>∃j:Nat,j≤O.length∧s16=.int .i64 j∧Blk wr bs #[.int .u64 (foldB c t l k ((O.take j).filter (fun i:Int=>decide (i<(l.length:Int))))).1,.int .u64 (foldB c t l k ((O.take j).filter (fun i:Int=>decide (i<(l.length:Int))))).2]∧w6.grownBy wr (some bs)∧w4.grownBy wr none) (fun _ s16 _=>O.length-(RowKit.intOf s16).toNat)
 case atStart=>exact⟨0,zl_ _,rfl,kb,Ab_ _ _,K6⟩
 case round=>
  clear kb K6;obtain⟨j,hj,rfl,kb,h6,h4⟩:=hrel
  by_cases hlt:j<O.length
  ·obtain⟨g,off,cap,hv,hgl,c0⟩:=((HO.out.kept h6 (fun g hg e=>hbase g hg (by injection e with e;exact e.symm))).rd).one Of_ hlt
   cases hv;have hF:=Rk_ c t l k O hlt;obtain⟨hx0,hx1⟩:=Hin.out _ (mg_ hlt);obtain⟨hwa,hwb⟩:=Rx_ (c:=c) (t:=t) ho k ((O.take j).filter (fun i:Int=>decide (i<(l.length:Int))));generalize foldB c t l k ((O.take j).filter (fun i:Int=>decide (i<(l.length:Int))))=f at *;generalize O[j]=x at *
   by_cases hxl:x<(l.length:Int)
   ·rw[dt_ hxl,if_pos rfl] at hF
    obtain⟨n,rfl⟩:=Int.eq_ofNat_of_zero_le hx0
    have hn:n<l.length:=by omega
    have HF:=hh_ hF;obtain⟨hb1,hb2⟩:=bP_w (c:=c) (t:=t) ho k (n:Int)
    have hbP:bP c t l k (n:Int) =(min (bndE l[n].es l[n].untr k).1 (sEstF c t l[n] k),min (bndE l[n].es l[n].untr k).2 (sEstF c t l[n] k)):=by
     unfold bP;rw[Int.toNat_natCast,gq_ hn]
    have hm:=mg_ hn
    have hcon:=hh_ fun w' hg=>V3_ c t l[n] k w' (H.out.same hg) (((HL.out).all _ hm).same hg) (HL.out.wf _ hm) (ho.rows _ hm) (ho.len _ hm) hk
    have HV:=hh_ (p:=M1_ c t l[n] k=.tuple #[bndV (bP c t l k (n:Int)).1 (bP c t l k (n:Int)).2,.bool (Ip_ l[n].es k)]) (by rw[hbP];rfl);have K2:=Aa_ K4 h4;have E2:=HL.out.same K2;have hKC:=kc.same h4;generalize hbx:bP c t l k (n:Int)=bx at *;clear hbP hF hbx
    go_upto_region 6 with fail
    obtain⟨gl,offl,capl,hvl,hgll,d0,d1,d2,d3,_,_⟩:=E2.at_ hn;cases hvl
    have hn0 :(0:Int)≤(n:Int):=by omega
    have hn1 :(n:Int)<(l.length:Int):=by omega
    have HL2:=hh_ (p:=w.heap.size<wr.heap.size∧gl<wr.heap.size) ⟨hKC.lt,hgll⟩
    have HS2:=hh_ fun wx=>R4_ (w2:=wx) HL2.out hKC ⟨d0,d1,d2,d3⟩
    have hz3:=kb.lt;clear c0 d0 d1 d2 d3 E2
    go_cut [10,11] (fun s10 s11 wx=>∃g9,s10=.pointer (some ⟨g9,0,none⟩)∧Blk wx g9 #[.int .u64 bx.1,.int .u64 bx.2]∧Blk wx bs #[.int .u64 f.1,.int .u64 f.2]∧wr.grownBy wx none)
    case first=>
     go_region_held3 (fun w'=>isCfg w' w.heap.size=true∧readCfg w' w.heap.size=c.val∧w'.cell? ⟨gl,offl+n*4,none⟩=some (.int .u64 l[n].total)∧w'.cell? ⟨gl,offl+n*4+1,none⟩=some l[n].ve∧w'.cell? ⟨gl,offl+n*4+2,none⟩=some (.int .u64 l[n].untr)∧w'.cell? ⟨gl,offl+n*4+3,none⟩=some l[n].vr)
      (first|exact HS2.out _ gw_)
      (first |(go_at_call 167;refine(hcon.out _ (Aa_ K2 gw_)).mono ?_;rw[HV.out];rintro e w3 ⟨rfl,G3⟩;(try(have hz:Blk w3 wr.heap.size #[.int .u64 0,.int .u64 0]:=Blk.same (Blk.drew1 (Blk.new wr _ _)) G3;have hzc:=hz.cell;have hzf:=hz.free));replace G3:wr.grownBy w3 none:=Aa_ gw_ G3;have BI3:=kb.same G3;have z3:=G3.size))
     ·go_wp2_with fail
      go_meet
      exact⟨_,rfl,Blk.new _ _ _,BI3.same (ga_ _ _ _),Ad_ G3 _⟩
     ·go_wp2_with fail
      go_meet
      exact⟨_,rfl,(hz.set_ 0 _ rfl).set_ 1 _ rfl,(BI3.off (by omega) _ _).off (by omega) _ _,Aj_ (Aj_ G3 (le_ _) _) (le_ _) _⟩
    case rest=>
     obtain⟨g9,rfl,BB,BI4,G4⟩:=hcut;have bb:=BB.cell;have bi:=BI4.cell;clear HS2 hKC HL2 BB kb
     go_wp2_with (go_at_call 168;refine(ej_ f.1 f.2 bx.1 bx.2 _ hwa hwb hb1 hb2).mono ?_;rintro e w7 ⟨rfl,G7⟩;have kb7:=BI4.same G7;have kbc7:=kb7.cell;have kbf7:=kb7.free)
     have G8:=Aa_ G4 G7;exact⟨⟨j+1,by omega,by go_num,by rw[HF.out];exact(kb7.set_ 0 _ rfl).set_ 1 _ rfl,Ac_ (Ac_ (Aa_ h6 (Ak_ G8 _)) 0 _) 1 _,Aj_ (Aj_ (Aa_ h4 G8) hbs1 _) hbs1 _⟩,by simp[RowKit.intOf];omega⟩
   ·rw[df_ hxl,if_neg (by decide)] at hF
    have HF:=hh_ hF;have hd:decide (x<(l.length:Int))=false:=df_ hxl;clear hF
    go_wp2_with fail
    exact⟨⟨j+1,by omega,by go_num,by rw[HF.out];exact kb,h6,h4⟩,by simp[RowKit.intOf];omega⟩
  ·have hl:foldB c t l k ((O.take j).filter (fun i:Int=>decide (i<(l.length:Int))))=lineF c t l k:=by rw[tk_ (by omega)];exact Hfin.out
   rw[hl] at kb;clear hl Hfin;generalize lineF c t l k=f at *;have kbc:=kb.cell;have krc:=(kr.same h4).cell;have krf:=(kr.same h4).free
   have hzz:b≠bs:=by have:=kr.lt;omega
   go_wp2_with fail
   have BZ:=(((kr.same h4).set_ 0 (.string k) rfl).set_ 1 (.int .u64 f.1) rfl).set_ 2 (.int .u64 f.2) rfl;have bz:=BZ.cell;refine bodyPost_ret (v:=ez_ k f.1 f.2) (by simp[results,results128,go_sem,bz]) rfl ?_;exact Bf_ rfl (Aj_ (Aj_ (Aj_ (Aa_ K4 h4) (by simp;omega) _) (by simp;omega) _) (by simp;omega) _)
end
section
open Go.RowKit Go.Sort
attribute [local go_sem ↓] Ag_
attribute [local go_sem] Ah_
theorem fj_ (c:Cfg) (t:List Int) (lv:Value) (l:List Summ) (w:World) (h:RCfg w c t) (hl:Cn_ w lv l) (ho:F0_ l) (hs :(keysL l).length≤100000) (hk:∀s∈l,∀e∈s.es,e.key.size≤9223372036854775807) :
  Calls Tryz.prog 96 #[c.val,lv] w (RetOwn lnF 3 46 (allF c t l) w):=by
 obtain⟨la,lc,rfl⟩:=hl.rd.shape
 have Hc1:=hh_ fun w' (h:w.grownBy w' none)=>Wa_ _ l w' (hl.same h) hs
 have Hc2:=hh_ fun(b:Ap_) (hb:b∈keysF l) w' (g:w.grownBy w' none)=>dd_ c t _ l (bA b) w' (h.same g) (hl.same g) ho (by
  obtain⟨s,h1,e,h2,rfl⟩:=Lw_ hb
  have:=hk s h1 e h2
  show(entK e).toArray.size≤_
  simpa [entK] using this)
 have HKl:=hh_ (Hv_ l);have HA:=hh_ (show allF c t l =(keysF l).map (lnOf c t l) from rfl)
 have hln:∀b,lnOf c t l b =⟨bA b,(lineF c t l (bA b)).1,(lineF c t l (bA b)).2⟩:=fun _=>rfl
 have Hln:=hh_ hln;have Hs:=hh_ hs;clear h hl ho hs hk hln;generalize allF c t l=AL at *;generalize keysF l=K at *
 go_enter func96,ntmps96
 go_upto_region 2 with(refine Au_ rfl _ rfl c rfl ?_;intro w1 B1 G1 z1)
 go_wp2_with (go_at_call 98;refine(Hc1.out _ G1).mono ?_;rintro e w2 ⟨v2,rfl,o2,g2⟩;have R2:=o2.rd;obtain⟨ka,kc,rfl⟩:=R2.shape)
 have B2:=B1.same g2;have K2:=Aa_ G1 g2;have hkm:=R2.2.1;clear o2 B1 Hc1
 go_loopw [5,11] (fun s7 s13 wk=>∃(j:Nat),j≤K.length∧s13=.int .i64 j∧Own lnF 3 46 w2.heap.size wk s7 ((K.take j).map (lnOf c t l))∧w2.grownBy wk none) (fun _ s13 _=>K.length-(RowKit.intOf s13).toNat)
 case atStart=>exact⟨0,zl_ _,rfl,Own.nil _ _ _ _ _,Ab_ _ _⟩
 case round=>
  obtain⟨j,hj,rfl,hO,hg⟩:=hrel;have B3:=B2.same hg
  by_cases hjl:j<K.length
  ·obtain⟨gk,ok,ck,hvk,hgk,ck0⟩:=(R2.same hg).one Kj_ hjl
   cases hvk;have HT:=hh_ (show(K.take (j+1)).map (lnOf c t l) =(K.take j).map (lnOf c t l)++[lnOf c t l K[j]] by rw[B4_ hjl,List.map_append];rfl);have hcl:=hh_ (Hc2.out _ (mg_ hjl));have hlb:=hh_ (Hln.out K[j])
   have hb1 :(((K.take j).map (lnOf c t l)).length+1)*32≤140737488355328:=by have:=HKl.out;have:=Hs.out;rw[List.length_map,lk_];omega
   have hb2 :((K.take j).map (lnOf c t l)).length+1≤9223372036854775807:=by omega
   generalize (K.take j).map (lnOf c t l)=M at *;have hbA :(⟨K[j].toArray⟩:ByteArray)=bA K[j]:=rfl;rw[hbA] at ck0;generalize lnOf c t l K[j]=x at *;generalize bA K[j]=kk at *;generalize (lineF c t l kk).1=lo at *;generalize (lineF c t l kk).2=hi at *;have hx:=hlb.out;subst hx;clear hlb hbA
   go_upto_region 6 with(first |(refine Al_ rfl _ rfl _ rfl c (by assumption) ?_) |(go_at_call 128;refine(hcl.out _ (Aa_ K2 hg)).mono ?_;rintro e w4 ⟨rfl,g4⟩;have O4:=hO.same g4;have G4:=Aa_ hg g4;have hsz:=G4.size;have Hcs:=hh_ (show(#[Value.string kk,.int .u64 lo,.int .u64 hi]:Array Value).toList=lnF ⟨kk,lo,hi⟩ from rfl)) |(at_builtin;refine A6_ Ez_ Ey_ Ar_ O4 ⟨kk,lo,hi⟩ hb1 hb2 hsz Hcs.out rfl (.tmp 15) (.tmp 20) rfl rfl rfl ?_;intro v5 w5 o5 g5 l5))
   have K5:=Ao_ G4 O4 (le_ _) g5
   go_wp2_with fail
   exact⟨⟨j+1,by omega,by go_num,by rw[HT.out];exact o5,K5⟩,by simp[RowKit.intOf];omega⟩
  ·have hke:K.take j=K:=tk_ (by omega)
   rw[hke] at hO
   go_wp2_with fail
   go_ret
   refine⟨_,rfl,?_,Aa_ K2 hg⟩;rw[HA.out]
   exact hO.base fun k hk=>lt_ K2.size (hO.lt k hk).1
end
section
open Go.RowKit
attribute [local go_sem ↓] Ag_
attribute [local go_sem] Ah_
theorem Vz_ {d n t:Int} {rows:List (List Int)} {m:Nat} (e:m=rows.length) (h:¬0<m):Cs_ d n t rows=if Mb_ n rows then 3 else if Je_ t rows then 1 else 0:=by
 have h0:rows=[]:=List.length_eq_zero_iff.1 (by omega);subst h0
 rfl
theorem Gu_ {own slack tot:Int} (h :(own==0)=true∨(!G9_ own slack tot)=true):own=0∨tot<own+slack:=by
 unfold G9_ at h;simp at h;omega
theorem Po_ {own slack tot:Int} (h :(own==0)=false∧(!G9_ own slack tot)=false):own≠0∧own+slack≤tot:=by
 unfold G9_ at h;simp at h;omega
theorem Rh_ (c:Cfg) (s:Summ) (w:World) (hR:SumRd w s) (hW:SumW s) (hS:SumSmall s) :
  Calls Tryz.prog 169 #[c.val,sumV s.total s.ve s.untr s.vr] w (RetInt (sumErr c.Depth c.Width s) w):=by
 have HR:=hh_ hR;have HW:=hh_ hW;have HS:=hh_ hS;obtain⟨a1,k1,e1⟩:=hR.es.shape;obtain⟨a2,k2,e2⟩:=hR.vs.shape;have hm:=hR.es.2.1;have h1:9223372036854775808<s.total∨s.total<s.untr→sumErr c.Depth c.Width s=1:=f4_;have h7:¬(9223372036854775808<s.total∨s.total<s.untr)→(96:Int)<s.es.length→sumErr c.Depth c.Width s=7:=gj_
 have ho:¬(9223372036854775808<s.total∨s.total<s.untr)→(s.es.length:Int)≤96→sumErr c.Depth c.Width s=if Ct_ s.total s.es≠0 then Ct_ s.total s.es else if s.total<ownE s.es then 12 else Cs_ c.Depth c.Width s.total s.rows:=e9_
 have HRow:=hh_ hR.rowsRd;have Hvl:=hh_ hR.len
 have hv2:s.vs.length≤1000:=by rw[hR.len];exact hS.rows
 have hwt:=hW.total;have Hsl:=hh_ hS.row;have Hkey:=hh_ hS.key;have Hes:=hh_ hR.es;have Hew:=hh_ hW.es;rw[e1] at Hes ⊢;rw[e2] at HRow ⊢;have H1:=hh_ h1;have H7:=hh_ h7;have HO:=hh_ ho;clear hR hW hS h1 h7 ho e1 e2 HR HW HS;generalize sumErr c.Depth c.Width s=SE at *;obtain⟨tot,ve,un,vr,es,vs,rows⟩:=s
 simp only at *
 go_enter func169,ntmps169
 go_upto_region 1 with(refine Au_ rfl _ rfl c rfl ?_;intro w1 B1 G1 z1)
 have B2:Blk (w1.alloc (.cells #[.int .u64 tot,.slice a1 es.length k1,.int .u64 un,.slice a2 vs.length k2] 129)) w1.heap.size #[.int .u64 tot,.slice a1 es.length k1,.int .u64 un,.slice a2 vs.length k2]:=bk_;have hg:w.grownBy (w1.alloc (.cells #[.int .u64 tot,.slice a1 es.length k1,.int .u64 un,.slice a2 vs.length k2] 129)) none:=Ad_ G1 _;have BC:BoxAt (w1.alloc (.cells #[.int .u64 tot,.slice a1 es.length k1,.int .u64 un,.slice a2 vs.length k2] 129)) w.heap.size c:=B1.same (ga_ _ _ _);generalize w1.alloc _=w2 at *;clear G1 B1;have b2:=B2.cell;generalize hbb:w1.heap.size=b at *;generalize hcc:w.heap.size=cb at *
 go_wp2_with fail
 rotate_right
 ·go_ret
  exact Ai_ (H1.out (Or.inl (by assumption))) hg
 ·go_ret
  exact Ai_ (H1.out (by assumption)) hg
 ·go_ret
  exact Ai_ (H7.out (by omega) (by assumption)) hg
 have ht:tot≤9223372036854775808:=by assumption
 have HE:=hh_ (HO.out (by omega) (by assumption))
 have hl96 :(es.length:Int)≤96:=by assumption
 clear H1 H7 HO
 go_loopw [5,31] (fun s5 s31 wr=>∃(j:Nat),j≤es.length∧s31=.int .i64 j∧s5=.int .u64 (ownE (es.take j))∧W64 (ownE (es.take j))∧(∀i,i<j→errAt tot es i=0)∧w2.grownBy wr none) (fun _ s31 _=>es.length-(RowKit.intOf s31).toNat)
 case atStart=>exact⟨0,zl_ _,rfl,rfl,Dr_,by omega,Ab_ _ _⟩
 case round=>
  obtain⟨j,hj,rfl,rfl,hT,hall,hgr⟩:=hrel;have Hall:=hh_ hall;clear hall;have hgg:=Aa_ hg hgr;have BCr:=BC.same hgr;have B2r:=B2.same hgr;have b3:=B2r.cell
  have b4:=fun o=>(B2r.same (ga_ wr o none)).cell
  by_cases hlt:j<es.length
  ·obtain⟨g,off,cap,hv,hgl,c0,c1,c2⟩:=(Hes.out.same hgg).ent hlt
   cases hv;have HS:=hh_ (B4_ hlt);have Hs:=hh_ (Ut_ (es.take j) es[j]);obtain⟨hw1,hw2⟩:=Hew.out _ (mg_ hlt);have hks:=Hkey.out _ (mg_ hlt)
   have HX:Hid (∀k,entErr tot (prevK es j) es[j]=k→k≠0→SE=k):=hh_ fun k h hk=>by
    have he:errAt tot es j=k:=by unfold errAt;rw[gq_ hlt];exact h
    rw[HE.out,dk_ (tot:=tot) hlt Hall.out (by rw[he];exact hk),he,if_pos hk]
   have Hno:Hid (entErr tot (prevK es j) es[j]=0→∀i,i<j+1→errAt tot es i=0):=hh_ fun h i hi=>by
    by_cases e:i=j
    ·subst e;unfold errAt;rw[gq_ hlt];exact h
    ·exact Hall.out i (by omega)
   generalize ownE (es.take j)=T at *;generalize es[j]=en at *
   go_wp2_with fail
   ·go_ret
    exact Ai_ (HX.out 3 (Vm_ (by assumption)) (by decide)) (Aa_ hgg (ga_ _ _ _))
   ·go_ret
    exact Ai_ (HX.out 4 (Xv_ (by assumption) (by assumption)) (by decide)) (Aa_ hgg (ga_ _ _ _))
   have he:en.key.toList.isEmpty=false:=by assumption
   have hl :(en.key.size:Int)≤255:=by assumption
   have HEm:=hh_ he;have HLn:=hh_ hl;clear he hl
   by_cases h0:0<j
   ·obtain⟨m,rfl⟩:∃m,j=m+1:=⟨j-1,by omega⟩
    obtain⟨g',off',cap',hv',hgl',p0,p1,p2⟩:=(Hes.out.same hgg).ent (k:=m) (by omega);cases hv'
    have hpk:prevK es (m+1)=some es[m].key:=by simp[prevK,gq_ (show m<es.length by omega)]
    rw[hpk] at HX Hno;have hd:decide ((0:Int)<((m+1:Nat):Int))=true:=dt_ (by omega)
    have hx :((m+1:Nat):Int)-1 =(m:Int):=by omega
    have hm1 :(0:Int)≤(m:Int):=by omega
    have hm2 :(m:Int)<(es.length:Int):=by omega
    have pp:=fun o=>((An_ (ga_ wr o none)).1 g (off+m*3) hgl (by simp)).trans p0
    clear hpk p1 p2;generalize es[m].key=pk at *
    go_quiet (fail)
    have Hb:=hh_ (p:=(Op.bytesLess en.key.toList pk.toList||en.key.toList==pk.toList) =((some pk).map (leB en.key)).getD false) rfl;generalize (Op.bytesLess en.key.toList pk.toList||en.key.toList==pk.toList)=bx at *;clear pp;have BE:Blk ((wr.alloc (.cells #[.string en.key,.int .u64 en.own,.int .u64 en.slack] 224)).drewN nq) wr.heap.size #[.string en.key,.int .u64 en.own,.int .u64 en.slack]:=bk_;have BS:Blk ((wr.alloc (.cells #[.string en.key,.int .u64 en.own,.int .u64 en.slack] 224)).drewN nq) b #[.int .u64 tot,.slice (some ⟨g,off,none⟩) es.length k1,.int .u64 un,.slice a2 vs.length k2]:=Blk.drew (B2r.same (ga_ _ _ _)) _;have Kq:wr.grownBy ((wr.alloc (.cells #[.string en.key,.int .u64 en.own,.int .u64 en.slack] 224)).drewN nq) none:=gw_;generalize (wr.alloc (.cells #[.string en.key,.int .u64 en.own,.int .u64 en.slack] 224)).drewN nq=wq at *;have be:=BE.cell;have bs:=BS.cell;clear b4 BS;cases bx
    ·have HP:=hh_ (p:=((some pk).map (leB en.key)).getD false=false) Hb.out.symm
     have hW2:=B9_ hT hw1
     go_wp2_with (first |(go_at_call 185;refine(Pe_ en.own en.slack tot _ hw1 hw2 hwt).mono ?_;rintro e w5 ⟨rfl,G5⟩;have be5:=(BE.same G5).cell) |(go_at_call 68;refine(Eg_ T en.own _ hT hw1).mono ?_;rintro e w' ⟨rfl,rfl⟩))
     ·go_ret
      exact Ai_ (HX.out 1 (Fh_ HEm.out HLn.out HP.out (Or.inl (by assumption))) (by decide)) (Aa_ hgg Kq)
     ·go_ret
      exact Ai_ (HX.out 1 (Fh_ HEm.out HLn.out HP.out (Gu_ (by assumption))) (by decide)) (Aa_ (Aa_ hgg Kq) G5)
     ·obtain⟨q1,q2⟩:=Po_ (own:=en.own) (slack:=en.slack) (tot:=tot) (by assumption)
      have hN:=Hno.out (aa_ HEm.out HLn.out HP.out q1 q2);exact⟨⟨(m+1)+1,by omega,by go_num,by rw[HS.out,Hs.out],by rw[HS.out,Hs.out];exact hW2,hN,Aa_ hgr (Aa_ Kq G5)⟩,by simp[RowKit.intOf];omega⟩
    ·have HP:=hh_ (p:=((some pk).map (leB en.key)).getD false=true) Hb.out.symm
     go_wp2_with fail
     go_ret
     exact Ai_ (HX.out 6 (Vh_ HEm.out HLn.out HP.out) (by decide)) (Aa_ hgg Kq)
   ·have hj0:j=0:=by omega
    subst hj0
    go_quiet (fail)
    have BE:Blk ((wr.alloc (.cells #[.string en.key,.int .u64 en.own,.int .u64 en.slack] 224)).drewN nq) wr.heap.size #[.string en.key,.int .u64 en.own,.int .u64 en.slack]:=bk_;have BS:Blk ((wr.alloc (.cells #[.string en.key,.int .u64 en.own,.int .u64 en.slack] 224)).drewN nq) b #[.int .u64 tot,.slice (some ⟨g,off,none⟩) es.length k1,.int .u64 un,.slice a2 vs.length k2]:=Blk.drew (B2r.same (ga_ _ _ _)) _;have Kq:wr.grownBy ((wr.alloc (.cells #[.string en.key,.int .u64 en.own,.int .u64 en.slack] 224)).drewN nq) none:=gw_;generalize (wr.alloc (.cells #[.string en.key,.int .u64 en.own,.int .u64 en.slack] 224)).drewN nq=wq at *;have be:=BE.cell;have bs:=BS.cell;clear b4 BS;have HP:=hh_ (p:=((prevK es 0).map (leB en.key)).getD false=false) rfl;have hW2:=B9_ hT hw1
    go_wp2_with (first |(go_at_call 185;refine(Pe_ en.own en.slack tot _ hw1 hw2 hwt).mono ?_;rintro e w5 ⟨rfl,G5⟩;have be5:=(BE.same G5).cell) |(go_at_call 68;refine(Eg_ T en.own _ hT hw1).mono ?_;rintro e w' ⟨rfl,rfl⟩))
    ·go_ret
     exact Ai_ (HX.out 1 (Fh_ HEm.out HLn.out HP.out (Or.inl (by assumption))) (by decide)) (Aa_ hgg Kq)
    ·go_ret
     exact Ai_ (HX.out 1 (Fh_ HEm.out HLn.out HP.out (Gu_ (by assumption))) (by decide)) (Aa_ (Aa_ hgg Kq) G5)
    ·obtain⟨q1,q2⟩:=Po_ (own:=en.own) (slack:=en.slack) (tot:=tot) (by assumption)
     have hN:=Hno.out (aa_ HEm.out HLn.out HP.out q1 q2);exact⟨⟨0+1,by omega,by go_num,by rw[HS.out,Hs.out],by rw[HS.out,Hs.out];exact hW2,hN,Aa_ hgr (Aa_ Kq G5)⟩,by simp[RowKit.intOf];omega⟩
  ·have hl:es.take j=es:=tk_ (by omega)
   have hez:Ct_ tot es=0:=ba_ fun i hi=>Hall.out i (by omega)
   have hSE:SE=if tot<ownE es then 12 else Cs_ c.Depth c.Width tot rows:=by rw[HE.out,hez,if_neg (by decide)]
   have HSE:=hh_ hSE;rw[hl] at hT ⊢;have hb8:=BCr.cell;clear hl hez hSE HE Hall b4;generalize ownE es=T at *
   go_wp2_with fail
   ·go_ret
    exact Ai_ (HSE.out.trans (if_pos (by assumption))) hgg
   ·have h0:0<vs.length:=by assumption
    have hq:Cs_ c.Depth c.Width tot rows=3:=e0_ Hvl.out (bf_ (by omega)) (by assumption)
    go_ret
    exact Ai_ (HSE.out.trans ((if_neg (by omega)).trans hq)) hgg
   ·have h0:0<vs.length:=by assumption
    have HQ:=hh_ (HSE.out.trans ((if_neg (by omega)).trans (b3_ (n:=c.Width) (t:=tot) Hvl.out (bf_ (by omega)) (by assumption))));generalize ((vs.length:Int) != c.Depth)=bq at *
    have hbq:bq=false:=by assumption
    subst hbq;clear h0;clear HSE
    go_loopw [98] (fun s98 wy=>∃j:Nat,j≤vs.length∧s98=.int .i64 j∧(∀i,(hi:i<rows.length)→i<j→decide ((rows[i].length:Int)≠c.Width)=false)∧wr=wy) (fun s98 _=>vs.length-(RowKit.intOf s98).toNat)
    case atStart=>exact⟨0,zl_ _,rfl,by intro i _ h;omega,rfl⟩
    case round=>
     clear hj hlt;obtain⟨j,hj,rfl,hall,rfl⟩:=hrel;have Hall:=hh_ hall;clear hall
     by_cases hjv:j<vs.length
     ·have hjl:j<rows.length:=by have:=Hvl.out;omega
      obtain⟨g,off,cap,hv,hgl,c1⟩:=(HRow.out.same hgg).rd.one Nt_ hjv;cases hv;have hrow:=Hsl.out _ (mg_ hjl);have hRR:=(HRow.out.same hgg).all j vs[j] rows[j] (gq_ hjv) (gq_ hjl);have HN:=hh_ (fun h:decide ((rows[j].length:Int)≠c.Width)=true=>Uw_ (p:=fun r:List Int=>decide ((r.length:Int)≠c.Width)) hjl h)
      have HY:=hh_ (fun h:decide ((rows[j].length:Int)≠c.Width)=false=>(fun i (hi:i<rows.length) (hij:i<j+1)=>by
       by_cases e:i=j
       ·subst e;exact h
       ·exact Hall.out i hi (by omega):∀i,(hi:i<rows.length)→i<j+1→decide ((rows[i].length:Int)≠c.Width)=false))
      generalize vs[j]=u at *;generalize rows[j]=row at *;obtain⟨ra,rc,rfl⟩:=hRR.shape;clear hRR
      go_wp2_with fail
      ·have h :((row.length:Int) != c.Width)=true:=by assumption
       have hb:Mb_ c.Width rows=true:=HN.out (dt_ (bne_iff_ne.1 h))
       have hz:SE=3:=by rw[HQ.out,if_pos hb]
       go_ret
       exact Ai_ hz hgg
      ·have h :((row.length:Int) != c.Width)=false:=by assumption
       exact⟨⟨j+1,by omega,by go_num,HY.out (df_ (fun e=>e (bne_eq_false_iff_eq.1 h))),trivial⟩,by simp[RowKit.intOf];omega⟩
     ·have hb:Mb_ c.Width rows=false:=a6_ fun i hi=>Hall.out i hi (by have:=Hvl.out;omega)
      have HQ2:=hh_ (p:=SE=if Je_ tot rows then 1 else 0) (by rw[HQ.out,if_neg (by rw[hb];decide)]);clear HQ hb Hall
      go_wp2_with fail
      go_loopw [111] (fun s111 wy=>∃j:Nat,j≤vs.length∧s111=.int .i64 j∧(∀i,(hi:i<rows.length)→i<j→gtF tot rows[i]=false)∧wr=wy) (fun s111 _=>vs.length-(RowKit.intOf s111).toNat)
      case atStart=>exact⟨0,zl_ _,rfl,by intro i _ h;omega,rfl⟩
      case round=>
       clear hj hjv;obtain⟨j,hj,rfl,hall,rfl⟩:=hrel;have Hall:=hh_ hall;clear hall
       by_cases hjv:j<vs.length
       ·have hjl:j<rows.length:=by have:=Hvl.out;omega
        obtain⟨g,off,cap,hv,hgl,c1⟩:=(HRow.out.same hgg).rd.one Nt_ hjv;cases hv;have hRR:=(HRow.out.same hgg).all j vs[j] rows[j] (gq_ hjv) (gq_ hjl);have hrow:=Hsl.out _ (mg_ hjl);have HN:=hh_ (fun h:gtF tot rows[j]=true=>Uw_ (p:=gtF tot) hjl h)
        have HY:=hh_ (fun h:gtF tot rows[j]=false=>(fun i (hi:i<rows.length) (hij:i<j+1)=>by
         by_cases e:i=j
         ·subst e;exact h
         ·exact Hall.out i hi (by omega):∀i,(hi:i<rows.length)→i<j+1→gtF tot rows[i]=false))
        generalize vs[j]=u at *;generalize rows[j]=row at *;obtain⟨ra,rc,rfl⟩:=hRR.shape;have HRR:=hh_ hRR;clear hRR
        go_wp2_with fail
        go_loopw [117] (fun s117 wy=>∃k:Nat,k≤row.length∧s117=.int .i64 k∧(∀i,(hi:i<row.length)→i<k→decide (tot<row[i])=false)∧wr=wy) (fun s117 _=>row.length-(RowKit.intOf s117).toNat)
        case atStart=>exact⟨0,zl_ _,rfl,by intro i _ h;omega,rfl⟩
        case round=>
         obtain⟨k,hk,rfl,hall,rfl⟩:=hrel;have Hal2:=hh_ hall;clear hall
         by_cases hkl:k<row.length
         ·obtain⟨gx,offx,capx,hvx,hgx,cx⟩:=HRR.out.one Ca_ hkl
          cases hvx;have HN2:=hh_ (fun h:decide (tot<row[k])=true=>dn_ hkl h)
          have HY2:=hh_ (fun h:decide (tot<row[k])=false=>(fun i (hi:i<row.length) (hij:i<k+1)=>by
           by_cases e:i=k
           ·subst e;exact h
           ·exact Hal2.out i hi (by omega):∀i,(hi:i<row.length)→i<k+1→decide (tot<row[i])=false))
          generalize row[k]=x at *
          go_wp2_with fail
          ·have hb:Je_ tot rows=true:=HN.out (HN2.out (dt_ (by assumption)))
           have hz:SE=1:=by rw[HQ2.out,if_pos hb]
           go_ret
           exact Ai_ hz hgg
          ·exact⟨⟨k+1,by omega,by go_num,HY2.out (df_ (by omega)),trivial⟩,by simp[RowKit.intOf];omega⟩
         ·have hgt:=HY.out (gtF_no fun i hi=>Hal2.out i hi (by omega))
          have Hgt:=hh_ hgt;clear hgt
          go_wp2_with fail
          exact⟨⟨j+1,by omega,by go_num,Hgt.out,trivial⟩,by simp[RowKit.intOf];omega⟩
       ·have hb:Je_ tot rows=false:=a6_ fun i hi=>Hall.out i hi (by have:=Hvl.out;omega)
        have hz:SE=0:=by rw[HQ2.out,if_neg (by rw[hb];decide)]
        have Hz:=hh_ hz;clear hz hb
        go_wp2_with fail
        go_ret
        exact Ai_ Hz.out hgg
   ·have h0:¬0<vs.length:=by assumption
    have HQ:=hh_ (HSE.out.trans ((if_neg (by omega)).trans (Vz_ (d:=c.Depth) (n:=c.Width) (t:=tot) Hvl.out h0)))
    have hz:SE=0:=by
     have hr0:rows=[]:=List.length_eq_zero_iff.1 (by have:=Hvl.out;omega);rw[HQ.out,hr0];rfl
    have Hz:=hh_ hz;clear HSE HQ hz
    go_loopw [98] (fun s98 wy=>s98=.int .i64 0∧wr=wy) (fun _ _=>0)
    case atStart=>exact⟨rfl,rfl⟩
    case round=>
     obtain⟨rfl,rfl⟩:=hrel
     go_wp2_with fail
     go_loopw [111] (fun s111 wy=>s111=.int .i64 0∧wr=wy) (fun _ _=>0)
     case atStart=>exact⟨rfl,rfl⟩
     case round=>
      obtain⟨rfl,rfl⟩:=hrel
      go_wp2_with fail
      go_ret
      exact Ai_ Hz.out hgg
end
section
open Go.RowKit
attribute [local go_sem ↓] Ag_
attribute [local go_sem] Ah_
theorem Xx_ (c:Cfg) (t:List Int) (lv:Value) (l:List Summ) (w:World) (h:RCfg w c t) (hl:Cn_ w lv l) (hs:Dz_ l) :
  Calls Tryz.prog 129 #[c.val,lv] w (RetInt (mergeErr c l) w):=by
 obtain⟨la,lc,rfl⟩:=hl.rd.shape;have H:=hh_ h;have HL:=hh_ hl;have Hs:=hh_ hs;have hlm:=hl.rd.2.1
 have h11 :(l.length:Int)≠c.Shards→mergeErr c l=11:=fun h=>by unfold mergeErr;rw[if_pos h]
 have hme :(l.length:Int)=c.Shards→mergeErr c l=if D1_ c l≠0 then D1_ c l else if 9223372036854775808<totalF l then 12 else 0:=fun h=>by unfold mergeErr;rw[if_neg (fun e=>e h)]
 have H11:=hh_ h11;have Hme:=hh_ hme
 have Ht:=hh_ fun w' (hg:w.grownBy w' none)=>Pk_ _ l w' (hl.same hg)
 clear h hl hs h11 hme;generalize mergeErr c l=ME at *
 go_enter func129,ntmps129
 go_upto_region 1 with(refine Au_ rfl _ rfl c rfl ?_;intro w1 B1 G1 z1)
 go_wp2_with (first |(refine Al_ rfl _ rfl _ rfl c (by assumption) ?_) |(go_at_call 110;refine(E8_ c t _ (H.out.same G1)).mono ?_;rintro e w2 ⟨rfl,G2⟩;have BC:=B1.same G2;have bc:=BC.cell))
 ·go_ret
  exact Ai_ (H11.out (bne_iff_ne.1 (by assumption))) (Aa_ G1 G2)
 have h18 :((l.length:Int) != c.Shards)=false:=by assumption
 have HM:=hh_ (Hme.out (bne_eq_false_iff_eq.1 h18));rw[h18]
 rename_i h19 _ _
 clear h18 h19;have hg:=Aa_ G1 G2;clear H11 Hme G1 B1 G2 bc
 go_loopw [21] (fun s21 wr=>∃(j:Nat),j≤l.length∧s21=.int .i64 j∧(∀i,(hi:i<l.length)→i<j→sumErr c.Depth c.Width l[i]=0)∧w2.grownBy wr none) (fun s21 _=>l.length-(RowKit.intOf s21).toNat)
 case atStart=>exact⟨0,zl_ _,rfl,by intro i _ h;omega,Ab_ _ _⟩
 case round=>
  obtain⟨j,hj,rfl,hall,hgr⟩:=hrel;have Hall:=hh_ hall;clear hall;have hgg:=Aa_ hg hgr;have BCr:=BC.same hgr
  by_cases hlt:j<l.length
  ·obtain⟨g,off,cap,hv,hgl,c0,c1,c2,c3,hR,hW⟩:=(HL.out.same hgg).at_ hlt
   cases hv;have hsm:=Hs.out _ (mg_ hlt)
   have hcall:=fun w' (h':wr.grownBy w' none)=>Rh_ c l[j] w' (hR.same h') hW hsm
   obtain⟨a1,k1,e1⟩:=hR.es.shape;obtain⟨a2,k2,e2⟩:=hR.vs.shape;rw[e1] at c1 hcall;rw[e2] at c3 hcall
   have hat:=fun h=>c2_ (c:=c) hlt Hall.out h
   have hno:=fun(h:sumErr c.Depth c.Width l[j]=0)=>(fun i hi (hij:i<j+1)=>by
    by_cases e:i=j
    ·subst e;exact h
    ·exact Hall.out i hi (by omega):∀i,(hi:i<l.length)→i<j+1→sumErr c.Depth c.Width l[i]=0)
   clear hR hW hsm e1 e2
   by_cases hz:sumErr c.Depth c.Width l[j]=0
   ·have Hno:=hh_ (hno hz)
    rw[hz] at hcall;have Hc:=hh_ hcall;clear hz hno hat hcall;generalize l[j].total=x0 at *;generalize l[j].untr=x2 at *
    go_wp2_with (first |(refine Al_ rfl _ rfl _ rfl c (BCr.same (ga_ _ _ _)) ?_) |(go_at_call 169;refine(Hc.out _ gw_).mono ?_;rintro e w5 ⟨rfl,G5⟩))
    exact⟨⟨j+1,by omega,by go_num,Hno.out,Aa_ hgr (Aa_ (ga_ _ _ _) G5)⟩,by simp[RowKit.intOf];omega⟩
   ·have Hq:=hh_ (p:=ME=sumErr c.Depth c.Width l[j]) (by rw[HM.out,hat hz,if_pos hz])
    have Hc:=hh_ hcall;clear hno hat hcall HM;generalize sumErr c.Depth c.Width l[j]=ee at *;have hz2 :(ee != 0)=true:=bne_iff_ne.2 hz;generalize l[j].total=x0 at *;generalize l[j].untr=x2 at *
    go_wp2_with (first |(refine Al_ rfl _ rfl _ rfl c (BCr.same (ga_ _ _ _)) ?_) |(go_at_call 169;refine(Hc.out _ gw_).mono ?_;rintro e w5 ⟨rfl,G5⟩))
    go_ret
    exact Ai_ Hq.out (Aa_ hgg (Aa_ (ga_ _ _ _) G5))
  ·have hsz:D1_ c l=0:=a8_ fun i hi=>Hall.out i hi (by omega)
   have hME:ME=if 9223372036854775808<totalF l then 12 else 0:=by rw[HM.out,hsz,if_neg (by decide)]
   have HME:=hh_ hME;clear hsz hME HM Hall;generalize totalF l=T at *
   go_wp2_with (first |(refine Al_ rfl _ rfl _ rfl c (by assumption) ?_) |(go_at_call 97;refine(Ht.out _ hgg).mono ?_;rintro e w5 ⟨rfl,G5⟩))
   ·go_ret
    exact Ai_ (HME.out.trans (if_pos (by assumption))) (Aa_ hgg G5)
   ·go_ret
    exact Ai_ (HME.out.trans (if_neg (by omega))) (Aa_ hgg G5)
end
section
open Go.RowKit
attribute [local go_sem ↓] Ag_
attribute [local go_sem] Ah_
theorem c7_ (c:Cfg) (t:List Int) (lv:Value) (l:List Summ) (w:World) (h:RCfg w c t) (hl:Cn_ w lv l) (hs:Dz_ l) :
  Calls Tryz.prog 100 #[c.val,lv] w (RetWord (restF c l) w):=by
 obtain⟨la,lc,rfl⟩:=hl.rd.shape;have HL:=hh_ hl;have hlm:=hl.rd.2.1;obtain⟨s1,s2⟩:=h.shards;obtain⟨s3,s4⟩:=h.spread
 have Hc:=hh_ fun w' (hg:w.grownBy w' none)=>Xx_ c t _ l w' (h.same hg) (hl.same hg) hs
 clear h hl hs
 by_cases hz:mergeErr c l=0
 ·have hlen:=Ua_ hz
  obtain⟨N,hN⟩:∃N,c.Spread.toNat=N:=⟨_,rfl⟩;have HR:=hh_ (p:=restF c l=restI c.Shards N l l.length) (by unfold restF;rw[if_neg (by omega),hN,←hlen];rfl)
  have hN1:c.Spread =(N:Int):=by omega
  have hN2:N≤8:=by omega
  have hl8:l.length≤8:=by omega
  have hl1:1≤l.length:=by omega
  have Hlen:=hh_ hlen;have HN1:=hh_ hN1
  have HAf:=hh_ fun(k:Nat) (hk:k<l.length) (w':World)=>T9_ c k w' ⟨s1,s2⟩ ⟨s3,s4⟩ ⟨by omega,by omega⟩
  have HIn:Hid (∀k:Nat,∀x∈setN (k:Int) c.Shards N,0≤x∧x<(l.length:Int)):=hh_ fun k x hx=>by
   have:=Nz_ s1 x hx
   rw[hlen];exact this
  rw[hN] at HAf
  have hmod:∀(h:Nat) (i:Nat),0≤((h:Int)+i)%c.Shards∧((h:Int)+i)%c.Shards<l.length:=fun h i=>⟨Int.emod_nonneg _ (by omega),by rw[hlen];exact Int.emod_lt_of_pos _ (by omega)⟩
  have Hmod:=hh_ hmod;rw[hz] at Hc;have hsz :(c.Shards==0)=false:=bf_ (by omega);clear hz hN hN1 hlen hmod
  go_enter func100,ntmps100
  go_upto_region 1 with(refine Au_ rfl _ rfl c rfl ?_;intro w1 B1 G1 z1)
  go_wp2_with (first |(refine Al_ rfl _ rfl _ rfl c (by assumption) ?_) |(go_at_call 129;refine(Hc.out _ G1).mono ?_;rintro e w2 ⟨rfl,G2⟩;have BC:=B1.same G2;have bc:=BC.cell))
  have hg:=Aa_ G1 G2;clear G1 B1 G2 bc Hc
  go_loopw [5,6] (fun s5 s6 wr=>∃(k:Nat),k≤l.length∧s6=.int .i64 k∧s5=.int .u64 (restI c.Shards N l k)∧W64 (restI c.Shards N l k)∧w2.grownBy wr none) (fun _ s6 _=>l.length-(RowKit.intOf s6).toNat)
  case atStart=>exact⟨0,zl_ _,rfl,rfl,Dr_,Ab_ _ _⟩
  case round=>
   obtain⟨k,hk,rfl,rfl,hT,hgr⟩:=hrel;have BCr:=BC.same hgr;have bcr:=BCr.cell
   by_cases hlt:k<l.length
   ·have hlt2 :(k:Int)<c.Shards:=by have:=Hlen.out;omega
    have HS:=hh_ (I6_ c.Shards N l k);have hin:=HIn.out k;have hON:=Gf_ k c.Shards N;have HA2:=hh_ (HAf.out k hlt);generalize restI c.Shards N l k=T at *;generalize setN k c.Shards N=O at *;have Hin:=hh_ hin;clear hin
    go_wp2_with (first |(refine Al_ rfl _ rfl _ rfl c (by assumption) ?_) |(go_at_call 130;refine(HA2.out _).mono ?_;rintro e w3 ⟨ov,rfl,hov,G3⟩;obtain⟨oa,oc,rfl⟩:=hov.shape))
    have HO:=hh_ hov.rd;have hgg:=Aa_ (Aa_ hg hgr) G3;clear hov bcr
    go_loopw [7,24] (fun s7 s24 wi=>∃(i:Nat),i≤O.length∧s24=.int .i64 i∧s7=.int .u64 (uF l (O.take i))∧W64 (uF l (O.take i))∧w3=wi) (fun _ s24 _=>O.length-(RowKit.intOf s24).toNat)
    case atStart=>exact⟨0,zl_ _,rfl,rfl,Dr_,rfl⟩
    case round=>
     obtain⟨i,hi,rfl,rfl,hU,rfl⟩:=hrel
     by_cases hil:i<O.length
     ·obtain⟨go,offo,capo,hvo,hgo,co⟩:=HO.out.one Of_ hil
      cases hvo;obtain⟨m1,m2⟩:=Hin.out _ (mg_ hil);have HS2:=hh_ (B4_ hil);have HU2:=hh_ (b0_ l (O.take i) O[i]);generalize O[i]=q at *;obtain⟨n,rfl⟩:=Int.eq_ofNat_of_zero_le m1
      have hnl:n<l.length:=by omega
      obtain⟨g,off,cap,hv,hgl,c0,c1,c2,c3,hR,hW⟩:=(HL.out.same hgg).at_ hnl;cases hv;have hwu:=hW.untr;have HA:=hh_ (d4_ hnl);have hW2:=B9_ hU hwu;generalize l[n].untr=u at *;generalize uF l (O.take i)=U at *;clear hR hW c0 c1 c3
      go_wp2_with (go_at_call 68;refine(Eg_ U u _ hU hwu).mono ?_;rintro e w' ⟨rfl,rfl⟩)
      exact⟨⟨i+1,by omega,by go_num,by rw[HS2.out,HU2.out,HA.out],by rw[HS2.out,HU2.out,HA.out];exact hW2,trivial⟩,by simp[RowKit.intOf];omega⟩
     ·have hle:O.take i=O:=tk_ (by omega)
      rw[hle] at hU ⊢;clear hle;generalize uF l O=U at *
      go_wp2_with fail
      refine⟨⟨k+1,by omega,by go_num,?_,?_,Aa_ hgr G3⟩,by simp[RowKit.intOf];omega⟩
      ·rw[HS.out]
      ·rw[HS.out];unfold W64 at *;omega
   ·have hlt2:¬(k:Int)<c.Shards:=by have:=Hlen.out;omega
    have hkl:k=l.length:=by omega
    have HF:=hh_ (p:=restF c l=restI c.Shards N l k) (by rw[hkl];exact HR.out);generalize restI c.Shards N l k=T at *
    go_wp2_with fail
    go_ret
    exact Bs_ HF.out (Aa_ hg hgr)
 ·have HF:=hh_ (p:=restF c l=0) (by unfold restF;rw[if_pos hz])
  generalize mergeErr c l=ME at *;have hz2 :(ME != 0)=true:=bne_iff_ne.2 hz
  go_enter func100,ntmps100
  go_upto_region 1 with(refine Au_ rfl _ rfl c rfl ?_;intro w1 B1 G1 z1)
  go_wp2_with (first |(refine Al_ rfl _ rfl _ rfl c (by assumption) ?_) |(go_at_call 129;refine(Hc.out _ G1).mono ?_;rintro e w2 ⟨rfl,G2⟩))
  go_ret
  exact Bs_ HF.out (Aa_ G1 G2)
end
section
open Go.RowKit Go.Sort
attribute [local go_sem ↓] Ag_
attribute [local go_sem] Ah_
structure FewB (c:Cfg) (t:List Int) (lv:Value) (l:List Summ) (w:World):Prop where
 rcfg:RCfg w c t
 sums:Cn_ w lv l
 ok:F0_ l
 small:Dz_ l
 keys :(keysL l).length≤10000
 top:1≤c.Top∧c.Top≤64
theorem FewB.same {c:Cfg} {t:List Int} {lv:Value} {l:List Summ} {w w':World} (h:FewB c t lv l w) (hg:w.grownBy w' none):FewB c t lv l w':=⟨h.rcfg.same hg,h.sums.same hg,h.ok,h.small,h.keys,h.top⟩
theorem Fk_ {l:List Summ} (h:F0_ l):W64 (totalF l):=by
 have:∀(l:List Summ) (a:Int),(∀s∈l,SumW s)→W64 a→W64 (l.foldl (fun n s=>satA n s.total) a):=by
  intro l
  induction l with
  | nil=>exact fun a _ ha=>ha
  | cons s l ih=>exact fun a hl ha=>ih _ (fun x hx=>hl x (by simp[hx])) (B9_ ha (hl s (by simp)).total)
 exact this l 0 h.wf Dr_
theorem Pn_ {c:Cfg} {t:List Int} {l:List Summ} (ho:F0_ l) (hs:Dz_ l):∀x∈allF c t l,LnW x:=by
 intro x hx;obtain⟨b,hb,rfl⟩:=List.mem_map.1 hx
 have:=Rx_ (c:=c) (t:=t) ho (bA b) ((setF c t (bA b)).filter (fun i:Int=>decide (i<(l.length:Int))))
 refine⟨this.1,this.2,?_⟩;obtain⟨s,hs',e,he,rfl⟩:=Lw_ hb
 have:=(hs s hs').key e he
 show(entK e).toArray.size≤_
 simpa [entK] using this
theorem R7_ (c:Cfg) (t:List Int) (lv:Value) (l:List Summ) (rv:Value) (rej:List Int) (win:Int) (w:World) (hF:FewB c t lv l w) (hr:RdL wordF 1 w rv rej) (hrl:rej.length≤1000000) :
  Calls Tryz.prog 57 #[c.val,.int .i64 win,lv,rv] w (H7_ c t l win rej w):=by
 have hHt:=Fk_ hF.ok
 have hlw:∀x∈bLs c t l,LnW x:=fun x hx=>Pn_ hF.ok hF.small x (Jd_ (List.mem_of_mem_take hx))
 have hk13:=lt_ (Hv_ l) hF.keys;have hal:=We_ c t l;have htop:=hF.top
 have key_few:∀s∈l,∀e∈s.es,e.key.size≤9223372036854775807:=fun s hs e he=>(hF.small s hs).key e he
 have hkl:=hF.keys;have HP:=hh_ (p:=∀(e:Ending) (w':World),(∃vl vr,e=.returned (repV win (totalF l) vl (bOver c t l) ((keysF l).length:Int) (bRest c t l) vr)∧RdL lnF 3 w' vl (bLs c t l)∧RdL wordF 1 w' vr rej∧CapOk vl∧CapOk vr∧From w.heap.size vl∧From w.heap.size vr∧w.grownBy w' none)→H7_ c t l win rej w e w') (fun _ _ h=>h)
 have Hc1:=hh_ fun w' (h:World.grownBy w w' none)=>fj_ c t _ l w' (hF.same h).rcfg (hF.same h).sums (hF.same h).ok (by omega) key_few
 have Hc2:=hh_ (p:=∀w' v,RdL lnF 3 w' v (allF c t l)→Calls Tryz.prog 95 #[v,.int .i64 c.Top] w' (fun e w2=>∃v1 v2,e=.returned (.tuple #[v1,v2])∧RdL lnF 3 w2 v1 (bLs c t l)∧RdL lnF 3 w2 v2 (bOm c t l)∧CapOk v1∧From w'.heap.size v1∧From w'.heap.size v2∧w'.grownBy w2 none)) (fun w' v h=>es_ v _ c.Top w' h (by omega) (by omega) (by omega))
 have Hc3:=hh_ fun w' (h:World.grownBy w w' none)=>Pk_ lv l w' (hF.same h).sums
 have HLW:=hh_ hlw;have Hc5:=hh_ (p:=∀w',∃q,Calls Tryz.prog 101 #[.int .u64 (totalF l),.int .u64 (satL (loSum (bLs c t l)))] w' (fun e w2=>e=.returned (.tuple #[.int .u64 (bOver c t l),.bool q])∧w'=w2)) (fun w'=>⟨_,ed_ _ _ w' hHt (Ja_ (loSum_pos fun x hx=>(hlw x hx).lo.1))⟩);have Hc6:=hh_ (p:=∀w',World.grownBy w w' none→Calls Tryz.prog 98 #[lv] w' (fun e w2=>∃a cp,e=.returned (.slice a (keysF l).length cp)∧w'.grownBy w2 none)) (fun w' h=>(Wa_ lv l w' (hF.same h).sums (by omega)).mono fun e w2 ⟨v,h1,h2,h3⟩=>by obtain⟨a,cp,hv⟩:=h2.shape;exact⟨a,cp,hv▸h1,h3⟩)
 have Hc7:=hh_ fun w' (h:World.grownBy w w' none)=>c7_ c t lv l w' (hF.same h).rcfg (hF.same h).sums (hF.same h).small
 have Hc8:=hh_ (p:=∀w' v,RdL lnF 3 w' v (bOm c t l)→Calls Tryz.prog 99 #[v,.int .u64 (restF c l)] w' (RetWord (bRest c t l) w')) (fun w' v h=>dz_ v _ _ w' h);have HR:=hh_ hr;have hrb:=hr.2.1
 have hb1:rej.length*8≤140737488355328:=by omega
 have hb2:rej.length≤9223372036854775807:=by omega
 obtain⟨ra,rc,rfl⟩:=hr.shape;obtain⟨la,lcp,rfl⟩:=hF.sums.rd.shape;clear hF hr hHt hlw hk13 hal htop hrl hrb key_few hkl;generalize allF c t l=AL at *;generalize bLs c t l=Ls at *;generalize bOm c t l=Om at *;generalize totalF l=tot at *;generalize bOver c t l=ov at *;generalize bRest c t l=rst at *;generalize restF c l=rs0 at *;generalize (keysF l).length=K at *
 go_enter func57,ntmps57
 go_upto_region 1 with(refine Au_ rfl _ rfl c rfl ?_;intro w1 B1 G1 z1)
 have hb0:w.heap.size<w1.heap.size:=z1;have hbb:w.heap.size≤w1.heap.size:=Nat.le_of_lt z1;have B2:=B1.same (ga_ w1 (.cells #[.int .i64 0,.int .u64 0,.slice none 0 0,.int .u64 0,.int .i64 0,.int .u64 0,.slice none 0 0] 26) none);have A2:=Blk.new w1 #[.int .i64 0,.int .u64 0,.slice none 0 0,.int .u64 0,.int .i64 0,.int .u64 0,.slice none 0 0] 26;have G2:=Ad_ G1 (.cells #[.int .i64 0,.int .u64 0,.slice none 0 0,.int .u64 0,.int .i64 0,.int .u64 0,.slice none 0 0] 26);generalize w1.alloc _=w2 at *;generalize w1.heap.size=rb at *;clear B1 G1 z1;have B6:=B2.same (w':=w2.drew) gw_;have C6:=A2.same (w':=w2.drew) gw_;have K6:=Aa_ G2 (show World.grownBy w2 w2.drew none from gw_);have hbr6:rb<w2.drew.heap.size:=C6.lt
 (refine rn_ 11 (fun k _ w v w'=>match k with | 2=>RdL lnF 3 w' v AL∧World.grownBy w w' none | 5=>(∃v1 v2,v=.tuple #[v1,v2]∧RdL lnF 3 w' v1 Ls∧RdL lnF 3 w' v2 Om∧CapOk v1∧From w.heap.size v1∧From w.heap.size v2)∧World.grownBy w w' none | _=>False) ?_;simp only[ts_])
 clear A2 B2 G2;generalize w2.drew=w6 at *
 (refine to_ ?_;intro x0 mx0 dx0)
 clear dx0;have BX:=B6.same mx0
 go_wp2_with (refine Al_ rfl _ rfl _ rfl c (by assumption) ?_)
 refine⟨Ab_ _ _,?_⟩;clear BX
 (refine tq_ 1 ?_;(repeat(go_big_quiet_step (fail)));refine wn_ ?_)
 (refine tc_ ?_;intro x3 mx3 dx3;refine⟨?_,?_⟩;· (unfold Rg.callSpec;go_simp;(refine(Hc1.out x3 (Aa_ K6 mx3)).mono ?_;rintro e w' ⟨v,rfl,o,g⟩;exact⟨v,rfl,o.rd,g⟩)))
 clear dx3;rintro v3 y3 ⟨R3,g3⟩;refine⟨g3,?_⟩;simp only[pt_]
 (refine tq_ 1 ?_;(repeat(go_big_quiet_step (fail)));refine wn_ ?_)
 (refine to_ ?_;intro x5 mx5 dx5)
 clear dx5;have bx:=(B6.same mx5).cell
 go_wp2_with fail
 refine⟨Ab_ _ _,?_⟩;clear bx
 (refine tc_ ?_;intro x6 mx6 dx6;refine⟨?_,?_⟩;· (unfold Rg.callSpec;go_simp;(refine(Hc2.out x6 _ (RdL.same R3 (dx6.out 2 (by omega) (by kernel_rfl)))).mono ?_;rintro e w' ⟨v1,v2,rfl,h1,h2,h3,h4,h5,g⟩;exact⟨_,rfl,⟨v1,v2,rfl,h1,h2,h3,h4,h5⟩,g⟩)))
 clear dx6;rintro v6 y6 ⟨⟨v1,v2,rfl,R1,R2,hc1,hf1,hf2⟩,g6⟩;refine⟨g6,?_⟩;simp only[pt_];have hbx6:rb<x6.heap.size:=ll_ hbr6 mx6.size
 (refine tq_ 5 ?_;(repeat(go_big_quiet_step (fail)));refine wn_ ?_)
 (refine Rg.tree_nil ?_;intro x7 mx7 dx7 cx7)
 have RA7:=R1.same (dx7.out 5 (by omega));have RB7:=R2.same (dx7.out 5 (by omega));have C7:=C6.same mx7;have B7:=B6.same mx7;have K7:=Aa_ K6 mx7;clear R1 R2 R3 g3 g6 mx0 mx3 mx5 mx6 mx7 dx7 cx7 C6 B6 K6 y3 y6;obtain⟨a1,k1,rfl⟩:=RA7.shape;obtain⟨a2,k2,rfl⟩:=RB7.shape
 have hx6:w.heap.size≤x6.heap.size:=by omega
 clear x0 x3 x5
 go_upto_region 2 with fail
 have hb7:rb<x7.heap.size:=C7.lt;have B8:=B7.same (w':=x7.drew) gw_;have C8:=C7.same (w':=x7.drew) gw_;have RA8:=RA7.same (w':=x7.drew) gw_;have RB8:=RB7.same (w':=x7.drew) gw_;have K8:=Aa_ K7 (show World.grownBy x7 x7.drew none from gw_);have hb8:rb<x7.drew.heap.size:=hb7
 (refine rn_ 17 (fun k _ w v w'=>match k with | 2=>v=.int .u64 tot∧World.grownBy w w' none | 5=>(∃a cp,v=.slice a K cp)∧World.grownBy w w' none | 10=>v=.int .u64 rs0∧World.grownBy w w' none | 11=>v=.int .u64 rst∧World.grownBy w w' none | _=>False) ?_;simp only[ts_])
 clear B7 C7 RA7 RB7 K7 hb7;generalize x7.drew=w8 at *
 (refine tq_ 2 ?_;(repeat(go_big_quiet_step (fail)));refine wn_ ?_)
 (refine tc_ ?_;intro y2 my2 dy2;refine⟨?_,?_⟩;· (unfold Rg.callSpec;go_simp;(refine(Hc3.out y2 (Aa_ K8 my2)).mono ?_;rintro e w' ⟨rfl,g⟩;exact⟨_,rfl,rfl,g⟩)))
 clear dy2;rintro v2 e2 ⟨rfl,g2⟩;refine⟨g2,?_⟩;simp only[pt_]
 (refine tq_ 2 ?_;(repeat(go_big_quiet_step (fail)));refine wn_ ?_)
 (refine tc_ ?_;intro y5 my5 dy5;refine⟨?_,?_⟩;· (unfold Rg.callSpec;go_simp;(refine(Hc6.out y5 (Aa_ K8 my5)).mono ?_;rintro e w' ⟨a,cp,rfl,g⟩;exact⟨_,rfl,⟨a,cp,rfl⟩,g⟩)))
 clear dy5;rintro v5 e5 ⟨⟨ka,kc,rfl⟩,g5⟩;refine⟨g5,?_⟩;simp only[pt_]
 (refine tq_ 2 ?_;(repeat(go_big_quiet_step (fail)));refine wn_ ?_)
 (refine to_ ?_;intro y8 my8 dy8)
 clear dy8;have BX:=B8.same my8
 go_wp2_with (refine Al_ rfl _ rfl _ rfl c (by assumption) ?_)
 refine⟨Ab_ _ _,?_⟩;clear BX
 (refine tq_ 1 ?_;(repeat(go_big_quiet_step (fail)));refine wn_ ?_)
 (refine tc_ ?_;intro y10 my10 dy10;refine⟨?_,?_⟩;· (unfold Rg.callSpec;go_simp;(refine(Hc7.out y10 (Aa_ K8 my10)).mono ?_;rintro e w' ⟨rfl,g⟩;exact⟨_,rfl,rfl,g⟩)))
 clear dy10;rintro v10 e10 ⟨rfl,g10⟩;refine⟨g10,?_⟩;simp only[pt_]
 (refine tc_ ?_;intro y11 my11 dy11;refine⟨?_,?_⟩;· (unfold Rg.callSpec;go_simp;(refine(Hc8.out y11 _ (RB8.same my11)).mono ?_;rintro e w' ⟨rfl,g⟩;exact⟨_,rfl,rfl,g⟩)))
 clear dy11;rintro v11 e11 ⟨rfl,g11⟩;refine⟨g11,?_⟩;simp only[pt_]
 (refine to_ ?_;intro y12 my12 dy12)
 clear dy12;have hz12:w8.heap.size≤y12.heap.size:=my12.size
 go_wp2_with fail
 refine⟨ga_ _ _ _,?_⟩;have N12:=Aw_ (e:=22) wordF 1 hz12
 have hs12 :(y12.alloc (.cells #[] 22)).heap.size=y12.heap.size+1:=by simp
 generalize y12.alloc _=e12 at *;generalize hgy:y12.heap.size=g12 at *;have Hgy:=hh_ hgy;clear hgy
 (refine tq_ 1 ?_;(repeat(go_big_quiet_step (fail)));refine wn_ ?_)
 (refine to_ ?_;intro y14 my14 dy14)
 have N14:=N12.same (dy14.out 12 (by omega) (by kernel_rfl));have R14:=RdL.same HR.out (Aa_ K8 my14);have z14:=my14.size;clear dy14
 go_wp2_with (at_builtin;refine A2_ Y2_ W0_ N14 R14 rfl hb1 hb2 z14 (by rfl) _ _ (by rfl) (by rfl) (by rfl) ?_;intro v14 e14 o14 g14 l14;have Hg14:=hh_ g14;clear g14)
 refine⟨Hg14.out,?_⟩;clear R14 N14 z14;obtain⟨a14,k14,rfl⟩:=o14.shape
 (refine tq_ 1 ?_;(repeat(go_big_quiet_step (fail)));refine wn_ ?_)
 (refine to_ ?_;intro y16 my16 dy16)
 clear dy16
 go_wp2_with fail
 refine⟨ga_ _ _ _,?_⟩;have A16:=Blk.new y16 #[.int .i64 0,.int .u64 0,.slice none 0 0,.int .u64 0,.int .i64 0,.int .u64 0,.slice none 0 0] 26
 have hs16 :(y16.alloc (.cells #[.int .i64 0,.int .u64 0,.slice none 0 0,.int .u64 0,.int .i64 0,.int .u64 0,.slice none 0 0] 26)).heap.size=y16.heap.size+1:=by simp
 have hz16:w8.heap.size≤y16.heap.size:=my16.size;generalize y16.alloc _=e16 at *;generalize hgy2:y16.heap.size=br at *
 (refine Rg.tree_nil ?_;intro wz mwz dwz cwz)
 have q1:e12.grownBy y16 none∨e16.grownBy y12 none:=cwz.out 12 16 (by omega) (by omega) (by omega);have q2:e14.grownBy y16 none∨e16.grownBy y14 none:=cwz.out 14 16 (by omega) (by omega) (by omega)
 have hne:∀k,(Value.slice a14 rej.length k14).ownBlock=some k→k≠br:=by
  intro k hk e;subst e;have hy:=Hgy.out
  rcases q2 with h|h
  ·have h1:=(o14.lt _ hk).2
   have h2:=h.size
   omega
  ·have h1:=h.size
   rcases l14 with e |⟨m,e,h2⟩
   ·rw[hk] at e
    have e3:k=g12:=by simpa [Value.ownBlock] using e
    rcases q1 with h|h
    ·have:=h.size;omega
    ·have:=h.size;omega
   ·rw[hk] at e
    cases e
    omega
 have Az:=A16.same (dwz.out 16 (by omega));have o9:=o14.same (dwz.out 14 (by omega));clear my2 g2 my5 g5 my8 my10 g10 my11 g11 my12 hs12 Hgy my14 Hg14 l14 my16 hs16 q1 q2 A16 o14 N12 hgy2 dwz cwz;have a9:=Az.cell;have f9:=Az.free
 go_upto_region 4 with fail
 clear a9 f9;have hgr:World.grownBy wz (((((((wz.setCell ⟨br,0,none⟩ (.int .i64 win)).setCell ⟨br,1,none⟩ (.int .u64 tot)).setCell ⟨br,2,none⟩ (.slice a1 Ls.length k1)).setCell ⟨br,3,none⟩ (.int .u64 0)).setCell ⟨br,4,none⟩ (.int .i64 K)).setCell ⟨br,5,none⟩ (.int .u64 rst)).setCell ⟨br,6,none⟩ (.slice a14 rej.length k14)) (some br):=Ac_ (Ac_ (Ac_ (Ac_ (Ac_ (Ac_ (Ac_ (Ab_ _ _) _ _) _ _) _ _) _ _) _ _) _ _) _ _;have hAr:Blk (((((((wz.setCell ⟨br,0,none⟩ (.int .i64 win)).setCell ⟨br,1,none⟩ (.int .u64 tot)).setCell ⟨br,2,none⟩ (.slice a1 Ls.length k1)).setCell ⟨br,3,none⟩ (.int .u64 0)).setCell ⟨br,4,none⟩ (.int .i64 K)).setCell ⟨br,5,none⟩ (.int .u64 rst)).setCell ⟨br,6,none⟩ (.slice a14 rej.length k14)) br #[.int .i64 win,.int .u64 tot,.slice a1 Ls.length k1,.int .u64 0,.int .i64 K,.int .u64 rst,.slice a14 rej.length k14]:=((((((Az.set_ 0 _ rfl).set_ 1 _ rfl).set_ 2 _ rfl).set_ 3 _ rfl).set_ 4 _ rfl).set_ 5 _ rfl).set_ 6 _ rfl;generalize ((((((wz.setCell ⟨br,0,none⟩ (.int .i64 win)).setCell ⟨br,1,none⟩ (.int .u64 tot)).setCell ⟨br,2,none⟩ (.slice a1 Ls.length k1)).setCell ⟨br,3,none⟩ (.int .u64 0)).setCell ⟨br,4,none⟩ (.int .i64 K)).setCell ⟨br,5,none⟩ (.int .u64 rst)).setCell ⟨br,6,none⟩ (.slice a14 rej.length k14)=w10 at *;have M10:=Af_ mwz hgr hz16;have B10:=B8.same M10;have C10:=C8.same M10;have RA10:=RA8.same M10;have K10:=Aa_ K8 M10
 have hwbr:w.heap.size≤br:=by omega
 have o10:=o9.kept hgr (fun k hk e=>hne k hk (by cases e;rfl));have hf9:=o10.from_;have cp9:=o10.capOk;have RC10:=o10.rd;have A10:=hAr
 have hrbr:rb≠br:=by omega
 have hbw:br<w10.heap.size:=A10.lt;have o10':=o10;clear o9 o10 RC10 B8 RB8 mwz Az hAr hgr
 go_wp2_with fail
 have hlm:=RA10.2.1
 go_loopw [12,42] (fun s12 s42 wk=>∃k:Nat,k≤Ls.length∧s42=.int .i64 k∧s12=.int .u64 (satL (loSum (Ls.take k)))∧w10.grownBy wk none) (fun _ s42 _=>Ls.length-(RowKit.intOf s42).toNat)
 case atStart=>exact⟨0,zl_ _,rfl,rfl,Ab_ _ _⟩
 case round=>
  obtain⟨k,hk,rfl,rfl,hg⟩:=hrel
  by_cases hlt:k<Ls.length
  ·obtain⟨g,off,cap,hv,hgl,hc⟩:=(RA10.same hg).at_ Ar_ hlt
   cases hv;have c0:=hc 0 _ rfl;have c1:=hc 1 _ rfl;have c2:=hc 2 _ rfl;rw[Nat.add_zero] at c0;clear hc;have hx:=HLW.out Ls[k] (mg_ hlt)
   have hps:0≤loSum (Ls.take k):=loSum_pos fun x hx=>(HLW.out x (List.mem_of_mem_take hx)).lo.1
   have w1':W64 (satL (loSum (Ls.take k))):=Ja_ hps;have w2':W64 Ls[k].lo:=hx.lo;have HS:=hh_ (show satL (loSum (Ls.take (k+1)))=satA (satL (loSum (Ls.take k))) Ls[k].lo by rw[tg_ hlt,D6_,Jq_ hps w2'.1]);clear hx hps;generalize satL (loSum (Ls.take k))=T at *;generalize Ls[k]=x at *;have G2:=Ad_ hg (.cells #[.string x.key,.int .u64 x.lo,.int .u64 x.hi] 46);have A2:=(Blk.new wr #[.string x.key,.int .u64 x.lo,.int .u64 x.hi] 46).cell
   go_wp2_with (go_at_call 68;refine(Eg_ T x.lo _ w1' w2').mono ?_;rintro e w' ⟨rfl,rfl⟩)
   exact⟨⟨k+1,by omega,by go_num,by rw[HS.out],G2⟩,by simp[RowKit.intOf];omega⟩
  ·have hl:Ls.take k=Ls:=tk_ (by omega)
   rw[hl];have A11:=A10.same hg;have M11:=Aa_ M10 hg;have o11:=o10'.same hg;clear A10 C10 RA10 K10 hg B10 M10 o10';have a11:=A11.cell;have f11:=A11.free;obtain⟨qs,hqs⟩:=Hc5.out wr
   go_upto_region 10 with(go_at_call 101;refine hqs.mono ?_;rintro e w' ⟨rfl,rfl⟩)
   clear a11 f11 hqs;have A12:Blk (wr.setCell ⟨br,3,none⟩ (.int .u64 ov)) br #[.int .i64 win,.int .u64 tot,.slice a1 Ls.length k1,.int .u64 ov,.int .i64 K,.int .u64 rst,.slice a14 rej.length k14]:=A11.set_ 3 _ rfl;have G12:=Ac_ (Ab_ wr (some br)) 3 (.int .u64 ov);have M12:=Af_ M11 G12 hz16;have RA12:=RA8.same M12;have C12:=C8.same M12;have K12:=Aa_ K8 M12;have RC12:=(o11.kept G12 (fun k hk e=>hne k hk (by cases e;rfl))).rd;clear M11 G12 o11 A11 M12 RA8 C8 K8 hne;generalize wr.setCell ⟨br,3,none⟩ (.int .u64 ov)=w12 at *;have a12:=A12.cell;have f12:=C12.free;have c12:=C12.cell
   go_wp2_with fail
   clear a12 f12 c12;have hgc:World.grownBy w12 (((((((w12.setCell ⟨rb,0,none⟩ (.int .i64 win)).setCell ⟨rb,1,none⟩ (.int .u64 tot)).setCell ⟨rb,2,none⟩ (.slice a1 Ls.length k1)).setCell ⟨rb,3,none⟩ (.int .u64 ov)).setCell ⟨rb,4,none⟩ (.int .i64 K)).setCell ⟨rb,5,none⟩ (.int .u64 rst)).setCell ⟨rb,6,none⟩ (.slice a14 rej.length k14)) (some rb):=Ac_ (Ac_ (Ac_ (Ac_ (Ac_ (Ac_ (Ac_ (Ab_ _ _) _ _) _ _) _ _) _ _) _ _) _ _) _ _;have hCr:Blk (((((((w12.setCell ⟨rb,0,none⟩ (.int .i64 win)).setCell ⟨rb,1,none⟩ (.int .u64 tot)).setCell ⟨rb,2,none⟩ (.slice a1 Ls.length k1)).setCell ⟨rb,3,none⟩ (.int .u64 ov)).setCell ⟨rb,4,none⟩ (.int .i64 K)).setCell ⟨rb,5,none⟩ (.int .u64 rst)).setCell ⟨rb,6,none⟩ (.slice a14 rej.length k14)) rb #[.int .i64 win,.int .u64 tot,.slice a1 Ls.length k1,.int .u64 ov,.int .i64 K,.int .u64 rst,.slice a14 rej.length k14]:=((((((C12.set_ 0 _ rfl).set_ 1 _ rfl).set_ 2 _ rfl).set_ 3 _ rfl).set_ 4 _ rfl).set_ 5 _ rfl).set_ 6 _ rfl;generalize ((((((w12.setCell ⟨rb,0,none⟩ (.int .i64 win)).setCell ⟨rb,1,none⟩ (.int .u64 tot)).setCell ⟨rb,2,none⟩ (.slice a1 Ls.length k1)).setCell ⟨rb,3,none⟩ (.int .u64 ov)).setCell ⟨rb,4,none⟩ (.int .i64 K)).setCell ⟨rb,5,none⟩ (.int .u64 rst)).setCell ⟨rb,6,none⟩ (.slice a14 rej.length k14)=w13 at *;have RA13:=RA12.keptFrom hf1 hgc hbx6;have RC13:=RC12.keptFrom hf9 hgc hb8;have K13:=Af_ K12 hgc hbb;have rc13:=hCr.cell;clear A12 C12 K12 RA12 RC12 hgc
   have hx8:w.heap.size≤w8.heap.size:=by omega
   refine bodyPost_ret (v:=repV win tot (.slice a1 Ls.length k1) ov K rst (.slice a14 rej.length k14)) (by simp[results,results57,go_sem,rc13]) rfl ?_;exact HP.out _ _ ⟨_,_,rfl,RA13,RC13,hc1,cp9,hf1.le hx6,hf9.le hx8,K13⟩
end
end Go.Proofs.YtckmgjmeanloaaaGreat
