/- Contracts of functions, and laws. -/
import Derived.Test.YtckmgjmeanloaaaGreatBcad
set_option maxHeartbeats 8000000
set_option maxRecDepth 100000
namespace Go.Proofs.YtckmgjmeanloaaaGreat
open Go.Proofs.Tryz
variable {w w':World} {t:List Int} {k:ByteArray} {Q:Exit→Act→World→Prop} {ops:Array Oper} {o:Oper} {a:Act} {cs:Array Value}
section
open Go.RowKit Go.Sort
theorem Mo_ (own slack most:Int) (w:World) (h1:W64 own) (h2:W64 slack) (h3:W64 most) (hle:own+slack≤most):Calls prog 185 #[.int .u64 own,.int .u64 slack,.int .u64 most] w (fun e w'=>e=.returned (.bool true)∧w.grownBy w' none):=by
 unfold W64 at *;have hwr:IntKind.u64.wrap (most-own)=most-own:=IntWalk.u64_in _ (by omega);have d1:decide (own≤most)=true:=dt_ (by omega);have d2:decide (slack≤most-own)=true:=dt_ (by omega)
 go_enter func185,ntmps185
 go_wp2_with fail
 go_ret
 exact⟨rfl,Ab_ _ _⟩
theorem f5_ (g:Nat) (v:Value) (T:TabM) (k:ByteArray) (y e:Ent) (w:World) (h:RTab w g v T) (hT:B5_ T) (hg:getE T.L k=some y) (he:0<e.key.size) (ho:1≤e.own) (hs:0≤e.slack) (hn:e.key∉keysE T.L) (hok:T.swapOk y e) :
  Calls prog 166 #[.pointer (some ⟨g,0,none⟩),.string k,.agg #[.string e.key,.int .u64 e.own,.int .u64 e.slack]] w (fun en w'=>en=.returned (.tuple #[.agg #[.string (T.fix y).key,.int .u64 (T.fix y).own,.int .u64 (T.fix y).slack],.int .i64 0])∧∃v',RTab w' g v' (T.swap k e)∧Mov (rtF g v) (rtF g v') w w'):=by
 have H:=hh_ h;obtain⟨i1,hil,hie,hdel⟩:=Db_ hg;obtain⟨q1,q2,q3⟩:=hT.w64;have hym:=(Aw_ hg).1;obtain⟨⟨y1,y2⟩,⟨y3,y4⟩,y5,y6⟩:=q3 y hym;have hb:=hT.base;have hmw:mostW=9223372036854775808:=rfl;have hsum:=hT.sum
 have hlen:T.L.length≤64:=by have:=hT.len;have:=hT.m;omega
 have HG:=hh_ fun z (q:w.grownBy z none)=>Fp_ g v T k _ z (h.same q) (Wa_ hg)
 have HP0:=hh_ fun z (R:Own entF 3 224 0 z v T.L)=>Ck_ v T.L k z R.rd
 rw[i1] at HP0
 have HPe:=hh_ fun z (q:w.grownBy z none)=>Ck_ v T.L e.key z (h.same q).own.rd
 rw[Hp_ (Bj_.2 hn)] at HPe
 have HW0:=hh_ fun z (R:Own entF 3 224 0 z v T.L)=>Ee_ 0 v T.L (plN T.L k) z R hil (by omega)
 rw[←hdel] at HW0;have HR:=hh_ (show T.swap k e={ T with L:=delE T.L k++[T.swapE k e] } from rfl);have Hdl:=hh_ (B1_ hg);generalize plN T.L k=I0 at *;generalize hI :(I0:Int)=I at *;generalize delE T.L k=L1 at *;have HI:=hh_ hI;clear hI;obtain⟨a,c,hv⟩:=h.own.shape;subst hv;have hgl:=h.blk.lt;have he2:=Bm_ e.key;rw[df_ (show ¬e.key.size=0 by omega)] at he2;have hfo:=Cp_ T y
 have HC:=hh_ (show(T.mode=2∧e.own≤(T.fix y).own∧e.slack≤T.base∧T.swapE k e =⟨e.key,e.own,0⟩)∨(T.mode=1∧W64 ((T.fix y).own+(T.fix y).slack)∧e.own+e.slack≤(T.fix y).own+(T.fix y).slack∧T.swapE k e=if e.own<T.base then ⟨e.key,e.own,max e.slack (T.base-e.own)⟩ else ⟨e.key,e.own,e.slack⟩) by
  by_cases hm:T.mode=2
  ·unfold TabM.swapOk at hok;rw[if_pos hm] at hok
   exact .inl ⟨hm,by rw[Cp_];exact hok.2.1,hok.2.2,by unfold TabM.swapE;rw[if_pos hm]⟩
  ·unfold TabM.swapOk at hok;rw[if_neg hm] at hok
   rw[fix1 hm y]
   exact .inr ⟨hT.mode.resolve_right hm,⟨by omega,by omega⟩,hok,by unfold TabM.swapE;rw[if_neg hm]⟩)
 generalize T.fix y=fe at *;clear h hT hg i1 hie hdel hym q3 hok hn hfo y1 y2 y3 y4 y5 y6
 go_enter func166,ntmps166
 go_upto_region 1 with fail
 have E1:=(Blk.new w #[.string e.key,.int .u64 e.own,.int .u64 e.slack] 224).same (ga_ (w.alloc (.cells #[.string e.key,.int .u64 e.own,.int .u64 e.slack] 224)) (.cells #[.string ⟨#[]⟩,.int .u64 0,.int .u64 0] 224) none);have B1:Blk ((w.alloc (.cells #[.string e.key,.int .u64 e.own,.int .u64 e.slack] 224)).alloc (.cells #[.string ⟨#[]⟩,.int .u64 0,.int .u64 0] 224)) (w.heap.size+1) #[.string ⟨#[]⟩,.int .u64 0,.int .u64 0]:=Blk.new' _ _ _ (by simp);have K1:=Ad_ (ga_ w (.cells #[.string e.key,.int .u64 e.own,.int .u64 e.slack] 224) none) (.cells #[.string ⟨#[]⟩,.int .u64 0,.int .u64 0] 224);generalize (w.alloc _).alloc _=w1 at *;generalize hge:w.heap.size=ge at *;generalize hgb:ge+1=gb at *
 go_upto_region 2 with(go_at_call 160;refine(HG.out _ K1).mono ?_;rintro e' w2 ⟨rfl,g2⟩)
 have K2:=Aa_ K1 g2;have E2:=E1.same g2;have B2:=B1.same g2;obtain⟨X3,G3⟩:=nb_ w2 #[.string fe.key,.int .u64 fe.own,.int .u64 fe.slack] 224;generalize w2.alloc _=w3 at *;generalize hgx:w2.heap.size=gx at *;have K3:=Aa_ K2 G3;have E3:=E2.same G3;have B3:=B2.same G3;have hz2:=B2.lt;clear E1 E2 B1 B2 G3 K1 K2 g2 HG;have e3:=E3.cell
 go_upto_region 6 with fail
 clear e3;have k4:=Al_ K3;have HE3:=hh_ E3;have HB3:=hh_ B3;have HX3:=hh_ X3;have h34:=hh_ (Al_ (Ab_ w3 none))
 (refine rn_ 8 (fun k _ w v w'=>match k with | 6=>v=.int .i64 (-1)∧World.grownBy w w' none | _=>False) ?_;simp only[ts_])
 clear E3 B3 X3;have HE3:=hh_ (HE3.out.same h34.out);have HB3:=hh_ (HB3.out.same h34.out);have HX3:=hh_ (HX3.out.same h34.out);clear h34 K3;generalize w3.drew=wq at *
 (refine tq_ 3 ?_;(repeat(go_big_quiet_step (fail)));refine wn_ ?_)
 (refine to_ ?_;intro y3 my3 dy3)
 clear dy3;have ax:=(H.out.same (Aa_ k4 my3)).blk.cell
 go_wp2_with fail
 refine⟨Ab_ _ _,?_⟩;clear ax my3
 (refine tq_ 1 ?_;(repeat(go_big_quiet_step (fail)));refine wn_ ?_)
 (refine to_ ?_;intro y5 my5 dy5)
 clear dy5;have ax:=(HE3.out.same my5).cell
 go_wp2_with fail
 refine⟨Ab_ _ _,?_⟩;clear ax my5
 (refine tc_ ?_;intro y6 my6 dy6;refine⟨?_,?_⟩;· (unfold Rg.callSpec;go_simp;(refine(HPe.out y6 (Aa_ k4 my6)).mono ?_;rintro e w' ⟨rfl,g'⟩;exact⟨_,rfl,rfl,g'⟩)))
 clear dy6;rintro v6 e6 ⟨rfl,g6⟩;refine⟨g6,?_⟩;simp only[pt_];clear g6 my6
 (refine tq_ 1 ?_;(repeat(go_big_quiet_step (fail)));refine wn_ ?_)
 (refine Rg.tree_nil ?_;intro z mz dz cz)
 have KZ:=Aa_ k4 mz;have EZ:=HE3.out.same mz;have BZ:=HB3.out.same mz;have XZ:=HX3.out.same mz;clear dz cz mz k4 HE3 HB3 HX3
 go_upto_region 8 with fail
 go_cut [32,33,34,35,36] (fun _ _ _ _ s36 wx=>s36=.bool (T.mode==1)∧z=wx)
 case first=>
  have cz1:=(H.out.same KZ).blk.cell
  go_wp2_with fail
  go_meet
  exact⟨rfl,rfl⟩
 obtain⟨rfl,rfl⟩:=hcut
 rename_i hK
 refine hK _ _ ?_
 go_cut [37,38,39,40,41,42,43,44,45,46,47,48,49,50,51,52,53,54,55,56,57,58,59,60,61,62,63,64,65,66,67,68,69,70,71,72,73,74,75,76,77,78,79,80,81,82,83,84,85,86,87] (fun _ _ _ _ _ _ _ _ _ _ _ _ _ _ _ _ _ _ _ _ _ _ _ _ _ _ _ _ _ _ _ _ _ _ _ _ _ _ _ _ _ _ _ _ _ _ _ _ _ _ _ wx=>∃sl,T.swapE k e =⟨e.key,e.own,sl⟩∧Blk wx ge #[.string e.key,.int .u64 e.own,.int .u64 sl]∧Blk wx gb #[.string ⟨#[]⟩,.int .u64 0,.int .u64 0]∧Blk wx gx #[.string fe.key,.int .u64 fe.own,.int .u64 fe.slack]∧w.grownBy wx none)
 case first=>
  have ez:=EZ.cell;have xz:=XZ.cell
  rcases HC.out with⟨hm,o2,o3,hsw⟩ |⟨hm,hww,hcnt,hsw⟩
  ·have hm1 :(T.mode==1)=false:=bf_ (by omega)
   have hd1 :(e.own==0)=false:=bf_ (by omega);have hd2:decide (fe.own<e.own)=false:=df_ (by omega);have hd3:decide (T.base<e.slack)=false:=df_ (by omega);have HSW:=hh_ hsw;have cz1:=(H.out.same KZ).blk.cell;clear hm hsw
   go_upto_region 13 with fail
   go_quiet (fail)
   have k6:z.grownBy (z.drewN nq) none:=Ae_ (Ab_ z none) _;have K6:=Aa_ KZ k6;have E6:=EZ.same k6;have B6:=BZ.same k6;have X6:=XZ.same k6;clear cz1 ez xz EZ BZ XZ KZ k6 hd1 hd2 hd3;generalize z.drewN nq=w6 at *;have e6:=E6.cell;have f6:=E6.free
   go_wp2_with fail
   go_meet
   exact⟨0,HSW.out,E6.set_ 2 _ rfl,B6.off (show ge≠gb by omega) 2 _,X6.off (show ge≠gx by omega) 2 _,Ai_ (p:=⟨ge,2,none⟩) K6 (show w.heap.size≤ge by omega) _⟩
  ·have hm1 :(T.mode==1)=true:=beq_iff_eq.2 hm
   have HE:=hh_ fun z=>Mo_ e.own e.slack (fe.own+fe.slack) z ⟨by omega,by unfold W64 at hww;omega⟩ ⟨by omega,by unfold W64 at hww;omega⟩ hww hcnt
   have hwr:IntKind.u64.wrap (fe.own+fe.slack)=fe.own+fe.slack:=IntWalk.u64_in _ (by unfold W64 at hww;omega);have HSW:=hh_ hsw;unfold W64 at hww;clear hm hsw
   go_upto_region 11 with(go_at_call 185;refine(HE.out _).mono ?_;rintro e' w5 ⟨rfl,g5⟩)
   have K5:=Aa_ KZ g5;have E5:=EZ.same g5;have B5:=BZ.same g5;have X5:=XZ.same g5;clear KZ g5 EZ BZ XZ ez xz HE;have e5:=E5.cell;have c5:=(H.out.same K5).blk.cell
   by_cases hlt:e.own<T.base
   ·have hSW:=HSW.out
    rw[if_pos hlt] at hSW;have HSW2:=hh_ hSW;have hld:decide (e.own<T.base)=true:=dt_ hlt;have hwr2:IntKind.u64.wrap (T.base-e.own)=T.base-e.own:=IntWalk.u64_in _ (by unfold W64 at q1;omega)
    have hwm:0≤max e.slack (T.base-e.own)∧max e.slack (T.base-e.own)≤18446744073709551615:=by unfold W64 at q1;omega
    clear hSW HSW hlt
    go_quiet (fail)
    have k6:w5.grownBy (w5.drewN nq) none:=Ae_ (Ab_ w5 none) _;have K6:=Aa_ K5 k6;have E6:=E5.same k6;have B6:=B5.same k6;have X6:=X5.same k6;clear e5 c5 E5 B5 X5 K5 k6;generalize w5.drewN nq=w6 at *;have e6:=E6.cell;have c6:=(H.out.same K6).blk.cell
    go_upto_region 12 with fail
    (refine Tail.wp_region_tail_drawn 11 (by kernel_rfl) (by kernel_rfl) ?_;simp only[List.take,List.drop];(repeat(go_big_quiet_step (fail)));refine wn_ ?_;rintro _ ⟨nq,rfl⟩)
    have k7:w6.grownBy (w6.drewN nq) none:=Ae_ (Ab_ w6 none) _;have K7:=Aa_ K6 k7;have E7:=E6.same k7;have B7:=B6.same k7;have X7:=X6.same k7;clear e6 c6 E6 B6 X6 K6 k7;generalize w6.drewN nq=w7 at *;have e7:=E7.cell;have f7:=E7.free
    go_wp2_with fail
    go_meet
    exact⟨_,HSW2.out,E7.set_ 2 _ rfl,B7.off (show ge≠gb by omega) 2 _,X7.off (show ge≠gx by omega) 2 _,Ai_ (p:=⟨ge,2,none⟩) K7 (show w.heap.size≤ge by omega) _⟩
   ·have hSW:=HSW.out
    rw[if_neg hlt] at hSW;have HSW2:=hh_ hSW;have hld:decide (e.own<T.base)=false:=df_ hlt;clear hSW HSW hlt
    go_quiet (fail)
    have k6:w5.grownBy (w5.drewN nq) none:=Ae_ (Ab_ w5 none) _
    go_wp2_with fail
    go_meet
    exact⟨_,HSW2.out,E5.same k6,B5.same k6,X5.same k6,Aa_ K5 k6⟩
 obtain⟨sl,hsw,E8,B8,X8,K8⟩:=hcut;have HSW:=hh_ hsw;clear hsw KZ EZ BZ XZ hK
 apply_assumption
 go_upto_region 16 with fail
 have k5:w.grownBy wc.drew none:=Al_ K8;have R5:=H.out.same k5;have HB:=hh_ R5.blk;have HO:=hh_ R5.own;have A5:=E8.drew1;have A6:=B8.drew1;have A7:=X8.drew1;have hcN:ge<wc.drew.heap.size:=A5.lt;have hgN:g<wc.drew.heap.size:=HB.out.lt;have hbN:gb<wc.drew.heap.size:=A6.lt;have hxN:gx<wc.drew.heap.size:=A7.lt;obtain⟨N,hN⟩:∃N,N=wc.drew.heap.size:=⟨_,rfl⟩;have HN2:=hh_ (Nat.le_of_eq hN);rw[←hN] at hcN hgN hbN hxN
 have hvN:∀i,ownF (.slice a T.L.length c) i→i<N:=by rw[hN];exact HO.out.low
 have HX:=hh_ A5;have HY:=hh_ A6;have HZ:=hh_ A7;obtain⟨P,hP⟩:∃P:List Ent→Prop,P=fun S=>S=L1∨S=[⟨e.key,e.own,sl⟩]∨S=L1++[⟨e.key,e.own,sl⟩]:=⟨_,rfl⟩;have HP1:=hh_ (show P L1 by rw[hP];exact .inl rfl);have HPx:=hh_ (show P [⟨e.key,e.own,sl⟩] by rw[hP];exact .inr (.inl rfl));have HPF:=hh_ (show P (L1++[⟨e.key,e.own,sl⟩]) by rw[hP];exact .inr (.inr rfl))
 have HP2:=hh_ (show ∀S,P S→S.length≤L1.length∨S <+: L1++[⟨e.key,e.own,sl⟩]∨L1++[⟨e.key,e.own,sl⟩] <+: S by
  intro S hS;rw[hP] at hS
  rcases hS with rfl|rfl|rfl
  ·exact .inl (le_ _)
  ·cases L1 with
   | nil=>exact .inr (.inl (List.prefix_refl _))
   | cons _ _=>exact .inl (by simp)
  ·exact .inr (.inl (List.prefix_refl _)))
 have hdl2:=Hdl.out
 have hb4 :(L1.length+[(⟨e.key,e.own,sl⟩:Ent)].length)*32≤140737488355328:=by simp;omega
 have hb5:L1.length+[(⟨e.key,e.own,sl⟩:Ent)].length≤9223372036854775807:=by simp;omega
 have HP:=hh_ fun y (m:Keep entF 3 224 N P wc.drew y)=>HP0.out y (HO.out.keptS m.grown fun q hq hge=>by have:=hvN q hq;omega)
 have HW:=hh_ fun y (m:Keep entF 3 224 N P wc.drew y)=>HW0.out y (HO.out.keptS m.grown fun q hq hge=>by have:=hvN q hq;omega)
 have Hk:=hh_ k5;have hz5:=k5.size
 have hN0:w.heap.size≤N:=by omega
 clear HP0 HW0 hN k5 A5 A6 A7 R5 hP hz5 hdl2 Hdl
 (refine Rg.wp_region_rgZ 17 #[] (Keep entF 3 224 N P) (fun k _ w v w'=>match k with | 10=>v=.int .i64 I∧World.grownBy w w' none | 11=>Own entF 3 224 N w' v L1∧World.grownBy w w' none | _=>False) (by kernel_rfl) (by kernel_rfl) (Keep.refl _ _ _ _ _) (fun _ _ _ h k=>h.trans k) (fun _ _ _ _ _ h=>h) ?_;simp only[List.take,List.drop])
 generalize wc.drew=wd at *
 (refine tq_ 4 ?_;(repeat(go_big_quiet_step (fail)));refine wn_ ?_)
 (refine to_ ?_;intro y4 my4 dy4)
 clear dy4;have ax:=(my4.blk HB.out hgN).cell
 go_wp2_with fail
 refine⟨Keep.refl _ _ _ _ _ _,?_⟩;clear ax my4
 (refine tq_ 3 ?_;(repeat(go_big_quiet_step (fail)));refine wn_ ?_)
 (refine to_ ?_;intro y8 my8 dy8)
 clear dy8;have ax:=(my8.blk HB.out hgN).cell
 go_wp2_with fail
 refine⟨Keep.refl _ _ _ _ _ _,?_⟩;clear ax my8
 (refine tq_ 1 ?_;(repeat(go_big_quiet_step (fail)));refine wn_ ?_)
 (refine tc_ ?_;intro y10 my10 dy10;refine⟨?_,?_⟩;· (unfold Rg.callSpec;go_simp;(refine(HP.out y10 my10).mono ?_;rintro e w' ⟨rfl,g'⟩;exact⟨_,rfl,rfl,g'⟩)))
 clear dy10;rintro v10 e10 ⟨rfl,g10⟩;refine⟨Keep.of g10,?_⟩;simp only[pt_];clear g10 my10
 (refine tc_ ?_;intro y11 my11 dy11;refine⟨?_,?_⟩;· (unfold Rg.callSpec;go_simp;(refine(HW.out y11 my11).mono ?_;rintro e w' ⟨v',rfl,o',g'⟩;exact⟨_,rfl,o'.base (fun q hq=>lt_ (lt_ HN2.out my11.grown.size) (o'.lt q hq).1),g'⟩)))
 clear dy11;rintro v11 e11 ⟨o11,g11⟩;refine⟨Keep.of g11,?_⟩;simp only[pt_];clear g11 my11
 (refine to_ ?_;intro y12 my12 dy12)
 clear dy12;have ax:=(my12.blk HX.out hcN).cell
 go_wp2_with fail
 refine⟨Keep.refl _ _ _ _ _ _,?_⟩;clear ax my12
 (refine to_ ?_;intro y13 my13 dy13)
 clear dy13;have z13:=lt_ HN2.out my13.grown.size
 go_wp2_with fail
 refine⟨Keep.of (ga_ _ _ _),?_⟩;have N13:Own entF 3 224 N (y13.alloc (.cells #[.string e.key,.int .u64 e.own,.int .u64 sl] 224)) (.slice (some ⟨y13.heap.size,0,none⟩) 1 1) [⟨e.key,e.own,sl⟩]:=Cb_ Az_ y13 z13 ⟨e.key,e.own,sl⟩ _ rfl;generalize y13.alloc _=e13 at *;generalize y13.heap.size=g13 at *
 (refine to_ ?_;intro y14 my14 dy14)
 have N9:=(dy14.out 11 (by omega) (by kernel_rfl)).own _ _ HP1.out o11;have R9:=((dy14.out 13 (by omega) (by kernel_rfl)).own _ _ HPx.out N13).rd;have z9:=lt_ HN2.out my14.grown.size;clear dy14
 go_wp2_with (at_builtin;refine Bh_ Bp_ Bo_ Az_ N9 R9 rfl hb4 hb5 z9 HP2.out ?_;intro v9 e9 o9 k9;have Hk9:=hh_ k9;clear k9)
 refine⟨Hk9.out,?_⟩;clear N9 R9 z9 N13 z13 my13 my14 o11
 (refine tq_ 2 ?_;(repeat(go_big_quiet_step (fail)));refine wn_ ?_)
 (refine Rg.tree_nil ?_;intro z mz dz cz)
 have OZ:=(dz.out 14 (by omega)).own _ _ HPF.out o9;have BZ:=mz.blk HB.out hgN;have XZ:=mz.blk HZ.out hxN;have YZ:=mz.blk HY.out hbN;have GZ:=mz.grown;clear dz cz o9 Hk9 mz;have bz:=BZ.cell;have fz:=BZ.free;obtain⟨az,cz2,hvz⟩:=OZ.shape;rw[la_,ls_] at hvz;subst hvz
 go_upto_region 17 with fail
 have hnz:¬ownF (.slice az (L1.length+1) cz2) g:=fun e=>by have:=(OZ.lt _ e).1;omega
 obtain⟨R6,g6⟩:=RTab.setL BZ OZ hnz;have X6:=XZ.kept g6 (by simp;omega);have Y6:=YZ.kept g6 (by simp;omega)
 have HOZ:=hh_ fun i hi=>(OZ.lt i hi).1
 clear bz fz BZ OZ XZ YZ;generalize z.setCell ⟨g,2,none⟩ (.slice az (L1.length+1) cz2)=w6 at *;have x6:=X6.cell;have y6:=Y6.cell;have f6:=Y6.free
 go_wp2_with fail
 (have g7:World.grownBy w6 (((w6.setCell ⟨gb,0,none⟩ (.string fe.key)).setCell ⟨gb,1,none⟩ (.int .u64 fe.own)).setCell ⟨gb,2,none⟩ (.int .u64 fe.slack)) (some gb):=Ac_ (Ac_ (Ac_ (Ab_ _ _) _ _) _ _) _ _);(have A7:Blk (((w6.setCell ⟨gb,0,none⟩ (.string fe.key)).setCell ⟨gb,1,none⟩ (.int .u64 fe.own)).setCell ⟨gb,2,none⟩ (.int .u64 fe.slack)) gb #[.string fe.key,.int .u64 fe.own,.int .u64 fe.slack]:=((Blk.set_ (by assumption) 0 _ rfl).set_ 1 _ rfl).set_ 2 _ rfl);generalize ((w6.setCell _ _).setCell _ _).setCell _ _=w7 at *
 have rc:=A7.cell;have hz6:=g6.size;refine bodyPost_ret (v:=.tuple #[.agg #[.string fe.key,.int .u64 fe.own,.int .u64 fe.slack],.int .i64 0]) (by simp[results,results166,go_sem,rc]) rfl ?_
 have R7:=R6.keptS (GrownS.of (S:=oneF gb) g7 fun q e=>by cases e;exact rfl) fun i hi hib=>by
  rw[show i=gb from hib] at hi
  rcases hi with hi|hi
  ·omega
  ·have:=HOZ.out gb hi;omega
 refine⟨rfl,_,by rw[HR.out,HSW.out];exact R7,?_,fun i hi=>?_⟩
 ·have M2:GrownS (rtF g (.slice a T.L.length c)) w wd:=GrownS.none_ Hk.out
  refine((M2.trans GZ fun i hi hlt=>absurd hi (by omega)).trans (GrownS.of (S:=oneF g) g6 fun q e=>by cases e;exact rfl) fun i hi _=>.inl hi).trans (GrownS.of (S:=oneF gb) g7 fun q e=>by cases e;exact rfl) fun i hi hlt=>?_
  have:i=gb:=hi
  omega
 ·rcases hi with hi|hi
  ·exact .inl (.inl hi)
  ·exact .inr (lt_ hN0 (HOZ.out i hi))
def lessE (S:List Ent) (k:ByteArray):Nat:=(S.takeWhile fun x=>ltK x.key k).length
theorem a1_ (S:List Ent) (k:ByteArray):lessE S k≤S.length:=List.Sublist.length_le (List.takeWhile_sublist _)
theorem bw_ {S A B:List Ent} (e:A++B=S):S.take A.length=A∧S.drop A.length=B:=by subst e;simp
theorem ed_ (S:List Ent) (x:Ent):insE S x=S.take (lessE S x.key)++[x]++S.drop (lessE S x.key):=by
 unfold insE lessE;obtain⟨h1,h2⟩:=bw_ (List.takeWhile_append_dropWhile (p:=fun y:Ent=>ltK y.key x.key) (l:=S));rw[h1,h2];simp
theorem br_ {S:List Ent}:∀{i:Nat} (h:i<lessE S k) (h2:i<S.length),ltK S[i].key k=true:=by
 induction S with
 | nil=>intro i h h2;simp at h2
 | cons a S ih=>
  intro i h h2
  by_cases ha:ltK a.key k=true
  ·cases i with
   | zero=>exact ha
   | succ i=>
    have:i<lessE S k:=by simp[lessE,ha] at h;simpa [lessE] using h
    simpa using ih this (by simpa using h2)
  ·simp[lessE,ha] at h
theorem ak_ {S:List Ent} (h:lessE S k<S.length):ltK S[lessE S k].key k=false:=by
 induction S with
 | nil=>simp at h
 | cons a S ih=>
  by_cases ha:ltK a.key k=true
  ·have e:lessE (a::S) k=lessE S k+1:=by simp[lessE,ha]
   have:=ih (by rw[e] at h;simpa using h)
   simpa [e] using this
  ·have e:lessE (a::S) k=0:=by simp[lessE,ha]
   simpa [e] using ha
theorem Gp_ (L:List Ent) :(sortEn L).length=L.length:=by
 have:∀(L A:List Ent),(L.foldl insE A).length=A.length+L.length:=by
  intro L
  induction L with
  | nil=>intro A;simp
  | cons e L ih=>intro A;rw[List.foldl_cons,ih,Fn_,lc_];omega
 simpa [sortEn] using this L []
theorem hc_ (a b:ByteArray):Op.bytesLess a.toList b.toList=ltK a b:=by
 rw[ByteArray.toList_eq,ByteArray.toList_eq,bytesLess_eq];rfl
theorem Hv_ (v:Value) (l:List Ent) (w:World) (h:RdL entF 3 w v l) (hl:l.length≤1000000):Calls prog 125 #[v] w (RetOwn entF 3 224 (sortEn l) w):=by
 obtain⟨a,c,rfl⟩:=h.shape;have hm:=h.2.1;have H:=hh_ h
 have hll :(l.length:Int)≤1000000:=by omega
 clear h
 go_enter func125,ntmps125
 go_wp2_with fail
 go_loopw [3,9] (fun s3 s9 wk=>∃(j:Nat),j≤l.length∧s9=.int .i64 j∧Own entF 3 224 w.heap.size wk s3 (sortEn (l.take j))∧w.grownBy wk none) (fun _ s9 _=>l.length-(RowKit.intOf s9).toNat)
 case atStart=>exact⟨0,zl_ _,rfl,Own.nil _ _ _ _ _,Ab_ _ _⟩
 case round=>
  obtain⟨j,hj,rfl,hO,hg⟩:=hrel
  by_cases hjl:j<l.length
  ·obtain⟨gx,ox,cx,hv,hgx,c0,c1,c2⟩:=(RdL.same H.out hg).entr hjl
   cases hv;have HT:=hh_ (show sortEn (l.take (j+1))=insE (sortEn (l.take j)) l[j] by rw[tg_ hjl,Jc_])
   have hsl :(sortEn (l.take j)).length≤1000000:=by rw[Gp_,lk_];omega
   generalize sortEn (l.take j)=S at *;generalize l[j]=x at *;obtain⟨oa,oc,rfl⟩:=hO.shape
   go_upto_region 5 with fail
   have O2:=hO.same (ga_ wr (.cells #[.string x.key,.int .u64 x.own,.int .u64 x.slack] 224) none);have G2:=Ad_ hg (.cells #[.string x.key,.int .u64 x.own,.int .u64 x.slack] 224);have A2:=Blk.new wr #[.string x.key,.int .u64 x.own,.int .u64 x.slack] 224;generalize wr.alloc _=w2 at *;generalize wr.heap.size=gk at *;clear hO hg c0 c1 c2 hgx;have HK:=hh_ (ed_ S x);have hKl:=a1_ S x.key
   have HN2:=hh_ fun i (h:i<lessE S x.key) h2=>br_ (k:=x.key) h h2
   have HN3:=hh_ fun h=>ak_ (S:=S) (k:=x.key) h
   generalize lessE S x.key=P at *;have hsm:=O2.len
   go_cut [6] (fun s6 wx=>s6=.int .i64 0∧w2=wx)
   case first=>
    go_wp2_with fail
    go_meet
    exact⟨rfl,rfl⟩
   obtain⟨rfl,rfl⟩:=hcut
   rename_i hK
   refine hK _ _ ?_
   apply wp_seq_k
   intro K1 hK1
   go_cut [6,13,14,15,16,17,18,19,20,21,22,23,24,25,26,27,28] (fun s6 _ _ _ _ _ _ _ _ _ _ _ _ _ _ _ _ wx=>s6=.int .i64 P∧w2.grownBy wx none)
   case first=>
    go_wp2_with fail
    go_loopw [6] (fun s6 wk=>∃k:Nat,k≤P∧s6=.int .i64 k∧w2.grownBy wk none) (fun s6 _=>P-(RowKit.intOf s6).toNat)
    case atStart=>exact⟨0,zl_ _,rfl,Ab_ _ _⟩
    case round=>
     obtain⟨k,hk,rfl,hgk⟩:=hrel;have a3:=(A2.same hgk).cell
     by_cases hkl:k<S.length
     ·obtain⟨gs,os,cs,hvs,hgs,d0,d1,d2⟩:=(O2.same hgk).rd.entr hkl
      cases hvs
      have hkl2 :(k:Int)<(S.length:Int):=by omega
      have hbl:=hc_ S[k].key x.key
      by_cases hkP:k<P
      ·rw[HN2.out k hkP hkl] at hbl
       generalize S[k]=y at *
       go_wp2_with fail
       go_quiet (fail)
       go_wp2_with fail
       exact⟨⟨k+1,by omega,by go_num,Ae_ hgk _⟩,by simp[RowKit.intOf];omega⟩
      ·obtain rfl:k=P:=by omega
       rw[HN3.out hkl] at hbl;generalize S[k]=y at *
       go_wp2_with fail
       go_quiet (fail)
       go_wp2_with fail
       go_meet
       exact⟨rfl,Ae_ hgk _⟩
     ·obtain rfl:k=P:=by omega
      have hkl2:decide ((k:Int)<(S.length:Int))=false:=df_ (by omega)
      go_wp2_with fail
      go_quiet (fail)
      go_wp2_with fail
      go_meet
      exact⟨rfl,Ae_ hgk _⟩
   obtain⟨rfl,h3⟩:=hcut;have O3:=O2.same h3;have A3:=A2.same h3;have G3:=Aa_ G2 h3;clear O2 A2 hK;refine hK1 _ _ ?_;clear hK1;have hcap:=O3.cap
   have hP0 :(0:Int)≤(P:Int):=by omega
   have hP1 :(P:Int)≤(S.length:Int):=by omega
   have hP2 :(P:Int)≤(oc:Int):=by omega
   have hP3 :(S.length:Int)≤(oc:Int):=by omega
   have hsz:=G3.size;refine wp_region_any (by kernel_rfl) ?_
   (refine tp_ 8 37 (.slice oa S.length oc) ?_);simp only[List.setIfInBounds_toArray,List.set_cons_zero,List.set_cons_succ]
   (refine tp_ 9 38 (.int .i64 P) ?_);simp only[List.setIfInBounds_toArray,List.set_cons_zero,List.set_cons_succ]
   (refine Tail.take_put 10 39 (.slice (if oc=P then oa else oa.map (·.add (P*3))) (S.length-P) (oc-P)) rfl rfl (by kernel_rfl) (by kernel_rfl) (by kernel_rfl) (fun _ _ _ h=>h) (Or.inl ⟨by rfl,fun w=>?_⟩) ?_;· go_simp);simp only[List.setIfInBounds_toArray,List.set_cons_zero,List.set_cons_succ]
   have RD:=hh_ fun w' (h:Own entF 3 224 w.heap.size w' (.slice oa S.length oc) S)=>h.rd.drop Az_ hKl hcap (oc-P)
   generalize (if oc=P then oa else oa.map (·.add (P*3)))=od at *
   (refine ra_ 7 #[false,false,false,false,false,false,false,false,true,true,true,false,false] ?_;simp only[List.take,List.drop,Rg.tailL];simp (decide:=true) only[if_true,if_false])
   have Gd:wc.grownBy wc.drew none:=gw_;have Kd:=Aa_ G3 Gd
   have hb1 :(S.take P).length=P:=by simp;omega
   have hb2 :(S.take P).length*32≤140737488355328:=by rw[hb1];omega
   have hb3 :(S.take P).length≤9223372036854775807:=by rw[hb1];omega
   have hb4 :((S.take P).length+1)*32≤140737488355328:=by rw[hb1];omega
   have hb5 :(S.take P).length+1≤9223372036854775807:=by rw[hb1];omega
   have hb6 :(S.take P++[x]).length=P+1:=by rw[la_,hb1];rfl
   have hb7 :(S.drop P).length=S.length-P:=by simp
   have hb8 :((S.take P++[x]).length+(S.drop P).length)*32≤140737488355328:=by rw[hb6,hb7];omega
   have hb9 :(S.take P++[x]).length+(S.drop P).length≤9223372036854775807:=by rw[hb6,hb7];omega
   have Hb1:=hh_ hb1.symm;have Hb7:=hh_ hb7.symm;clear hb1 hb6 hb7
   (refine to_ ?_;intro y0 my0 dy0)
   clear dy0;have zy0:w.heap.size≤y0.heap.size:=(Aa_ Kd my0).size
   go_wp2_with fail
   refine⟨ga_ _ _ _,?_⟩;have N0:=A0_ (e:=224) entF 3 zy0;have hg0:wc.heap.size≤y0.heap.size:=(Aa_ Gd my0).size;generalize y0.alloc _=e0 at *;generalize y0.heap.size=g0 at *
   (refine tq_ 3 ?_;(repeat(go_big_quiet_step (fail)));refine wn_ ?_)
   (refine to_ ?_;intro y4 my4 dy4)
   have N4:=N0.same (dy4.out 0 (by omega) (by kernel_rfl));have K4:=Aa_ Gd my4;have R4:=(O3.rd.take Az_ hKl oc).same K4;have z4:=(Aa_ Kd my4).size
   go_wp2_with (at_builtin;refine A5_ Bp_ Bo_ N4 R4 Hb1.out hb2 hb3 z4 ?_;intro v4 e4 o4 g4 l4;have Hg4:=hh_ g4;clear g4)
   refine⟨Hg4.out,?_⟩;have hv4:=Lies.ge l4 (fun k hk=>lt_ hg0 (Rz_ _ _ _ k hk)) K4.size;clear R4 N0 N4 K4 z4 dy4 l4
   (refine to_ ?_;intro y5 my5 dy5)
   clear dy5;have a5:=(A3.same (Aa_ Gd my5)).cell
   go_wp2_with fail
   refine⟨Ab_ _ _,?_⟩;clear a5
   (refine to_ ?_;intro y6 my6 dy6)
   clear dy6
   go_wp2_with fail
   refine⟨ga_ _ _ _,?_⟩;have N6:=Blk.new y6 #[.string x.key,.int .u64 x.own,.int .u64 x.slack] 224;generalize y6.alloc _=e6 at *;generalize y6.heap.size=g6 at *
   (refine Rg.tree_nil ?_;intro z mz dz cz)
   have o5:=o4.same (dz.out 4 (by omega));have N7:=(N6.same (dz.out 6 (by omega))).one Az_ x rfl;have Kz:=Aa_ Gd mz;have KK:=Aa_ Kd mz;have z7:=KK.size;have O7:=O3.same Kz
   have hlo:∀k,Value.ownBlock (.slice oa S.length oc)=some k→k<wc.heap.size:=fun k hk=>(O3.lt k hk).2
   have tok:=hh_ hP0;clear dz cz my0 my4 my5 my6 mz Hg4 Kz N6 o4 O3 A3 hg0 zy0 Gd Kd
   go_wp2_with (first
    |(at_builtin;have _t:=tok;refine app Bp_ Bo_ o5 N7 rfl hb4 hb5 z7 ?_;intro v7 w7 o7 g7 l7;clear tok;have K7:=Aq_ KK o5 (le_ _) g7;have R8:=RD.out _ (O7.kept g7 (fun k hk e=>by have:=hlo k hk;have:=hv4 k e;omega));have z8:=K7.size)
    |(at_builtin;refine app Bp_ Bo_ o7 R8 Hb7.out hb8 hb9 z8 ?_;intro v8 w8 o8 g8 l8;have K8:=Aq_ K7 o7 (le_ _) g8))
   exact⟨⟨j+1,by omega,by go_num,by rw[HT.out,HK.out];exact o8,K8⟩,by simp[RowKit.intOf];omega⟩
  ·have hke:l.take j=l:=tk_ (by omega)
   rw[hke] at hO
   go_wp2_with fail
   go_ret
   exact⟨_,rfl,hO,hg⟩
theorem Sc_ (g:Nat) (v:Value) (T:TabM) (w:World) (h:RTab w g v T) (hT:B5_ T):Calls prog 126 #[.pointer (some ⟨g,0,none⟩)] w (RetOwn entF 3 224 T.entries w):=by
 have H:=hh_ h
 have hlen:T.L.length≤64:=by have:=hT.len;have:=hT.m;omega
 have HG:=hh_ fun j (hj:j<T.L.length) y (q:w.grownBy y none)=>Fp_ g v T T.L[j].key _ y (h.same q) (Wa_ (Dx_ hT.ents.nodup (mg_ hj)))
 obtain⟨a,c,hv⟩:=h.own.shape;subst hv;have b0:=h.blk.cell;have HS:=hh_ (show T.entries=sortEn (T.L.map T.fix) from rfl);clear h hT
 go_enter func126,ntmps126
 go_upto_region 3 with fail
 clear b0
 go_loopw [3,13] (fun s3 s13 wk=>∃j:Nat,j≤T.L.length∧s13=.int .i64 j∧Own entF 3 224 w.heap.size wk s3 ((T.L.take j).map T.fix)∧w.grownBy wk none) (fun _ s13 _=>T.L.length-(RowKit.intOf s13).toNat)
 case atStart=>exact⟨0,zl_ _,rfl,Own.nil _ _ _ _ _,Ab_ _ _⟩
 case round=>
  obtain⟨j,hj,rfl,hO,hg⟩:=hrel
  by_cases hjl:j<T.L.length
  ·obtain⟨g',off,cap,hv,hgl,d0,d1,d2⟩:=(H.out.same hg).own.rd.entr hjl
   cases hv;have HT:=hh_ (show(T.L.take (j+1)).map T.fix =(T.L.take j).map T.fix++[T.fix T.L[j]] by rw[tg_ hjl,List.map_append];rfl);have HGj:=hh_ (HG.out j hjl)
   have hcl :((T.L.take j).map T.fix).length≤64:=by rw[List.length_map,lk_];omega
   have hfk:=Cn_ T T.L[j];generalize (T.L.take j).map T.fix=C at *;generalize T.fix T.L[j]=fe at *;generalize T.L[j]=e at *
   go_upto_region 5 with fail
   obtain⟨A1,G1⟩:=nb_ wr #[.string e.key,.int .u64 e.own,.int .u64 e.slack] 224;generalize wr.alloc _=w1 at *;generalize hgb:wr.heap.size=gb at *;have K1:=Aa_ hg G1;have O1:=hO.same G1;have a1:=A1.cell;clear d0 d1 d2 hgl hO hfk
   go_upto_region 6 with(go_at_call 160;refine(HGj.out _ K1).mono ?_;rintro e' w2 ⟨rfl,g2⟩)
   have O2:=O1.same g2;have K2:=Aa_ K1 g2;obtain⟨A3,G3⟩:=nb_ w2 #[.string fe.key,.int .u64 fe.own,.int .u64 fe.slack] 224;generalize w2.alloc _=w3 at *;generalize hgc:w2.heap.size=gc at *;have O3:=O2.same G3;have K3:=Aa_ K2 G3;have a3:=A3.cell;obtain⟨oa,oc,rfl⟩:=O3.shape
   have hb1 :(C.length+1)*32≤140737488355328:=by omega
   have hb2:C.length+1≤9223372036854775807:=by omega
   have hz3:=K3.size;clear a1 O1 O2
   go_wp2_with (at_builtin;refine A9_ (l:=C) Bp_ Bo_ Az_ O3 fe hb1 hb2 hz3 (by rfl) ?_;intro v5 w5 o5 g5 l5)
   refine⟨⟨j+1,by omega,by go_num,by rw[HT.out];exact o5,Aq_ K3 O3 (le_ _) g5⟩,by simp[RowKit.intOf];omega⟩
  ·have hje:T.L.take j=T.L:=tk_ (by omega)
   rw[hje] at hO
   have hcl :(T.L.map T.fix).length≤64:=by rw[List.length_map];omega
   generalize T.L.map T.fix=C at *;obtain⟨oa,oc,rfl⟩:=hO.shape;have HC:=hh_ (Hv_ _ _ wr hO.rd (by omega));rw[←HS.out] at HC
   go_wp2_with (go_at_call 125;refine HC.out.mono ?_;rintro e' w2 ⟨v2,rfl,o2,g2⟩)
   go_ret
   exact⟨_,rfl,o2.base fun q hq=>lt_ hg.size (o2.lt q hq).1,Aa_ hg g2⟩
structure RSto (w:World) (g:Nat) (v:Value) (n:Int) (S:List Ent):Prop where
 blk:Blk w g #[.int .i64 n,v]
 own:Own entF 3 224 0 w v S
 ne:¬ownF v g
theorem RSto.low {g:Nat} {v:Value} {n:Int} {S:List Ent} (h:RSto w g v n S):Low w (rtF g v):=fun i hi=>hi.elim (fun e=>e▸h.blk.lt) (h.own.low i)
theorem RSto.keptS {g:Nat} {v:Value} {n:Int} {S:List Ent} {F:Fp} (h:RSto w g v n S) (k:GrownS F w w') (ho:Off (rtF g v) F):RSto w' g v n S:=
 ⟨h.blk.keptS k (ho g (.inl rfl)),h.own.offS k (ho.left fun i hi=>.inr hi),h.ne⟩
theorem RSto.same {g:Nat} {v:Value} {n:Int} {S:List Ent} (h:RSto w g v n S) (k:w.grownBy w' none):RSto w' g v n S:=h.keptS (GrownS.none_ (S:=fun _=>False) k) fun _ _=>id
theorem RSto.setL {g:Nat} {v v':Value} {n:Int} (h:Blk w g #[.int .i64 n,v]) {B:Nat} {S:List Ent} (ho:Own entF 3 224 B w v' S) (hn:¬ownF v' g):RSto (w.setCell ⟨g,1,none⟩ v') g v' n S∧w.grownBy (w.setCell ⟨g,1,none⟩ v') (some g):=
 ⟨⟨h.set_ 1 _ rfl,(ho.kept (Ac_ (Ab_ w (some g)) _ _) fun q hq e=>hn (by cases e;exact hq)).zero,hn⟩,Ac_ (Ab_ w (some g)) _ _⟩
theorem el_ (n:Int) (w:World) (h1:0≤n∧n≤32):Calls prog 154 #[.int .i64 n] w (fun e w'=>∃g,e=.returned (.tuple #[.pointer (some ⟨g,0,none⟩),.int .i64 0])∧RSto w' g (.slice none 0 0) n []∧w.heap.size≤g∧w.grownBy w' none):=by
 obtain⟨m1,m2⟩:=h1
 go_enter func154,ntmps154
 go_wp2_with fail
 go_ret2
 exact⟨_,rfl,⟨Blk.new w _ _,Own.nil _ _ _ _ _,Ax_ _⟩,le_ _,ga_ _ _ _⟩
theorem G5_ (g:Nat) (v:Value) (n:Int) (S:List Ent) (w:World) (h:RSto w g v n S):Calls prog 161 #[.pointer (some ⟨g,0,none⟩)] w (Cm_ (decide ((S.length:Int)=n)) w):=by
 obtain⟨a,c,hv⟩:=h.own.shape;subst hv;have b0:=h.blk.cell;have hb:=hh_ (show((S.length:Int)==n)=decide ((S.length:Int)=n) by rw[Bool.eq_iff_iff];simp);clear h
 go_enter func161,ntmps161
 go_wp2_with fail
 go_quiet (fail)
 go_wp2_with fail
 go_ret
 exact Be_ hb.out.symm (Ae_ (Ab_ w none) _)
theorem X1_ (g:Nat) (v:Value) (n:Int) (S:List Ent) (k:ByteArray) (w:World) (h:RSto w g v n S):Calls prog 157 #[.pointer (some ⟨g,0,none⟩),.string k] w (Cq_ (optV (getE S k)) w):=by
 have H:=hh_ h
 have HP:=hh_ fun y (q:w.grownBy y none)=>Ck_ v S k y (h.same q).own.rd
 have hglt:=h.blk.lt
 cases hg:getE S k with
 | none=>
  rw[Hp_ hg] at HP;clear h hg
  go_enter func157,ntmps157
  go_upto_region 1 with fail
  obtain⟨A1,G1⟩:=nb_ w #[.string ⟨#[]⟩,.int .u64 0,.int .u64 0] 224;generalize w.alloc _=w1 at *;generalize hgb:w.heap.size=gb at *;have b1:=(H.out.same G1).blk.cell
  go_upto_region 2 with(go_at_call 182;refine(HP.out _ G1).mono ?_;rintro e w2 ⟨rfl,g2⟩)
  have A2:=A1.same g2;have K2:=Aa_ G1 g2;have f2:=A2.free;have a2:=A2.cell
  go_wp2_with fail
  (have g3:World.grownBy w2 (((w2.setCell ⟨gb,0,none⟩ (.string ⟨#[]⟩)).setCell ⟨gb,1,none⟩ (.int .u64 0)).setCell ⟨gb,2,none⟩ (.int .u64 0)) (some gb):=Ac_ (Ac_ (Ac_ (Ab_ _ _) _ _) _ _) _ _);(have A3:Blk (((w2.setCell ⟨gb,0,none⟩ (.string ⟨#[]⟩)).setCell ⟨gb,1,none⟩ (.int .u64 0)).setCell ⟨gb,2,none⟩ (.int .u64 0)) gb #[.string ⟨#[]⟩,.int .u64 0,.int .u64 0]:=((Blk.set_ (by assumption) 0 _ rfl).set_ 1 _ rfl).set_ 2 _ rfl);generalize ((w2.setCell _ _).setCell _ _).setCell _ _=w3 at *
  have rc:=A3.cell;refine bodyPost_ret (v:=.tuple #[eV ent0,.bool false]) (by simp[results,results157,go_sem,rc]) rfl ?_;exact Bx_ rfl (Af_ K2 g3 (by omega))
 | some e=>
  obtain⟨i1,hil,_,_⟩:=Db_ hg;rw[i1] at HP
  have HC:=hh_ fun y (q:w.grownBy y none)=>Pv_ hg (h.same q).own.rd
  generalize plN S k=N at *;obtain⟨a,c,hv⟩:=h.own.shape;subst hv;clear h hg
  go_enter func157,ntmps157
  go_upto_region 1 with fail
  obtain⟨A1,G1⟩:=nb_ w #[.string ⟨#[]⟩,.int .u64 0,.int .u64 0] 224;generalize w.alloc _=w1 at *;generalize hgb:w.heap.size=gb at *;have b1:=(H.out.same G1).blk.cell
  go_upto_region 2 with(go_at_call 182;refine(HP.out _ G1).mono ?_;rintro e w2 ⟨rfl,g2⟩)
  have A2:=A1.same g2;have K2:=Aa_ G1 g2;have b2:=(H.out.same K2).blk.cell;obtain⟨g',off,cap,hv,hgl,d0,d1,d2⟩:=HC.out _ K2;cases hv;have a2:=A2.cell;have f2:=A2.free
  go_wp2_with fail
  (have g7:World.grownBy w2 (((w2.setCell ⟨gb,0,none⟩ (.string e.key)).setCell ⟨gb,1,none⟩ (.int .u64 e.own)).setCell ⟨gb,2,none⟩ (.int .u64 e.slack)) (some gb):=Ac_ (Ac_ (Ac_ (Ab_ _ _) _ _) _ _) _ _);(have A7:Blk (((w2.setCell ⟨gb,0,none⟩ (.string e.key)).setCell ⟨gb,1,none⟩ (.int .u64 e.own)).setCell ⟨gb,2,none⟩ (.int .u64 e.slack)) gb #[.string e.key,.int .u64 e.own,.int .u64 e.slack]:=((Blk.set_ (by assumption) 0 _ rfl).set_ 1 _ rfl).set_ 2 _ rfl);generalize ((w2.setCell _ _).setCell _ _).setCell _ _=w7 at *
  have rc:=A7.cell;refine bodyPost_ret (v:=.tuple #[.agg #[.string e.key,.int .u64 e.own,.int .u64 e.slack],.bool true]) (by simp[results,results157,go_sem,rc]) rfl ?_;exact Bx_ rfl (Af_ K2 g7 (by omega))
theorem Kk_ (g:Nat) (v:Value) (n:Int) (S:List Ent) (k:ByteArray) (en:Ent) (w:World) (h:RSto w g v n S) (hg:getE S k=some en):Calls prog 157 #[.pointer (some ⟨g,0,none⟩),.string k] w (Cq_ (.tuple #[.agg #[.string en.key,.int .u64 en.own,.int .u64 en.slack],.bool true]) w):=by
 have:=X1_ g v n S k w h
 rw[hg] at this;exact this
theorem S3_ (g:Nat) (v:Value) (n:Int) (S:List Ent) (k:ByteArray) (w:World) (h:RSto w g v n S) (hg:getE S k=none):Calls prog 157 #[.pointer (some ⟨g,0,none⟩),.string k] w (Cq_ (.tuple #[.agg #[.string ⟨#[]⟩,.int .u64 0,.int .u64 0],.bool false]) w):=by
 have:=X1_ g v n S k w h
 rw[hg] at this;exact this
theorem Z9_ {S:List Ent} (hn :(keysE S).Nodup) {en:Ent} (hg:getE S k=some en) (x:Int):G3_ S k x=S.set (plN S k) ⟨en.key,en.own+x,en.slack⟩:=by
 obtain⟨_,hl,he,_⟩:=Db_ hg;obtain⟨_,hek⟩:=Aw_ hg
 refine List.ext_getElem? fun i=>?_
 unfold G3_;rw[List.getElem?_map]
 by_cases hi:plN S k=i
 ·subst hi
  rw[he,List.getElem?_set_self hl]
  simp[hek]
 ·rw[List.getElem?_set_ne hi]
  cases hx:S[i]? with
  | none=>rfl
  | some y=>
   simp only[Option.map_some,Option.some.injEq];rw[if_neg];intro hk;refine hi ?_
   have h1 :(keysE S)[i]?=some k:=by unfold keysE;rw[List.getElem?_map,hx];simp[hk]
   have h2 :(keysE S)[plN S k]?=some k:=by unfold keysE;rw[List.getElem?_map,he];simp[hek]
   exact(List.getElem?_inj (by rw[keysE,List.length_map];exact hl) hn).1 (h2.trans h1.symm)
theorem fe_ (g:Nat) (v:Value) (n:Int) (S:List Ent) (k:ByteArray) (x:Int) (en:Ent) (w:World) (h:RSto w g v n S) (hE:Ents S) (hg:getE S k=some en) (hx:1≤x) (hs:en.own+en.slack+x≤mostW) :
  Calls prog 158 #[.pointer (some ⟨g,0,none⟩),.string k,.int .u64 x] w (fun e w'=>e=.returned (.int .i64 0)∧RSto w' g v n (G3_ S k x)∧Mov (rtF g v) (rtF g v) w w'):=by
 have H:=hh_ h;have hmw:mostW=9223372036854775808:=rfl;obtain⟨hem,_⟩:=Aw_ hg;have e1:=hE.own en hem;have e2:=hE.slack en hem
 have HP:=hh_ fun y (q:w.grownBy y none)=>Ck_ v S k y (h.same q).own.rd
 obtain⟨i1,hil,hie,_⟩:=Db_ hg;rw[i1] at HP;have HB:=hh_ (Z9_ hE.nodup hg x);rw[gq_ hil] at hie;have hie:=Option.some.inj hie
 have HF:=hh_ fun y=>Dz_ (en.own+en.slack) x y ⟨by omega,by omega⟩ ⟨by omega,by omega⟩
 rw[show fitsB (en.own+en.slack) x=true from dt_ (by omega)] at HF;have b0:=h.blk.cell;obtain⟨g',cap,hv,_,hgl,_,hc,hfz⟩:=h.own.at_ Az_ hil;have hne:=h.ne;generalize plN S k=N at *;subst hv;rw[hie] at hc;have HI:=hh_ hie
 have hgN :(N:Int)<(S.length:Int):=by omega
 have hgN0 :(0:Int)≤(N:Int):=by omega
 clear h hg i1 hie hem hE
 go_enter func158,ntmps158
 go_upto_region 2 with(go_at_call 182;refine(HP.out _ (Ab_ _ _)).mono ?_;rintro e w2 ⟨rfl,g2⟩)
 have R2:=H.out.same g2;have b2:=R2.blk.cell;obtain⟨g'',cap',hv',_,hgl',_,hc',hfz'⟩:=R2.own.at_ Az_ hil;cases hv';rw[HI.out] at hc';have d0:=hc' 0 _ rfl;have d1:=hc' 1 _ rfl;have d2:=hc' 2 _ rfl;have hw1:IntKind.u64.wrap (en.own+en.slack)=en.own+en.slack:=IntWalk.u64_in _ (by omega);rw[Nat.add_zero] at d0;have HO:=hh_ hfz';clear hc hfz hc' hfz' b0 HP
 go_upto_region 4 with fail
 go_quiet ((go_at_call 118;exact Calls.quiet_of_same ((HF.out _).mono fun _ _ ⟨he,hw⟩=>⟨he,hw.symm⟩)))
 have k3:w2.grownBy (w2.drewN nq) none:=Ae_ (Ab_ w2 none) _;have R3:=R2.same k3;have c1 :(w2.drewN nq).cell? ⟨g',N*3+1,none⟩=some (.int .u64 en.own):=d1;have f1 :(w2.drewN nq).frozen? ⟨g',N*3+1,none⟩=false:=HO.out _;have K3:=Aa_ g2 k3;clear b2 d0 d1 d2 R2 k3;generalize w2.drewN nq=w3 at *;have b3:=R3.blk.cell;have hw2:IntKind.u64.wrap (en.own+x)=en.own+x:=IntWalk.u64_in _ (by omega)
 go_wp2_with fail
 go_ret
 obtain⟨O4,g4⟩:=Own.stored (f:=entF) R3.own Az_ hil (j:=1) (by omega) (.int .u64 (en.own+x)) ⟨en.key,en.own+x,en.slack⟩ (by rw[HI.out];rfl);rw[←HB.out] at O4;refine⟨rfl,⟨R3.blk.kept g4 (fun e=>hne (by cases e;exact rfl)),?_,hne⟩,?_,fun i hi=>.inl hi⟩
 ·have:=M2_ S k x
  exact O4
 ·exact(GrownS.none_ (S:=rtF g (.slice (some ⟨g',0,none⟩) S.length cap)) K3).trans (GrownS.of (S:=oneF g') g4 fun q e=>by cases e;exact rfl) fun i hi _=>.inr (by rw[show i=g' from hi];exact rfl)
theorem Mz_ (L:List Ent) (e:Ent):lastMin (L++[e])=match lastMin L with|none=>some e|some x=>if e.cnt≤x.cnt then some e else some x:=by
 induction L with
 | nil=>rfl
 | cons a L ih=>
  rw[List.cons_append];simp only[lastMin];rw[ih]
  cases hm:lastMin L with
  | none=>rfl
  | some x=>
   dsimp only
   by_cases h1:e.cnt≤x.cnt
   ·rw[if_pos h1]
    by_cases h2:x.cnt≤a.cnt
    ·rw[if_pos h2];dsimp only;rw[if_pos (by omega),if_pos h1]
    ·rw[if_neg h2]
   ·rw[if_neg h1]
    by_cases h2:x.cnt≤a.cnt
    ·rw[if_pos h2];dsimp only;rw[if_neg h1,if_pos h2]
    ·simp only[if_neg h2];rw[if_neg (by omega)]
theorem Nh_ (g:Nat) (v:Value) (n:Int) (S:List Ent) (x:Ent) (w:World) (h:RSto w g v n S) (hl:S.length≤64) (hx:lastMin S=some x) (hS:∀e∈S,W64 e.own∧W64 e.slack∧e.own+e.slack≤mostW) :
  Calls prog 164 #[.pointer (some ⟨g,0,none⟩)] w (Cq_ (.tuple #[.agg #[.string x.key,.int .u64 x.own,.int .u64 x.slack],.bool true]) w):=by
 have H:=hh_ h;have hmw:mostW=9223372036854775808:=rfl
 obtain⟨a0,L0,rfl⟩:∃a L,S=a::L:=by
  cases S with
  | nil=>simp[lastMin] at hx
  | cons a L=>exact⟨a,L,rfl⟩
 have HX:=hh_ hx;have HS:=hh_ hS
 have hSl:0<(a0::L0).length:=by simp
 have HA:=hh_ (show(a0::L0)[0]'hSl=a0 from rfl);have HM0:=hh_ (show lastMin ((a0::L0).take 1)=some a0 from rfl)
 have HM1:=hh_ fun(j:Nat) (hj:j<(a0::L0).length) (y:Ent) (hy:lastMin ((a0::L0).take j)=some y)=>(show lastMin ((a0::L0).take (j+1))=some (if ((a0::L0)[j]).cnt≤y.cnt then (a0::L0)[j] else y) by
  rw[tg_ hj,Mz_,hy];dsimp only;split <;> rfl)
 have HM2:=hh_ (show ∀y,lastMin ((a0::L0).take 0)=some y→False by intro y hy;simp[lastMin] at hy);clear hx hS;generalize hSS:a0::L0=S at *;clear hSS;have hglt:=h.blk.lt;obtain⟨g',off,cap,hv,hgl,d0,d1,d2⟩:=h.own.rd.entr hSl
 have HD:=hh_ fun y (q:w.grownBy y none)=>(h.same q).own.rd.entr hSl
 subst hv;have b0:=h.blk.cell;have hz :((S.length:Int)==0)=false:=bf_ (by omega)
 have hz0 :(0:Int)<(S.length:Int):=by omega
 rw[HA.out] at HD;clear h d0 d1 d2 hgl
 go_enter func164,ntmps164
 go_upto_region 1 with fail
 obtain⟨A1,G1⟩:=nb_ w #[.string ⟨#[]⟩,.int .u64 0,.int .u64 0] 224;generalize w.alloc _=w1 at *;generalize hgb:w.heap.size=gb at *;have b1:=(H.out.same G1).blk.cell;obtain⟨g'',off'',cap'',hv,hgl,d0,d1,d2⟩:=HD.out _ G1;cases hv;simp only[Nat.zero_mul,Nat.add_zero] at d0 d1 d2
 go_upto_region 4 with fail
 obtain⟨A3,G3⟩:=nb_ w1 #[.string a0.key,.int .u64 a0.own,.int .u64 a0.slack] 224;generalize w1.alloc _=w3 at *;generalize hgc:w1.heap.size=gc at *;have K3:=Aa_ G1 G3;have b3:=(H.out.same K3).blk.cell;have A4:=A1.same G3
 have hcb:gb<gc:=by have:=A1.lt;omega
 have hwb:w.heap.size≤gb:=by omega
 clear d0 d1 d2 b0 b1 HD A1 G1 G3
 go_upto_region 5 with fail
 clear b3
 go_loopw [25] (fun s25 wk=>∃(j:Nat) (y:Ent),j≤S.length∧s25=.int .i64 j∧(if j=0 then y=a0 else lastMin (S.take j)=some y)∧W64 y.own∧W64 y.slack∧y.own+y.slack≤mostW∧Blk wk gc #[.string y.key,.int .u64 y.own,.int .u64 y.slack]∧Blk wk gb #[.string ⟨#[]⟩,.int .u64 0,.int .u64 0]∧w.grownBy wk none) (fun s25 _=>S.length-(RowKit.intOf s25).toNat)
 case atStart=>
  have h0:=HS.out a0 (HA.out▸mg_ hSl);exact⟨0,a0,zl_ _,rfl,rfl,h0.1,h0.2.1,h0.2.2,A3,A4,K3⟩
 case round=>
  obtain⟨j,y,hj,rfl,hy,⟨y1,y2⟩,⟨y3,y4⟩,y5,Ac,Ab,hg⟩:=hrel
  by_cases hjl:j<S.length
  ·obtain⟨gs,os,cs,hvs,hgs,d0,d1,d2⟩:=(H.out.same hg).own.rd.entr hjl
   cases hvs;obtain⟨⟨e1,e2⟩,⟨e3,e4⟩,e5⟩:=HS.out _ (mg_ hjl)
   have hst:=hh_ (show lastMin (S.take (j+1))=some (if S[j].cnt≤y.cnt then S[j] else y) by
    by_cases h0:j=0
    ·subst h0
     rw[if_pos rfl] at hy;rw[hy,HM0.out,HA.out];rw[if_pos (Int.le_refl _)]
    ·rw[if_neg h0] at hy
     exact HM1.out j hjl y hy)
   clear hy;unfold Ent.cnt at hst;generalize S[j]=e at *
   go_upto_region 7 with fail
   obtain⟨A5,G5⟩:=nb_ wr #[.string e.key,.int .u64 e.own,.int .u64 e.slack] 224;generalize wr.alloc _=w5 at *;generalize hgd:wr.heap.size=gd at *;have K5:=Aa_ hg G5;have Ac5:=Ac.same G5;have Ab5:=Ab.same G5
   have hcd:gc<gd:=by have:=Ac.lt;omega
   have a5:=A5.cell;have ac5:=Ac5.cell;have fc5:=Ac5.free;have hw1:IntKind.u64.wrap (e.own+e.slack)=e.own+e.slack:=IntWalk.u64_in _ (by omega);have hw2:IntKind.u64.wrap (y.own+y.slack)=y.own+y.slack:=IntWalk.u64_in _ (by omega);clear d0 d1 d2 Ac Ab
   by_cases hle:e.own+e.slack≤y.own+y.slack
   ·have hs:=hst.out
    rw[if_pos hle] at hs;have Hs:=hh_ hs;have hld:decide (e.own+e.slack≤y.own+y.slack)=true:=dt_ hle;clear hs hst hle
    go_wp2_with fail
    (have g7:World.grownBy w5 (((w5.setCell ⟨gc,0,none⟩ (.string e.key)).setCell ⟨gc,1,none⟩ (.int .u64 e.own)).setCell ⟨gc,2,none⟩ (.int .u64 e.slack)) (some gc):=Ac_ (Ac_ (Ac_ (Ab_ _ _) _ _) _ _) _ _);(have A7:Blk (((w5.setCell ⟨gc,0,none⟩ (.string e.key)).setCell ⟨gc,1,none⟩ (.int .u64 e.own)).setCell ⟨gc,2,none⟩ (.int .u64 e.slack)) gc #[.string e.key,.int .u64 e.own,.int .u64 e.slack]:=((Blk.set_ (by assumption) 0 _ rfl).set_ 1 _ rfl).set_ 2 _ rfl);generalize ((w5.setCell _ _).setCell _ _).setCell _ _=w7 at *
    have Ab7:=Ab5.kept g7 (by simp;omega);exact⟨⟨j+1,e,by omega,by go_num,by rw[if_neg (by omega)];exact Hs.out,⟨e1,e2⟩,⟨e3,e4⟩,e5,A7,Ab7,Af_ K5 g7 (by omega)⟩,by simp[RowKit.intOf];omega⟩
   ·have hs:=hst.out
    rw[if_neg hle] at hs;have Hs:=hh_ hs;have hld:decide (e.own+e.slack≤y.own+y.slack)=false:=df_ hle;clear hs hst hle
    go_wp2_with fail
    exact⟨⟨j+1,y,by omega,by go_num,by rw[if_neg (by omega)];exact Hs.out,⟨y1,y2⟩,⟨y3,y4⟩,y5,Ac5,Ab5,K5⟩,by simp[RowKit.intOf];omega⟩
  ·have hje:S.take j=S:=tk_ (by omega)
   rw[if_neg (by omega),hje,HX.out] at hy;have hy:=Option.some.inj hy;subst hy;have ac:=Ac.cell;have ab:=Ab.cell;have fb:=Ab.free
   go_wp2_with fail
   (have g7:World.grownBy wr (((wr.setCell ⟨gb,0,none⟩ (.string x.key)).setCell ⟨gb,1,none⟩ (.int .u64 x.own)).setCell ⟨gb,2,none⟩ (.int .u64 x.slack)) (some gb):=Ac_ (Ac_ (Ac_ (Ab_ _ _) _ _) _ _) _ _);(have A7:Blk (((wr.setCell ⟨gb,0,none⟩ (.string x.key)).setCell ⟨gb,1,none⟩ (.int .u64 x.own)).setCell ⟨gb,2,none⟩ (.int .u64 x.slack)) gb #[.string x.key,.int .u64 x.own,.int .u64 x.slack]:=((Blk.set_ (by assumption) 0 _ rfl).set_ 1 _ rfl).set_ 2 _ rfl);generalize ((wr.setCell _ _).setCell _ _).setCell _ _=w7 at *
   have rc:=A7.cell;refine bodyPost_ret (v:=.tuple #[.agg #[.string x.key,.int .u64 x.own,.int .u64 x.slack],.bool true]) (by simp[results,results164,go_sem,rc]) rfl ?_;exact Bx_ rfl (Af_ hg g7 hwb)
theorem Zu_ (g:Nat) (v:Value) (n:Int) (S:List Ent) (k:ByteArray) (fe:Ent) (w:World) (h:RSto w g v n S) (hlen:S.length≤64) (hg:getE S k=some fe):Calls prog 165 #[.pointer (some ⟨g,0,none⟩),.string k] w (fun e w'=>e=.returned (.tuple #[.agg #[.string fe.key,.int .u64 fe.own,.int .u64 fe.slack],.bool true])∧∃v',RSto w' g v' n (delE S k)∧Mov (rtF g v) (rtF g v') w w'):=by
 have H:=hh_ h;obtain⟨i1,hil,hie,hdel⟩:=Db_ hg
 have HG:=hh_ fun y (q:w.grownBy y none)=>Kk_ g v n S k fe y (h.same q) hg
 have HP0:=hh_ fun y (R:Own entF 3 224 0 y v S)=>Ck_ v S k y R.rd
 rw[i1] at HP0
 have HW0:=hh_ fun y (R:Own entF 3 224 0 y v S)=>Ee_ 0 v S (plN S k) y R hil (by omega)
 rw[←hdel] at HW0;generalize plN S k=I0 at *;generalize hI :(I0:Int)=I at *;generalize delE S k=L1 at *;obtain⟨a,c,hv⟩:=h.own.shape;subst hv;have hgl:=h.blk.lt;clear h hg i1 hie hdel
 go_enter func165,ntmps165
 go_upto_region 1 with fail
 obtain⟨A1,G1⟩:=nb_ w #[.string ⟨#[]⟩,.int .u64 0,.int .u64 0] 224;generalize w.alloc _=w1 at *;generalize hgb:w.heap.size=gb at *
 go_upto_region 2 with(go_at_call 157;refine(HG.out _ G1).mono ?_;rintro e w2 ⟨rfl,g2⟩)
 have K2:=Aa_ G1 g2;have A2:=A1.same g2;obtain⟨A3,G3⟩:=nb_ w2 #[.string fe.key,.int .u64 fe.own,.int .u64 fe.slack] 224;generalize w2.alloc _=w3 at *;generalize hgc:w2.heap.size=gc at *;have K3:=Aa_ K2 G3;have A4:=A2.same G3
 go_upto_region 3 with fail
 have k5:w.grownBy w3.drew none:=Al_ K3;have R5:=H.out.same k5;have HB:=hh_ R5.blk;have HO:=hh_ R5.own;have A5:=A3.drew1;have A6:=A4.drew1;have hcN:gc<w3.drew.heap.size:=A5.lt;have hgN:g<w3.drew.heap.size:=HB.out.lt;have hbN:gb<w3.drew.heap.size:=A6.lt;obtain⟨N,hN⟩:∃N,N=w3.drew.heap.size:=⟨_,rfl⟩;have HN2:=hh_ (Nat.le_of_eq hN);rw[←hN] at hcN hgN hbN
 have hvN:∀i,ownF (.slice a S.length c) i→i<N:=by rw[hN];exact HO.out.low
 have HX:=hh_ A5;have HY:=hh_ A6;obtain⟨P,hP⟩:∃P:List Ent→Prop,P=fun Q=>Q=L1:=⟨_,rfl⟩;have HPF:=hh_ (show P L1 by rw[hP])
 have HP:=hh_ fun y (m:Keep entF 3 224 N P w3.drew y)=>HP0.out y (HO.out.keptS m.grown fun q hq hge=>by have:=hvN q hq;omega)
 have HW:=hh_ fun y (m:Keep entF 3 224 N P w3.drew y)=>HW0.out y (HO.out.keptS m.grown fun q hq hge=>by have:=hvN q hq;omega)
 have Hk:=hh_ k5;have hz5:=k5.size
 have hN0:w.heap.size≤N:=by omega
 have HI:=hh_ hI;have Hgc:=hh_ hgc
 have hbc:gb<gc:=by have:=A2.lt;omega
 have hb0:w.heap.size≤gb:=by omega
 clear HP0 HW0 hN k5 A5 A6 A1 A2 A3 A4 R5 G1 G3 K2 K3 HG g2 hP hI hz5 hgc
 (refine Rg.wp_region_rgZ 14 #[] (Keep entF 3 224 N P) (fun k _ w v w'=>match k with | 10=>v=.int .i64 I∧World.grownBy w w' none | 11=>Own entF 3 224 N w' v L1∧World.grownBy w w' none | _=>False) (by kernel_rfl) (by kernel_rfl) (Keep.refl _ _ _ _ _) (fun _ _ _ h k=>h.trans k) (fun _ _ _ _ _ h=>h) ?_;simp only[List.take,List.drop])
 generalize w3.drew=wd at *
 (refine tq_ 4 ?_;(repeat(go_big_quiet_step (fail)));refine wn_ ?_)
 (refine to_ ?_;intro y4 my4 dy4)
 clear dy4;have ax:=(my4.blk HB.out hgN).cell
 go_wp2_with fail
 refine⟨Keep.refl _ _ _ _ _ _,?_⟩;clear ax my4
 (refine tq_ 3 ?_;(repeat(go_big_quiet_step (fail)));refine wn_ ?_)
 (refine to_ ?_;intro y8 my8 dy8)
 clear dy8;have ax:=(my8.blk HB.out hgN).cell
 go_wp2_with fail
 refine⟨Keep.refl _ _ _ _ _ _,?_⟩;clear ax my8
 (refine tq_ 1 ?_;(repeat(go_big_quiet_step (fail)));refine wn_ ?_)
 (refine tc_ ?_;intro y10 my10 dy10;refine⟨?_,?_⟩;· (unfold Rg.callSpec;go_simp;(refine(HP.out y10 my10).mono ?_;rintro e w' ⟨rfl,g'⟩;exact⟨_,rfl,rfl,g'⟩)))
 clear dy10;rintro v10 e10 ⟨rfl,g10⟩;refine⟨Keep.of g10,?_⟩;simp only[pt_];clear g10 my10
 (refine tc_ ?_;intro y11 my11 dy11;refine⟨?_,?_⟩;· (unfold Rg.callSpec;go_simp;(refine(HW.out y11 my11).mono ?_;rintro e w' ⟨v',rfl,o',g'⟩;exact⟨_,rfl,o'.base (fun q hq=>lt_ (lt_ HN2.out my11.grown.size) (o'.lt q hq).1),g'⟩)))
 clear dy11;rintro v11 e11 ⟨o11,g11⟩;refine⟨Keep.of g11,?_⟩;simp only[pt_];clear g11 my11
 (refine tq_ 2 ?_;(repeat(go_big_quiet_step (fail)));refine wn_ ?_)
 (refine Rg.tree_nil ?_;intro z mz dz cz)
 have OZ:=(dz.out 11 (by omega)).own _ _ HPF.out o11;have BZ:=mz.blk HB.out hgN;have XZ:=mz.blk HX.out hcN;have YZ:=mz.blk HY.out hbN;have GZ:=mz.grown;clear dz cz o11 mz;have bz:=BZ.cell;have fz:=BZ.free;obtain⟨az,cz2,hvz⟩:=OZ.shape;subst hvz
 go_upto_region 4 with fail
 have hnz:¬ownF (.slice az L1.length cz2) g:=fun e=>by have:=(OZ.lt _ e).1;omega
 obtain⟨R6,g6⟩:=RSto.setL BZ OZ hnz;have X6:=XZ.kept g6 (by simp;omega);have Y6:=YZ.kept g6 (by simp;omega)
 have HOZ:=hh_ fun i hi=>(OZ.lt i hi).1
 clear bz fz BZ OZ XZ YZ;generalize z.setCell ⟨g,1,none⟩ (.slice az L1.length cz2)=w6 at *;have x6:=X6.cell;have y6:=Y6.cell;have f6:=Y6.free
 go_wp2_with fail
 (have g7:World.grownBy w6 (((w6.setCell ⟨gb,0,none⟩ (.string fe.key)).setCell ⟨gb,1,none⟩ (.int .u64 fe.own)).setCell ⟨gb,2,none⟩ (.int .u64 fe.slack)) (some gb):=Ac_ (Ac_ (Ac_ (Ab_ _ _) _ _) _ _) _ _);(have A7:Blk (((w6.setCell ⟨gb,0,none⟩ (.string fe.key)).setCell ⟨gb,1,none⟩ (.int .u64 fe.own)).setCell ⟨gb,2,none⟩ (.int .u64 fe.slack)) gb #[.string fe.key,.int .u64 fe.own,.int .u64 fe.slack]:=((Blk.set_ (by assumption) 0 _ rfl).set_ 1 _ rfl).set_ 2 _ rfl);generalize ((w6.setCell _ _).setCell _ _).setCell _ _=w7 at *
 have rc:=A7.cell;have hz6:=g6.size;refine bodyPost_ret (v:=.tuple #[.agg #[.string fe.key,.int .u64 fe.own,.int .u64 fe.slack],.bool true]) (by simp[results,results165,go_sem,rc]) rfl ?_
 have R7:=R6.keptS (GrownS.of (S:=oneF gb) g7 fun q e=>by cases e;exact rfl) fun i hi hib=>by
  rw[show i=gb from hib] at hi
  rcases hi with hi|hi
  ·omega
  ·have:=HOZ.out gb hi;omega
 refine⟨rfl,_,R7,?_,fun i hi=>?_⟩
 ·have M2:GrownS (rtF g (.slice a S.length c)) w wd:=GrownS.none_ Hk.out
  refine((M2.trans GZ fun i hi hlt=>absurd hi (by omega)).trans (GrownS.of (S:=oneF g) g6 fun q e=>by cases e;exact rfl) fun i hi _=>.inl hi).trans (GrownS.of (S:=oneF gb) g7 fun q e=>by cases e;exact rfl) fun i hi hlt=>?_
  have:i=gb:=hi
  omega
 ·rcases hi with hi|hi
  ·exact .inl (.inl hi)
  ·exact .inr (lt_ hN0 (HOZ.out i hi))
end
section
open Go.RowKit
section
variable {α:Type} {f:α→List Value} {st e:TypeId} {z:Value} {size bytes:Nat} {N:Nat} {P:List α→Prop} {w w':World}
theorem Sr_ {u v:Value} {l T:List α} (hf:∀x,(f x).length=size) (ho:Own f size e N w v l) (hu:Own f size e N w u T) (hle:l.length≤T.length) {g:Nat} (h1:v.ownBlock=some g) (h2:u.ownBlock=some g):cellsOf f (T.take l.length)=cellsOf f l:=by
 rcases ho.2 with⟨rfl,_⟩ |⟨g1,cap1,cur1,rfl,_,hg1,_,_,_,ht1⟩
 ·simp[Value.ownBlock] at h1
 ·rcases hu.2 with⟨rfl,_⟩ |⟨g2,cap2,cur2,rfl,_,hg2,_,_,_,ht2⟩
  ·simp[Value.ownBlock] at h2
  ·have e1:g1=g:=by simpa [Value.ownBlock] using h1
   have e2:g2=g:=by simpa [Value.ownBlock] using h2
   subst e1 e2;rw[hg1] at hg2;cases hg2
   have h3 :(cellsOf f T).take (l.length*size)=cellsOf f l:=by
    rw[←ht2,←ht1,List.take_take,Nat.min_eq_left (Nat.mul_le_mul_right _ hle)]
   rw[←h3]
   have h4:cellsOf f T=cellsOf f (T.take l.length)++cellsOf f (T.drop l.length):=by rw[←Ar_,List.take_append_drop]
   rw[h4,List.take_left' (by rw[As_ f size hf,lk_,Nat.min_eq_left hle])]
variable {v:Value} {l l2:List α} {A:Option Addr} {m c:Nat}
variable {o:Oper} {a:Act} {ops:Array Oper} {rest:List Oper} {Q:Exit→Act→World→Prop}
theorem Nv_ (E:Elt st e z size bytes) (h1:OneF f) (hf:∀x,(f x).length=size) (hown:Own f size e N w v l) (hr:RdL f size w (.slice A m c) l2) (hm:m=l2.length) (hb :(l.length+l2.length)*bytes≤140737488355328) (h63:l.length+l2.length≤9223372036854775807) (hbase:N≤w.heap.size)
  (hP:∀T,P T→(T.length≤l.length∨T <+: l++l2∨l++l2 <+: T)∨(l.length≤T.length∧cellsOf f (T.take l.length)≠cellsOf f l))
  (hgd:o.guard=none) (s x:Operand) (ho:o.op=.call { callee:=.builtin .append,args:=#[s,x],argTypes:=#[st,st] }) (hs:a.eval s=v) (hx:a.eval x=.slice A m c)
  (h:∀v' w',Own f size e N w' v' (l++l2)→Keep f size e N P w w'→wpList prog ops Q rest (a.put o.dst v') w'):wpList prog ops Q (o::rest) a w:=by
 refine wpList_plain hgd fun _ hK=>?_
 subst hm;obtain⟨v',w',hrun,h2,h3,h4⟩:=Hl_ (ty:=o.type) E hown hr (h1.cells l2) (by unfold maxLen;exact h63) hb hbase
 have h2':Own f size e N w' v' (l++l2):=by unfold Own;rw[Ar_,la_];exact h2
 unfold Oper.wp execOp;simp only[ho,resolve,invoke,builtin,Sem.run_bind,Sem.run_pure,Result.andThen_ok,List.map_toArray,List.map_cons,List.map_nil,hs,hx,hrun];refine hK _ _ (h v' w' h2' ⟨GrownS.of h3 (fun k hk=>(hown.lt k hk).1),fun T u hp hu=>?_⟩)
 rcases hP T hp with hT |⟨hle,hne⟩
 ·exact Fy_ hf E.pos hown h2' h3 h4 hT hu
 ·refine hu.kept h3 fun k hk e=>hne ?_
  exact Sr_ hf hown hu hle e hk
end
end
section
open Go.RowKit Go.Sort
theorem Lm_:∀{L M:List Ent},L.length=M.length→cellsOf entF L=cellsOf entF M→L=M
 | [],[],_,_=>rfl
 | [],_::_,h,_=>by simp at h
 | _::_,[],h,_=>by simp at h
 | a::L,b::M,h,hc=>by
  simp only[cellsOf,List.flatMap_cons,entF,List.cons_append,List.nil_append] at hc
  injection hc with h1 hc
  injection hc with h2 hc
  injection hc with h3 hc
  have:=Lm_ (L:=L) (M:=M) (by simpa using h) hc
  obtain⟨k1,o1,s1⟩:=a;obtain⟨k2,o2,s2⟩:=b
  injection h1 with h1;injection h2 with _ h2;injection h3 with _ h3
  simp at h1 h2 h3
  subst h1 h2 h3 this
  rfl
theorem R9_ {y e:Ent} {S:List Ent} (h :(y::S).Perm (e::S)):y=e:=by
 classical
 have h1:=h.count_eq y;rw[List.count_cons_self] at h1
 refine Decidable.byContradiction fun hne=>?_
 rw[List.count_cons_of_ne (Ne.symm hne)] at h1
 omega
theorem Tf_ (g:Nat) (v:Value) (n:Int) (S:List Ent) (e:Ent) (w:World) (h:RSto w g v n S) (hA:AscE S) (hlen:S.length≤64) (hl :(S.length:Int)≠n) (hn:e.key∉keysE S) (he:0<e.key.size) (ho:0≤e.own) (hs:0≤e.slack) (hc:e.own+e.slack≤mostW) :
  Calls prog 163 #[.pointer (some ⟨g,0,none⟩),.agg #[.string e.key,.int .u64 e.own,.int .u64 e.slack]] w (fun en w'=>en=.returned (.int .i64 0)∧∃v',RSto w' g v' n (insE S e)∧Mov (rtF g v) (rtF g v') w w'):=by
 have H:=hh_ h;have hmw:mostW=9223372036854775808:=rfl
 have HPe:=hh_ fun z (q:w.grownBy z none)=>Ck_ v S e.key z (h.same q).own.rd
 rw[Hp_ (Bj_.2 hn)] at HPe
 have HF:=hh_ fun z (q:w.grownBy z none)=>G5_ g v n S z (h.same q)
 rw[df_ hl] at HF
 have HE:=hh_ fun z=>Mo_ e.own e.slack 9223372036854775808 z ⟨by omega,by omega⟩ ⟨by omega,by omega⟩ ⟨by omega,by omega⟩ (by omega)
 have HR:=hh_ (show sortEn (S++[e])=insE S e by rw[Jc_,So_ hA]);have he2:=Bm_ e.key;rw[df_ (show ¬e.key.size=0 by omega)] at he2;obtain⟨a,c,hv⟩:=h.own.shape;subst hv;have hgl:=h.blk.lt;clear h hA hn hl
 go_enter func163,ntmps163
 go_upto_region 1 with fail
 obtain⟨E3,K3⟩:=nb_ w #[.string e.key,.int .u64 e.own,.int .u64 e.slack] 224;generalize w.alloc _=w3 at *;generalize hge:w.heap.size=ge at *;have e3:=E3.cell
 go_upto_region 3 with fail
 clear e3;have k4:=Al_ K3;have HE3:=hh_ E3.drew1
 (refine rn_ 9 (fun k _ w v w'=>match k with | 6=>v=.int .i64 (-1)∧World.grownBy w w' none | _=>False) ?_;simp only[ts_])
 clear E3 K3;generalize w3.drew=wq at *
 (refine tq_ 3 ?_;(repeat(go_big_quiet_step (fail)));refine wn_ ?_)
 (refine to_ ?_;intro y3 my3 dy3)
 clear dy3;have ax:=(H.out.same (Aa_ k4 my3)).blk.cell
 go_wp2_with fail
 refine⟨Ab_ _ _,?_⟩;clear ax my3
 (refine tq_ 1 ?_;(repeat(go_big_quiet_step (fail)));refine wn_ ?_)
 (refine to_ ?_;intro y5 my5 dy5)
 clear dy5;have ax:=(HE3.out.same my5).cell
 go_wp2_with fail
 refine⟨Ab_ _ _,?_⟩;clear ax my5
 (refine tc_ ?_;intro y6 my6 dy6;refine⟨?_,?_⟩;· (unfold Rg.callSpec;go_simp;(refine(HPe.out y6 (Aa_ k4 my6)).mono ?_;rintro e w' ⟨rfl,g'⟩;exact⟨_,rfl,rfl,g'⟩)))
 clear dy6;rintro v6 e6 ⟨rfl,g6⟩;refine⟨g6,?_⟩;simp only[pt_];clear g6 my6
 (refine tq_ 2 ?_;(repeat(go_big_quiet_step (fail)));refine wn_ ?_)
 (refine Rg.tree_nil ?_;intro z mz dz cz)
 have KZ:=Aa_ k4 mz;have EZ:=HE3.out.same mz;clear dz cz mz k4 HE3
 go_upto_region 7 with(go_at_call 161;refine(HF.out _ KZ).mono ?_;rintro e' w5 ⟨rfl,g5⟩)
 have K5:=Aa_ KZ g5;have E5:=EZ.same g5;have e5:=E5.cell;clear KZ EZ g5
 go_upto_region 9 with(go_at_call 185;refine(HE.out _).mono ?_;rintro e' w6 ⟨rfl,g6⟩)
 have K6:=Aa_ K5 g6;have E6:=E5.same g6;clear e5 E5 g6 K5;have k7:w.grownBy w6.drew none:=Al_ K6;have R7:=H.out.same k7;have HB:=hh_ R7.blk;have HO:=hh_ R7.own;have A7:=E6.drew1;have hcN:ge<w6.drew.heap.size:=A7.lt;have hgN:g<w6.drew.heap.size:=HB.out.lt;obtain⟨N,hN⟩:∃N,N=w6.drew.heap.size:=⟨_,rfl⟩;have HN2:=hh_ (Nat.le_of_eq hN);rw[←hN] at hcN hgN
 have hvN:∀i,ownF (.slice a S.length c) i→i<N:=by rw[hN];exact HO.out.low
 have HX:=hh_ A7;obtain⟨P,hP⟩:∃P:List Ent→Prop,P=fun Q=>Q=[]∨Q=S∨Q=[⟨e.key,e.own,e.slack⟩]∨Q=S++[⟨e.key,e.own,e.slack⟩]∨Q=insE S e:=⟨_,rfl⟩;have HP0:=hh_ (show P [] by rw[hP];exact .inl rfl);have HP1:=hh_ (show P S by rw[hP];exact .inr (.inl rfl));have HPx:=hh_ (show P [⟨e.key,e.own,e.slack⟩] by rw[hP];exact .inr (.inr (.inl rfl)));have HPF:=hh_ (show P (S++[⟨e.key,e.own,e.slack⟩]) by rw[hP];exact .inr (.inr (.inr (.inl rfl))));have HPZ:=hh_ (show P (insE S e) by rw[hP];exact .inr (.inr (.inr (.inr rfl))))
 have HP2:=hh_ (show ∀Q,P Q→(Q.length≤S.length∨Q <+: S++[⟨e.key,e.own,e.slack⟩]∨S++[⟨e.key,e.own,e.slack⟩] <+: Q)∨(S.length≤Q.length∧cellsOf entF (Q.take S.length)≠cellsOf entF S) by
  intro Q hQ;rw[hP] at hQ
  rcases hQ with rfl|rfl|rfl|rfl|rfl
  ·exact .inl (.inl (zl_ _))
  ·exact .inl (.inl (le_ _))
  ·cases S with
   | nil=>exact .inl (.inr (.inl (List.prefix_refl _)))
   | cons _ _=>exact .inl (.inl (by simp))
  ·exact .inl (.inr (.inl (List.prefix_refl _)))
  ·have hil:=Fn_ S e
   by_cases hc:cellsOf entF ((insE S e).take S.length)=cellsOf entF S
   ·left;right;left
    have h1:=Lm_ (by rw[lk_,hil];omega) hc
    have h2:insE S e=S++(insE S e).drop S.length:=by conv=>lhs;rw[←List.take_append_drop S.length (insE S e),h1]
    obtain⟨y,hy⟩:∃y,(insE S e).drop S.length=[y]:=by
     have :((insE S e).drop S.length).length=1:=by rw[List.length_drop,hil];omega
     exact List.length_eq_one_iff.1 this
    rw[hy] at h2;have hp:=Bb_ S e;rw[h2] at hp;have hp2 :(y::S).Perm (e::S):=(List.perm_append_singleton y S).symm.trans hp
    have:y=e:=by
     exact R9_ hp2
    rw[h2,this];exact List.prefix_refl _
   ·exact .inr ⟨by omega,hc⟩)
 have hb2:S.length*32≤140737488355328:=by omega
 have hb3:S.length≤9223372036854775807:=by omega
 have hb4 :(S.length+[(⟨e.key,e.own,e.slack⟩:Ent)].length)*32≤140737488355328:=by simp;omega
 have hb5:S.length+[(⟨e.key,e.own,e.slack⟩:Ent)].length≤9223372036854775807:=by simp;omega
 have Hk:=hh_ k7;have hz7:=k7.size
 have hN0:w.heap.size≤N:=by omega
 clear hN k7 A7 R7 hP hz7 K6 E6
 (refine Rg.wp_region_rgZ 13 #[] (Keep entF 3 224 N P) (fun k _ w v w'=>match k with | 10=>Own entF 3 224 N w' v (insE S e)∧World.grownBy w w' none | _=>False) (by kernel_rfl) (by kernel_rfl) (Keep.refl _ _ _ _ _) (fun _ _ _ h k=>h.trans k) (fun _ _ _ _ _ h=>h) ?_;simp only[List.take,List.drop])
 generalize w6.drew=wd at *
 (refine tq_ 1 ?_;(repeat(go_big_quiet_step (fail)));refine wn_ ?_)
 (refine to_ ?_;intro y1 my1 dy1)
 clear dy1;have z1:=lt_ HN2.out my1.grown.size
 go_wp2_with fail
 refine⟨Keep.of (ga_ _ _ _),?_⟩;have N1:=A0_ (e:=224) entF 3 z1;generalize y1.alloc _=e1 at *;generalize y1.heap.size=g1 at *
 (refine tq_ 3 ?_;(repeat(go_big_quiet_step (fail)));refine wn_ ?_)
 (refine to_ ?_;intro y5 my5 dy5)
 clear dy5;have ax:=(my5.blk HB.out hgN).cell
 go_wp2_with fail
 refine⟨Keep.refl _ _ _ _ _ _,?_⟩;clear ax my5
 (refine to_ ?_;intro y6 my6 dy6)
 have N6:=(dy6.out 1 (by omega) (by kernel_rfl)).own [] _ HP0.out N1;have R6:=my6.rd HO.out.rd (fun _ a n c e=>by cases e;exact hvN _ rfl);have z6:=lt_ HN2.out my6.grown.size;clear dy6
 go_wp2_with (at_builtin;refine A5_ Bp_ Bo_ N6 R6 rfl hb2 hb3 z6 ?_;intro v8 e8 o8 g8 l8;have Hg8:=hh_ g8;clear g8 l8)
 refine⟨Keep.of Hg8.out,?_⟩;clear N6 R6 z6 N1 my6 my1 z1
 (refine to_ ?_;intro y7 my7 dy7)
 clear dy7;have ax:=(my7.blk HX.out hcN).cell
 go_wp2_with fail
 refine⟨Keep.refl _ _ _ _ _ _,?_⟩;clear ax my7
 (refine to_ ?_;intro y8 my8 dy8)
 clear dy8;have z8:=lt_ HN2.out my8.grown.size
 go_wp2_with fail
 refine⟨Keep.of (ga_ _ _ _),?_⟩;have N8:Own entF 3 224 N (y8.alloc (.cells #[.string e.key,.int .u64 e.own,.int .u64 e.slack] 224)) (.slice (some ⟨y8.heap.size,0,none⟩) 1 1) [⟨e.key,e.own,e.slack⟩]:=Cb_ Az_ y8 z8 ⟨e.key,e.own,e.slack⟩ _ rfl;generalize y8.alloc _=e9 at *;generalize y8.heap.size=g9 at *
 (refine to_ ?_;intro y9 my9 dy9)
 have N9:=(dy9.out 6 (by omega) (by kernel_rfl)).own _ _ HP1.out o8;have R9:=((dy9.out 8 (by omega) (by kernel_rfl)).own _ _ HPx.out N8).rd;have z9:=lt_ HN2.out my9.grown.size;clear dy9
 go_wp2_with (at_builtin;refine Nv_ Bp_ Bo_ Az_ N9 R9 rfl hb4 hb5 z9 HP2.out (by rfl) _ _ (by rfl) (by rfl) (by rfl) ?_;intro v10 e10 o10 k10;have Hk10:=hh_ k10;clear k10)
 refine⟨Hk10.out,?_⟩;clear N9 R9 z9 N8 z8 my8 my9 o8;obtain⟨a9,c9,hv9⟩:=o10.shape;rw[la_,ls_] at hv9;subst hv9
 have HSo:=hh_ fun y (R:Own entF 3 224 N y (.slice a9 (S.length+1) c9) (S++[⟨e.key,e.own,e.slack⟩]))=>Hv_ _ _ y R.rd (by rw[la_,ls_];omega)
 rw[HR.out] at HSo
 (refine tc_ ?_;intro y10 my10 dy10;refine⟨?_,?_⟩;· (unfold Rg.callSpec;go_simp;(refine(HSo.out y10 ((dy10.out 9 (by omega) (by kernel_rfl)).own _ _ HPF.out o10)).mono ?_;rintro e w' ⟨v',rfl,o',g'⟩;exact⟨_,rfl,o'.base (fun q hq=>lt_ (lt_ HN2.out my10.grown.size) (o'.lt q hq).1),g'⟩)))
 clear dy10;rintro v11 e11 ⟨o11,g11⟩;refine⟨Keep.of g11,?_⟩;simp only[pt_];clear g11 my10
 (refine tq_ 2 ?_;(repeat(go_big_quiet_step (fail)));refine wn_ ?_)
 (refine Rg.tree_nil ?_;intro z mz dz cz)
 have oz:=(dz.out 10 (by omega)).own _ _ HPZ.out o11;have BZ:=mz.blk HB.out hgN;have GZ:=mz.grown;clear dz cz o10 o11 mz Hg8 Hk10 HSo;obtain⟨az,cz2,hvz⟩:=oz.shape;rw[Fn_] at hvz;subst hvz;have b9:=BZ.cell;have f9:=BZ.free
 go_wp2_with fail
 go_ret
 have hnz:¬ownF (.slice az (S.length+1) cz2) g:=fun e=>by have:=(oz.lt _ e).1;omega
 obtain⟨R6,g6⟩:=RSto.setL BZ oz hnz;refine⟨rfl,_,R6,?_,fun i hi=>?_⟩
 ·have M2:GrownS (rtF g (.slice a S.length c)) w wd:=GrownS.none_ Hk.out
  exact(M2.trans GZ fun i hi hlt=>absurd hi (by omega)).trans (GrownS.of (S:=oneF g) g6 fun q e=>by cases e;exact rfl) fun i hi _=>.inl hi
 ·rcases hi with hi|hi
  ·exact .inl (.inl hi)
  ·exact .inr (by have:=(oz.lt i hi).1;omega)
end
section
open Go.RowKit
def Ch_ (l:List Int):Array Value:=(l.map (fun x=>Value.int .u64 x)).toArray
theorem Xg_ :(prog.info? 22).map (fun i=>(i.zero,i.size,i.bytes))=some (some (.int .u64 0),1,8):=by kernel_rfl
theorem Sw_ (n:Nat):madeCells #[Value.int .u64 0] n=Ch_ (List.replicate n 0):=by
 unfold madeCells Ch_
 apply Array.ext
 ·simp
 ·intro i h1 h2
  simp[Nat.mod_one]
theorem R6_ (n:Nat) (hn:n≤1000000) (w:World) :
  (Instr.makeSlice 24 (.int .i64 n) (.int .i64 n)).run prog w=.ok (.slice (some ⟨w.heap.size,0,none⟩) n n) (w.alloc (.cells (Ch_ (List.replicate n 0)) 22)):=by
 obtain⟨i0,hi,hz0,hz1,hz2⟩:=info_parts Xg_
 have:=run_make (P:=prog) w 24 22 i0 (.int .u64 0) underlying24 hi hz0 .i64 .i64 n n (by omega) (by omega) (by rw[hz2];omega) (by omega)
 rw[this,hz1];simp only[Int.toNat_natCast,Nat.mul_one,Value.cells,Sw_]
end
section
open Go.RowKit Go.Sort
structure SlR where
 (a:Option Addr) (n c:Nat)
def slF (x:SlR):List Value:=[.slice x.a x.n x.c]
def SlR.v (x:SlR):Value:=.slice x.a x.n x.c
theorem Pd_ (x:SlR) :(slF x).length=1:=rfl
theorem gp_ (x:SlR):slF x=[x.v]:=rfl
theorem cc_:OneF slF:=by intro x u hu;simp[slF] at hu;subst hu;rfl
theorem Q5_:Elt 127 24 (.slice none 0 0) 1 24:=⟨underlying127,by kernel_rfl,rfl,by decide⟩
theorem Ys_ (l:List SlR):cellsOf slF l=cellsOf valF (l.map SlR.v):=by
 induction l with
 | nil=>rfl
 | cons x l ih=>
  have h1:cellsOf slF (x::l)=x.v::cellsOf slF l:=rfl;have h2:cellsOf valF ((x::l).map SlR.v)=x.v::cellsOf valF (l.map SlR.v):=rfl;rw[h1,h2,ih]
structure ORows (w:World) (v:Value) (vs:List SlR) (rows:List (List Int)):Prop where
 own:Own slF 1 24 0 w v vs
 len:vs.length=rows.length
 all:∀(i:Nat) u row,vs[i]?=some u→rows[i]?=some row→Own wordF 1 22 0 w u.v row
 ne:∀u∈vs,Off (ownF u.v) (ownF v)
 apart:∀(i j:Nat) u u',vs[i]?=some u→vs[j]?=some u'→i≠j→Off (ownF u.v) (ownF u'.v)
def rowsF (v:Value) (vs:List SlR):Fp:=fun i=>ownF v i∨∃u∈vs,ownF u.v i
theorem ORows.row {v:Value} {vs:List SlR} {rows:List (List Int)} (h:ORows w v vs rows) {u:SlR} (hu:u∈vs):∃row,Own wordF 1 22 0 w u.v row:=by
 obtain⟨i,hi,rfl⟩:=List.mem_iff_getElem.1 hu;have hi2:i<rows.length:=h.len▸hi;exact⟨_,h.all i _ rows[i] (gq_ hi) (gq_ hi2)⟩
theorem ORows.low {v:Value} {vs:List SlR} {rows:List (List Int)} (h:ORows w v vs rows):Low w (rowsF v vs):=fun i hi=>by
 rcases hi with hi |⟨u,hu,hi⟩
 ·exact h.own.low i hi
 ·obtain⟨row,hr⟩:=h.row hu
  exact hr.low i hi
theorem ORows.keptS {v:Value} {vs:List SlR} {rows:List (List Int)} {S:Fp} (h:ORows w v vs rows) (k:GrownS S w w') (ho:Off (rowsF v vs) S):ORows w' v vs rows:=
 ⟨h.own.offS k (ho.left fun i hi=>.inl hi),h.len,fun i u row hu hr=>(h.all i u row hu hr).offS k (ho.left fun q hq=>.inr ⟨u,mo_ hu,hq⟩),h.ne,h.apart⟩
theorem ORows.rd {v:Value} {vs:List SlR} {rows:List (List Int)} (h:ORows w v vs rows):Jq_ w v (vs.map SlR.v) rows:=by
 refine⟨?_,by rw[List.length_map];exact h.len,fun i u row hu hr=>?_⟩
 ·have:=h.own.rd
  unfold RdL at this ⊢;rw[←Ys_,List.length_map];exact this
 ·rw[List.getElem?_map] at hu
  cases hx:vs[i]? with
  | none=>rw[hx] at hu;simp at hu
  | some x=>
   rw[hx] at hu;simp only[Option.map_some,Option.some.injEq] at hu;subst hu;exact(h.all i x row hx hr).rd
theorem ORows.nil (w:World):ORows w (.slice none 0 0) [] []:=⟨Own.nil _ _ _ _ _,rfl,by simp,by simp,by simp⟩
theorem ORows.snoc {v v':Value} {vs:List SlR} {rows:List (List Int)} (h:ORows w v vs rows) (hg:w.grownBy w' v.ownBlock) {x:SlR} {row:List Int} (ho:Own slF 1 24 0 w' v' (vs++[x])) (hl:Lies v v' w.heap.size) (hx:Own wordF 1 22 w.heap.size w' x.v row) (hne:Off (ownF x.v) (ownF v')):ORows w' v' (vs++[x]) (rows++[row]):=by
 have hS:GrownS (ownF v) w w':=GrownS.of hg fun q e=>e
 have hlow:=h.low;refine⟨ho,by simp[h.len],fun i u r hu hr=>?_,fun u hu q hq hq'=>?_,fun i j u u' hu hu' hij q hq hq'=>?_⟩
 ·rw[List.getElem?_append] at hu hr
  by_cases hi:i<vs.length
  ·rw[if_pos hi] at hu
   rw[if_pos (h.len▸hi)] at hr;exact(h.all i u r hu hr).offS hS (h.ne u (mo_ hu))
  ·rw[if_neg hi] at hu
   rw[if_neg (h.len▸hi)] at hr;rw[List.getElem?_singleton] at hu hr
   split at hu
   ·rename_i h0
    rw[if_pos (by have:=h.len;omega)] at hr;cases hu;cases hr;exact hx.zero
   ·cases hu
 ·rcases ma_ hu with hu|hu
  ·have h1:=hlow q (.inr ⟨u,hu,hq⟩)
   rcases lies_new hl q hq' with h2|h2
   ·exact h.ne u hu q hq h2
   ·omega
  ·rw[ms_ hu] at hq
   exact hne q hq hq'
 ·have key:∀(i:Nat) u,(vs++[x])[i]?=some u→(i<vs.length∧vs[i]?=some u)∨(i=vs.length∧u=x):=fun i u hu=>by
   rw[List.getElem?_append] at hu
   by_cases hi:i<vs.length
   ·rw[if_pos hi] at hu;exact .inl ⟨hi,hu⟩
   ·rw[if_neg hi,List.getElem?_singleton] at hu
    split at hu
    ·cases hu;exact .inr ⟨by omega,rfl⟩
    ·cases hu
  rcases key i u hu with⟨h1,h2⟩ |⟨h1,rfl⟩ <;> rcases key j u' hu' with⟨h3,h4⟩ |⟨h3,rfl⟩
  ·exact h.apart i j u u' h2 h4 hij q hq hq'
  ·have:=hlow q (.inr ⟨u,mo_ h2,hq⟩)
   have:=(hx.lt q hq').1;omega
  ·have:=hlow q (.inr ⟨u',mo_ h4,hq'⟩)
   have:=(hx.lt q hq).1;omega
  ·omega
structure RSk (w:World) (g:Nat) (v:Value) (vs:List SlR) (vt:Value) (t:List Int) (seed:Int) (rows:List (List Int)) (sum:Int):Prop where
 blk:Blk w g #[v,vt,.int .u64 seed,.int .u64 sum]
 rows:ORows w v vs rows
 tab:Own wordF 1 22 0 w vt t
 ne:¬rowsF v vs g∧¬ownF vt g
 off:Off (ownF vt) (rowsF v vs)
def rskF (g:Nat) (v:Value) (vs:List SlR) (vt:Value):Fp:=fun i=>i=g∨rowsF v vs i∨ownF vt i
theorem RSk.low {g:Nat} {v:Value} {vs:List SlR} {vt:Value} {seed:Int} {rows:List (List Int)} {sum:Int} (h:RSk w g v vs vt t seed rows sum):Low w (rskF g v vs vt):=fun i hi=>by
 rcases hi with rfl|hi|hi
 ·exact h.blk.lt
 ·exact h.rows.low i hi
 ·exact h.tab.low i hi
theorem RSk.keptS {g:Nat} {v:Value} {vs:List SlR} {vt:Value} {seed:Int} {rows:List (List Int)} {sum:Int} {S:Fp} (h:RSk w g v vs vt t seed rows sum) (k:GrownS S w w') (ho:Off (rskF g v vs vt) S):RSk w' g v vs vt t seed rows sum:=
 ⟨h.blk.keptS k (ho g (.inl rfl)),h.rows.keptS k (ho.left fun i hi=>.inr (.inl hi)),h.tab.offS k (ho.left fun i hi=>.inr (.inr hi)),h.ne,h.off⟩
theorem RSk.same {g:Nat} {v:Value} {vs:List SlR} {vt:Value} {seed:Int} {rows:List (List Int)} {sum:Int} (h:RSk w g v vs vt t seed rows sum) (k:w.grownBy w' none):RSk w' g v vs vt t seed rows sum:=h.keptS (GrownS.none_ (S:=fun _=>False) k) fun _ _=>id
theorem cj_:Elt 24 22 (.int .u64 0) 1 8:=⟨underlying24,by kernel_rfl,rfl,by decide⟩
theorem b1_:OneF wordF:=by intro x u hu;simp[wordF] at hu;subst hu;rfl
theorem U1_ (w:World) (n:Nat) (hn:n≤1000000):Own wordF 1 22 w.heap.size (w.alloc (.cells (Ch_ (List.replicate n 0)) 22)) (.slice (some ⟨w.heap.size,0,none⟩) n n) (List.replicate n 0):=by
 have hl :(Ch_ (List.replicate n 0)).size=n:=by simp[Ch_]
 refine⟨by rw[As_ _ 1 Bf_],.inr ⟨w.heap.size,n,_,by rw[List.length_replicate],le_ _,heap_alloc_new w _,by simp,by unfold maxLen;omega,by rw[hl];omega,?_⟩⟩;rw[Jt_]
 simp[Ch_]
theorem Sa_ (k n:Nat):List.replicate (k+1) (List.replicate n (0:Int))=List.replicate k (List.replicate n 0)++[List.replicate n 0]:=List.replicate_succ'
theorem f7_ (d n:Int) (tv:Value) (t:List Int) (seed:Int) (w:World) (hd:1≤d∧d≤4) (hn:1≤n∧n≤256) (ht:RdL wordF 1 w tv t) (htl:t.length=16) :
  Calls prog 155 #[.int .i64 d,.int .i64 n,tv,.int .u64 seed] w (fun e w'=>∃g v vs vt,e=.returned (.tuple #[.pointer (some ⟨g,0,none⟩),.int .i64 0])∧RSk w' g v vs vt t seed (rows0 d.toNat n.toNat) 0∧(∀i,rskF g v vs vt i→w.heap.size≤i)∧w.grownBy w' none):=by
 obtain⟨d1,d2⟩:=hd;obtain⟨n1,n2⟩:=hn;obtain⟨ta,tc,htv⟩:=ht.shape;subst htv;rw[htl] at ht ⊢;have HT:=hh_ ht;have Htl:=hh_ htl
 have HC:=hh_ fun y=>Hd_ ta tc y
 obtain⟨N,hN⟩:∃N:Nat,n=N:=⟨n.toNat,by omega⟩;subst hN;obtain⟨D,hD⟩:∃D:Nat,d=D:=⟨d.toNat,by omega⟩;subst hD;have hmk:=R6_ N (by omega)
 have HOW:=hh_ fun y=>U1_ y N (by omega)
 have hb2:16*8≤140737488355328:=by omega
 have HR:=hh_ (show rows0 (D:Int).toNat (N:Int).toNat=List.replicate D (List.replicate N 0) by simp[rows0]);clear ht htl
 go_enter func155,ntmps155
 have hlit:Own wordF 1 22 w.heap.size (w.alloc (.cells #[] 22)) (.slice (some ⟨w.heap.size,0,none⟩) 0 0) []:=A0_ wordF 1 (le_ _);have hlr:RdL wordF 1 (w.alloc (.cells #[] 22)) (.slice ta 16 tc) t:=HT.out.same (ga_ w _ none)
 have hl1:t.length*8≤140737488355328:=by rw[Htl.out];omega
 have hl2:t.length≤9223372036854775807:=by rw[Htl.out];omega
 have hl3:w.heap.size≤(w.alloc (.cells #[] 22)).heap.size:=by simp
 go_upto_region 7 with(first
  |(go_at_call 147;refine(HC.out _).mono ?_;rintro e w1 ⟨rfl,rfl⟩)
  |(at_builtin;refine A5_ cj_ b1_ hlit hlr Htl.out.symm hl1 hl2 hl3 ?_;intro v2 w2 o2 g2 l2;(obtain⟨va,vc,hv2⟩:=o2.shape);rw[Htl.out] at hv2;subst hv2))
 have G2:=Aa_ (ga_ w _ none) g2
 have hvt:=hh_ fun i (hi:ownF (.slice va 16 vc) i)=>o2.lt i hi
 have B3:=Blk.new w2 #[.slice none 0 0,.slice va 16 vc,.int .u64 seed,.int .u64 0] 211;have o3:=(o2.same (ga_ w2 (.cells #[.slice none 0 0,.slice va 16 vc,.int .u64 seed,.int .u64 0] 211) none)).zero;have G3:=Ad_ G2 (.cells #[.slice none 0 0,.slice va 16 vc,.int .u64 seed,.int .u64 0] 211)
 have hz3:w2.heap.size+1≤(w2.alloc (.cells #[.slice none 0 0,.slice va 16 vc,.int .u64 seed,.int .u64 0] 211)).heap.size:=by simp
 have hwg:=G2.size;clear o2 g2 l2 hlit hlr G2 HC HT;generalize w2.alloc _=w3 at *;generalize w2.heap.size=g at *
 go_upto_region 8 with fail
 go_loopw [12] (fun s12 wk=>∃(k:Nat) (v:Value) (vs:List SlR),k≤D∧s12=.int .i64 k∧Blk wk g #[v,.slice va 16 vc,.int .u64 seed,.int .u64 0]∧ORows wk v vs (List.replicate k (List.replicate N 0))∧(∀i,rowsF v vs i→g<i)∧Own wordF 1 22 0 wk (.slice va 16 vc) t∧w.grownBy wk none∧g<wk.heap.size) (fun s12 _=>D-(RowKit.intOf s12).toNat)
 case atStart=>exact⟨0,_,[],zl_ _,rfl,B3,ORows.nil _,fun i hi=>by rcases hi with hi |⟨u,hu,_⟩;exact absurd hi (Ax_ i);simp at hu,o3,G3,hz3⟩
 case round=>
  obtain⟨k,v,vs,hk,rfl,B,R,hF,hT,hg,hgz⟩:=hrel;clear B3 o3 G3 hz3
  by_cases hkD:k<D
  ·have hkd :(k:Int)<(D:Int):=by omega
   obtain⟨oa,oc,rfl⟩:=R.own.shape
   have hvl:vs.length=k:=by have:=R.len;simpa using this
   have hb1 :(vs.length+[(⟨some ⟨wr.heap.size,0,none⟩,N,N⟩:SlR)].length)*24≤140737488355328:=by simp;omega
   have hb3:vs.length+[(⟨some ⟨wr.heap.size,0,none⟩,N,N⟩:SlR)].length≤9223372036854775807:=by simp;omega
   have HR1:=hh_ R;have O6:=HOW.out wr.drew;obtain⟨A6,hA6⟩:∃A6:Obj,A6=.cells (Ch_ (List.replicate N 0)) 22:=⟨_,rfl⟩;rw[←hA6] at hmk O6;have k5:wr.grownBy wr.drew none:=Al_ (Ab_ wr none);have K6:=ga_ wr.drew A6 none;have K7:=ga_ (wr.drew.alloc A6) (.cells #[.slice (some ⟨wr.heap.size,0,none⟩) N N] 24) none;have K57:=Aa_ (Aa_ k5 K6) K7;have O7:=R.own.same K57
   have hr7:RdL slF 1 ((wr.drew.alloc A6).alloc (.cells #[.slice (some ⟨wr.heap.size,0,none⟩) N N] 24)) (.slice (some ⟨wr.heap.size+1,0,none⟩) 1 1) [⟨some ⟨wr.heap.size,0,none⟩,N,N⟩]:=by
    have:=H8_ (size:=1) Pd_ (wr.drew.alloc A6) ⟨some ⟨wr.heap.size,0,none⟩,N,N⟩ #[.slice (some ⟨wr.heap.size,0,none⟩) N N] 24 rfl
    simpa using this
   have B7:=B.same K57;have hZ6:=O6.same K7;have b6:=(B.same k5).cell;have b61:=((B.same (ga_ wr A6 none)).drew1).cell;have b62:=(((B.same (ga_ wr A6 none)).same (ga_ (wr.alloc A6) (.cells #[.slice (some ⟨wr.heap.size,0,none⟩) N N] 24) none)).drew1).cell;have HK57:=hh_ K57;clear hvl O6 K6 K7 hA6
   go_upto_region 9 with fail
   go_region_law ((first
    |(refine Hm_ (l:=vs) Q5_ cc_ O7 hr7 rfl hb1 hb3 (zl_ _) (by rfl) _ _ (by rfl) (by rfl) (by rfl) ?_;intro v8 w8 o8 g8 l8;have B8:=B7.kept g8 (fun e=>by have:=hF g (.inl e);omega);have b8:=B8.cell;have f8:=B8.free;(obtain⟨va8,vc8,hv8⟩:=o8.shape);rw[la_,ls_] at hv8;subst hv8)))
   all_goals
    have Gw:wr.grownBy w8 (Value.slice oa vs.length oc).ownBlock:=Aa_ (Fs_ HK57.out) g8
    have hz7:wr.heap.size+2≤((wr.drew.alloc A6).alloc (.cells #[.slice (some ⟨wr.heap.size,0,none⟩) N N] 24)).heap.size:=by rw[World.size_alloc,World.size_alloc];exact le_ _
    have hq6:∀q,(Value.slice (some ⟨wr.heap.size,0,none⟩) N N).ownBlock=some q→q=wr.heap.size:=fun q hq=>by simpa [Value.ownBlock] using hq.symm
    have hvlo:=fun q hq=>(HR1.out.own.lt q hq).2
    have hx8:=(hZ6.base (B':=wr.heap.size) (fun q hq=>Nat.le_of_eq (hq6 q hq).symm)).kept g8 (fun q hq e=>by have h1:=hvlo q e;have h2:=hq6 q hq;omega)
    have hl8:Lies (.slice oa vs.length oc) (.slice va8 (vs.length+1) vc8) wr.heap.size:=l8.imp id fun⟨q,h1,h2⟩=>⟨q,h1,lt_ (show wr.heap.size≤((wr.drew.alloc A6).alloc (.cells #[.slice (some ⟨wr.heap.size,0,none⟩) N N] 24)).heap.size by omega) h2⟩
    have hne8:Off (ownF (SlR.v ⟨some ⟨wr.heap.size,0,none⟩,N,N⟩)) (ownF (.slice va8 (vs.length+1) vc8)):=fun q hq hq'=>by
     have hq2:q=wr.heap.size:=by simpa [ownF,SlR.v,Value.ownBlock] using hq.symm
     rcases l8 with l8 |⟨y,h1,h2⟩
     ·have:=hvlo q (l8.symm.trans hq');omega
     ·rw[show Value.ownBlock _=some q from hq'] at h1
      cases h1;omega
    have R8:=HR1.out.snoc Gw o8 hl8 (x:=⟨some ⟨wr.heap.size,0,none⟩,N,N⟩) hx8 hne8;have T8:=(hT.same HK57.out).kept g8 (fun q hq e=>by have h1:=(hvt.out q hq).2;have h2:=hF q (.inl e);omega)
    have hF8:∀i,rowsF (.slice va8 (vs.length+1) vc8) (vs++[⟨some ⟨wr.heap.size,0,none⟩,N,N⟩]) i→g<i:=fun i hi=>by
     rcases hi with hi |⟨u,hu,hi⟩
     ·rcases lies_new hl8 i hi with h1|h1
      ·exact hF i (.inl h1)
      ·omega
     ·rcases ma_ hu with hu|hu
      ·exact hF i (.inr ⟨u,hu,hi⟩)
      ·rw[ms_ hu] at hi
       have hq2:i=wr.heap.size:=by simpa [ownF,SlR.v,Value.ownBlock] using hi.symm
       omega
    have hg9:w8.grownBy (w8.setCell ⟨g,0,none⟩ (.slice va8 (vs.length+1) vc8)) (some g):=Ac_ (Ab_ _ _) _ _;have B9:=B8.set_ 0 (.slice va8 (vs.length+1) vc8) (cs':=#[.slice va8 (vs.length+1) vc8,.slice va 16 vc,.int .u64 seed,.int .u64 0]) rfl
    have R9:=R8.keptS (GrownS.of (S:=oneF g) hg9 fun q e=>by cases e;exact rfl) fun i hi hig=>by have:=hF8 i hi;have:i=g:=hig;omega
    have T9:=T8.kept hg9 (fun q hq e=>by cases e;have:=(hvt.out g hq).2;omega)
    have hgw:w.grownBy w8 none:=by
     cases hv :(Value.slice oa vs.length oc).ownBlock with
     | none=>rw[hv] at Gw;exact Aa_ hg Gw
     | some q=>rw[hv] at Gw;exact Af_ hg Gw (by have:=hF q (.inl hv);omega)
    have hsz8:=Gw.size;have hF9:=hh_ (And.intro B9 (And.intro R9 (And.intro T9 (And.intro hF8 (And.intro (Af_ hgw hg9 (by omega)) (show g<(w8.setCell ⟨g,0,none⟩ (.slice va8 (vs.length+1) vc8)).heap.size from ll_ (by omega) hg9.size))))));clear B9 R9 T9 hF8 hgw hg9 R8 T8 hne8 hx8 hl8 Gw hr7 O7 B7 B8 b8 f8 b6 b61 b62 hZ6;generalize w8.setCell ⟨g,0,none⟩ (.slice va8 (vs.length+1) vc8)=w9 at *;have HRK:=hh_ (Sa_ k N)
    go_wp2_with fail
    exact⟨⟨k+1,_,_,by omega,by go_num,hF9.out.1,by rw[HRK.out];exact hF9.out.2.1,hF9.out.2.2.2.1,hF9.out.2.2.1,hF9.out.2.2.2.2.1,hF9.out.2.2.2.2.2⟩,by simp[RowKit.intOf];omega⟩
  ·obtain rfl:k=D:=by omega
   go_wp2_with fail
   go_ret2
   refine⟨g,v,vs,_,rfl,⟨B,by rw[HR.out];exact R,hT,⟨fun h=>by have:=hF g h;omega,fun h=>by have:=(hvt.out g h).2;omega⟩,fun i hi hi'=>by have h1:=(hvt.out i hi).2;have h2:=hF i hi';omega⟩,fun i hi=>?_,hg⟩
   rcases hi with rfl|hi|hi
   ·exact hwg
   ·have:=hF i hi;omega
   ·exact(hvt.out i hi).1
theorem ORows.put {v:Value} {vs:List SlR} {rows:List (List Int)} (h:ORows w v vs rows) {j:Nat} {u:SlR} {row:List Int} (hu:vs[j]?=some u) (hr:rows[j]?=some row) {i:Nat} (hi:i<row.length) (x:Int) :
  ∃gb cap,u.v=.slice (some ⟨gb,0,none⟩) row.length cap∧ORows (w.setCell ⟨gb,i,none⟩ (.int .u64 x)) v vs (rows.set j (row.set i x))∧w.grownBy (w.setCell ⟨gb,i,none⟩ (.int .u64 x)) (some gb)∧ownF u.v gb:=by
 have ho:=h.all j u row hu hr;obtain⟨gb,cap,hv,_,_,_,_,_⟩:=ho.at_ Bf_ hi;rw[hv] at ho;obtain⟨o1,g1⟩:=ho.stored Bf_ hi (j:=0) (by omega) (.int .u64 x) x rfl;rw[Nat.mul_one,Nat.add_zero] at o1 g1
 have hub:ownF u.v gb:=by rw[hv];rfl
 have hS:GrownS (oneF gb) w (w.setCell ⟨gb,i,none⟩ (.int .u64 x)):=GrownS.of g1 fun q e=>by cases e;exact rfl
 refine⟨gb,cap,hv,⟨h.own.offS hS fun q hq e=>?_,by simp[h.len],fun i' u' r hu' hr'=>?_,h.ne,h.apart⟩,g1,hub⟩
 ·have:q=gb:=e
  subst this;exact h.ne u (mo_ hu) q hub hq
 ·by_cases hij:j=i'
  ·subst hij
   rw[hu] at hu';cases hu';rw[List.getElem?_set_self (gs_ hr).1] at hr';cases hr';rw[hv];exact o1
  ·rw[List.getElem?_set_ne hij] at hr'
   refine(h.all i' u' r hu' hr').offS hS fun q hq e=>?_
   have:q=gb:=e
   subst this;exact h.apart j i' u u' hu hu' hij q hub hq
def addTo (t:List Int) (s:Int) (k:ByteArray) (n:Int) (rows:List (List Int)) (j:Nat):List (List Int):=rows.mapIdx fun i row=>if i<j then putRow row (slotR t s k i row) n else row
theorem S2_ (t:List Int) (s:Int) (k:ByteArray) (n:Int) (rows:List (List Int)):addTo t s k n rows 0=rows:=by
 unfold addTo
 refine List.ext_getElem? fun i=>?_
 rw[List.getElem?_mapIdx];cases rows[i]? <;> simp
theorem Vx_ (t:List Int) (s:Int) (k:ByteArray) (n:Int) (rows:List (List Int)):addTo t s k n rows rows.length=Bk_ t s k n rows:=by
 unfold addTo Bk_
 refine List.ext_getElem? fun i=>?_
 rw[List.getElem?_mapIdx,List.getElem?_mapIdx]
 cases hi:rows[i]? with
 | none=>rfl
 | some r=>
  have:=(gs_ hi).1
  simp[this]
theorem Zo_ {s:Int} {n:Int} {rows:List (List Int)} {j:Nat} {row:List Int} (h:rows[j]?=some row) :(addTo t s k n rows j)[j]?=some row:=by
 unfold addTo;rw[List.getElem?_mapIdx,h];simp
theorem Sh_ {s:Int} {n:Int} {rows:List (List Int)} {j:Nat} {row:List Int} (h:rows[j]?=some row):addTo t s k n rows (j+1) =(addTo t s k n rows j).set j (putRow row (slotR t s k j row) n):=by
 have hl:=(gs_ h).1
 refine List.ext_getElem? fun i=>?_
 by_cases hij:j=i
 ·subst hij
  rw[List.getElem?_set_self (by unfold addTo;simpa using hl)];unfold addTo;rw[List.getElem?_mapIdx,h];simp
 ·rw[List.getElem?_set_ne hij]
  unfold addTo;rw[List.getElem?_mapIdx,List.getElem?_mapIdx]
  cases rows[i]? with
  | none=>rfl
  | some r=>
   simp only[Option.map_some,Option.some.injEq]
   by_cases h1:i<j
   ·rw[if_pos h1,if_pos (by omega)]
   ·rw[if_neg h1,if_neg (by omega)]
theorem ej_ (g:Nat) (v:Value) (vs:List SlR) (vt:Value) (t:List Int) (seed:Int) (rows:List (List Int)) (sum:Int) (k:ByteArray) (w:World) (h:RSk w g v vs vt t seed rows sum) (ho:RowsOk rows) (hn:0<rows.length) (hn2:rows.length≤1000) (htl:t.length=16) (hs:W64 seed) (hk:k.size≤9223372036854775807) :
  Calls prog 180 #[.pointer (some ⟨g,0,none⟩),.string k] w (RetWord (estF t seed k rows) w):=by
 have HE:=hh_ fun y (q:w.grownBy y none)=>cm_ v (vs.map SlR.v) rows vt t seed k y (h.same q).rows.rd ho hn hn2 (h.same q).tab.rd htl hs hk
 have HB:=hh_ fun y (q:w.grownBy y none)=>(h.same q).blk.cell
 have b0:=h.blk.cell;obtain⟨a,c,hv⟩:=h.rows.own.shape;obtain⟨ta,tc,hv2⟩:=h.tab.shape;rw[htl] at hv2;subst hv hv2;clear h ho hs
 go_enter func180,ntmps180
 go_upto_region 1 with fail
 have k4:w.grownBy w.drew none:=Al_ (Ab_ w none)
 (refine rn_ 15 (fun i _ w v w'=>match i with | 13=>v=.int .u64 (estF t seed k rows)∧World.grownBy w w' none | _=>False) ?_;simp only[ts_])
 generalize w.drew=wq at *
 (refine tq_ 3 ?_;(repeat(go_big_quiet_step (fail)));refine wn_ ?_)
 (refine to_ ?_;intro y3 my3 dy3)
 clear dy3;have ax:=HB.out y3 (Aa_ k4 my3)
 go_wp2_with fail
 refine⟨Ab_ _ _,?_⟩;clear ax my3
 (refine tq_ 3 ?_;(repeat(go_big_quiet_step (fail)));refine wn_ ?_)
 (refine to_ ?_;intro y7 my7 dy7)
 clear dy7;have ax:=HB.out y7 (Aa_ k4 my7)
 go_wp2_with fail
 refine⟨Ab_ _ _,?_⟩;clear ax my7
 (refine tq_ 3 ?_;(repeat(go_big_quiet_step (fail)));refine wn_ ?_)
 (refine to_ ?_;intro y11 my11 dy11)
 clear dy11;have ax:=HB.out y11 (Aa_ k4 my11)
 go_wp2_with fail
 refine⟨Ab_ _ _,?_⟩;clear ax my11
 (refine tq_ 1 ?_;(repeat(go_big_quiet_step (fail)));refine wn_ ?_)
 (refine tc_ ?_;intro y13 my13 dy13;refine⟨?_,?_⟩;· (unfold Rg.callSpec;go_simp;(refine(HE.out y13 (Aa_ k4 my13)).mono ?_;rintro e w' ⟨rfl,g'⟩;exact⟨_,rfl,rfl,g'⟩)))
 clear dy13;rintro v6 e6 ⟨rfl,g6⟩;refine⟨g6,?_⟩;simp only[pt_];clear g6 my13
 (refine tq_ 1 ?_;(repeat(go_big_quiet_step (fail)));refine wn_ ?_)
 (refine Rg.tree_nil ?_;intro z mz dz cz)
 go_wp2_with fail
 go_ret
 exact Cl_ rfl (Aa_ k4 mz)
theorem gb_ {a b:Int} (h1:0≤a∧a≤18446744073709551615) (h2:0≤b∧b≤18446744073709551615):0≤max a b∧max a b≤18446744073709551615:=by omega
theorem Tc_ (g:Nat) (v:Value) (vs:List SlR) (vt:Value) (t:List Int) (seed d n:Int) (rows:List (List Int)) (sum:Int) (k:ByteArray) (x:Int) (w:World) (h:RSk w g v vs vt t seed rows sum) (hG:Grid d n sum rows) (hd:1≤d∧d≤4) (hn:1≤n∧n≤256) (htl:t.length=16) (hs:W64 seed) (hk:0<k.size∧k.size≤255) (hx:1≤x) (h0:0≤sum) (hsx:sum+x≤mostW) :
  Calls prog 156 #[.pointer (some ⟨g,0,none⟩),.string k,.int .u64 x] w (fun e w'=>e=.returned (.int .i64 0)∧RSk w' g v vs vt t seed (Bk_ t seed k (estF t seed k rows+x) rows) (sum+x)∧GrownS (rskF g v vs vt) w w'):=by
 have H:=hh_ h;have hmw:mostW=9223372036854775808:=rfl;have hok:=hG.rowsOk hn (show sum≤mostW by omega);have hdl:=hG.depth;have hest:=K3_ (t:=t) (s:=seed) (k:=k) hG h0 hd.1
 have HE:=hh_ fun y (q:RSk y g v vs vt t seed rows (sum+x))=>ej_ g v vs vt t seed rows (sum+x) k y q hok (by omega) (by omega) htl hs (by omega)
 have HF:=hh_ fun y=>Dz_ sum x y ⟨by omega,by omega⟩ ⟨by omega,by omega⟩
 rw[show fitsB sum x=true from dt_ (by omega)] at HF;have hk2:=Bm_ k;rw[df_ (show ¬k.size=0 by omega)] at hk2;have h02 :(x==0)=false:=bf_ (by omega);have hwr:IntKind.u64.wrap (sum+x)=sum+x:=IntWalk.u64_in _ (by omega);have HG:=hh_ hG;have HA:=hh_ (Vx_ t seed k (estF t seed k rows+x) rows)
 have HS1:=hh_ fun j row (hr:rows[j]?=some row)=>Sh_ (t:=t) (s:=seed) (k:=k) (n:=estF t seed k rows+x) hr
 have HS2:=hh_ fun j row (hr:rows[j]?=some row)=>Zo_ (t:=t) (s:=seed) (k:=k) (n:=estF t seed k rows+x) hr
 have HS0:=hh_ (S2_ t seed k (estF t seed k rows+x) rows);have HSl:=hh_ (No_ hG hn.1 t seed k);have hvl:vs.length=rows.length:=h.rows.len;have b0:=h.blk.cell;have f0:=h.blk.free;obtain⟨a,c,hv⟩:=h.rows.own.shape;obtain⟨ta,tc,hv2⟩:=h.tab.shape;rw[htl] at hv2;subst hv hv2;have hwr2:IntKind.u64.wrap (estF t seed k rows+x)=estF t seed k rows+x:=IntWalk.u64_in _ (by omega)
 have hb2:0≤estF t seed k rows+x∧estF t seed k rows+x≤18446744073709551615:=by omega
 generalize estF t seed k rows=E at *;clear h hok
 go_enter func156,ntmps156
 go_upto_region 8 with(go_at_call 118;refine(HF.out _).mono ?_;rintro e w1 ⟨rfl,rfl⟩)
 have g1:w.grownBy (w.setCell ⟨g,3,none⟩ (.int .u64 (sum+x))) (some g):=Ac_ (Ab_ _ _) _ _
 have S1:GrownS (oneF g) w (w.setCell ⟨g,3,none⟩ (.int .u64 (sum+x))):=GrownS.of g1 fun q e=>by cases e;exact rfl
 have B1:=H.out.blk.set_ 3 (.int .u64 (sum+x)) (cs':=#[.slice a vs.length c,.slice ta 16 tc,.int .u64 seed,.int .u64 (sum+x)]) rfl
 have R1:=H.out.rows.keptS S1 fun i hi e=>by
  have:i=g:=e
  subst this;exact H.out.ne.1 hi
 have T1:=H.out.tab.offS S1 fun i hi e=>by
  have:i=g:=e
  subst this;exact H.out.ne.2 hi
 have K1:RSk (w.setCell ⟨g,3,none⟩ (.int .u64 (sum+x))) g (.slice a vs.length c) vs (.slice ta 16 tc) t seed rows (sum+x):=⟨B1,R1,T1,H.out.ne,H.out.off⟩;have HM1:=hh_ (S1.mono (T:=rskF g (.slice a vs.length c) vs (.slice ta 16 tc)) fun i hi _=>.inl hi);clear b0 f0 hwr HF g1 S1 B1 R1 T1;generalize w.setCell ⟨g,3,none⟩ (.int .u64 (sum+x))=w1 at *;have HK1:=hh_ K1;clear K1
 go_upto_region 9 with(go_at_call 180;refine(HE.out _ HK1.out).mono ?_;rintro e w2 ⟨rfl,g2⟩)
 have HK2:=hh_ (HK1.out.same g2);have HM2:=hh_ (HM1.out.trans (GrownS.none_ (S:=fun _=>False) g2) fun i hi _=>hi.elim);have b2:=HK2.out.blk.cell;clear HK1 HM1 g2 H HE
 go_upto_region 10 with fail
 clear b2
 go_loopw [40] (fun s40 wk=>∃j:Nat,j≤rows.length∧s40=.int .i64 j∧RSk wk g (.slice a vs.length c) vs (.slice ta 16 tc) t seed (addTo t seed k (E+x) rows j) (sum+x)∧GrownS (rskF g (.slice a vs.length c) vs (.slice ta 16 tc)) w2 wk) (fun s40 _=>rows.length-(RowKit.intOf s40).toNat)
 case atStart=>exact⟨0,zl_ _,rfl,by rw[HS0.out];exact HK2.out,GrownS.refl _ _⟩
 case round=>
  obtain⟨j,hj,rfl,hK,hM⟩:=hrel
  by_cases hjl:j<rows.length
  ·have hr:=gq_ hjl
   have h1:=HS1.out j _ hr;have h2:=HS2.out j _ hr;have h3:=HSl.out j _ hr;have hw:=HG.out.width _ (mg_ hjl);have hnum:=HG.out.num _ (mg_ hjl);have hslot:=hh_ (show slotR t seed k j rows[j] =(slotF (hashF t (seedF seed j) k) rows[j].length).toNat from rfl)
   have hjv:j<vs.length:=by omega
   have hu:=gq_ hjv;obtain⟨gb,cap,hv,_⟩:=hK.rows.put hu h2 h3 0
   have HPUT:=hh_ fun y (R:RSk y g (.slice a vs.length c) vs (.slice ta 16 tc) t seed (addTo t seed k (E+x) rows j) (sum+x))=>R.rows.put hu h2 h3 (max (rows[j].getD (slotR t seed k j rows[j]) 0) (E+x))
   have hca:=(hK.rows.all j _ _ hu h2).rd.one Cs_ h3;obtain⟨gv,offv,capv,hvv,hgv,cv⟩:=hK.rows.own.rd.one gp_ hjv;cases hvv;obtain⟨gw,offw,capw,hww,hgw,cw⟩:=hca
   have hwl:0<rows[j].length:=by omega
   have hwl2:rows[j].length≤256:=by omega
   have hgd:rows[j].getD (slotR t seed k j rows[j]) 0=rows[j][slotR t seed k j rows[j]]:=by rw[List.getD_eq_getElem?_getD,gq_ h3];rfl
   have hmem:=hnum _ (mg_ h3);rw[←hgd] at cw hmem;have hmb:=gb_ (a:=rows[j].getD (slotR t seed k j rows[j]) 0) (b:=E+x) ⟨by omega,by omega⟩ hb2;have Hput:=hh_ (show putRow rows[j] (slotR t seed k j rows[j]) (E+x)=rows[j].set (slotR t seed k j rows[j]) (max (rows[j].getD (slotR t seed k j rows[j]) 0) (E+x)) from rfl);have hhash:=Ls_ t (seedF seed j) k
   have HRow:=hh_ fun y (R:RSk y g (.slice (some ⟨gv,offv,none⟩) vs.length c) vs (.slice ta 16 tc) t seed (addTo t seed k (E+x) rows j) (sum+x))=>ce_ (.slice ta 16 tc) t seed j k y R.tab.rd htl hs (by omega) (by omega) (by omega)
   have HSlo:=hh_ fun y=>Ol_ (hashF t (seedF seed j) k) rows[j].length y hhash (by omega) (by omega)
   have hslotb:=G9_ (hashF t (seedF seed j) k) rows[j].length (by omega);have hsl:=hslot.out;generalize rows[j].getD (slotR t seed k j rows[j]) 0=cj at *;generalize slotR t seed k j rows[j]=sj at *;generalize rows[j]=rj at *;generalize hashF t (seedF seed j) k=hh at *
   have hsj:slotF hh rj.length =(sj:Int):=by omega
   rw[hsj] at HSlo hslotb;generalize vs[j]=u at *;rw[hww] at hv cv;obtain⟨e1,_,e2⟩:=Value.slice.inj hv;cases e1;subst e2;simp only[Nat.zero_add] at cw;have HK:=hh_ hK;have HU:=hh_ (show ownF u.v gb by rw[hww];rfl);have HV:=hh_ hww;have HUm:=hh_ (mo_ hu);have HM:=hh_ hM;have H1:=hh_ h1;have b3:=hK.blk.cell;have f3:=(hK.rows.all j _ _ hu h2);rw[hww] at f3;obtain⟨_,_,e3,_,_,_,_,hfz⟩:=f3.at_ Bf_ h3;cases e3;have hfz1:=hh_ (hfz sj)
   have hjr :(j:Int)<(rows.length:Int):=by omega
   have hjr0 :(0:Int)≤(j:Int):=by omega
   clear hK hM h1 h2 hr hu hw hnum hgd hslot hsl hhash hmem hsj hfz
   go_upto_region 12 with fail
   have k4:wr.grownBy wr.drew none:=Al_ (Ab_ wr none)
   (refine rn_ 15 (fun i _ w v w'=>match i with | 10=>v=.int .u64 hh∧World.grownBy w w' none | 13=>v=.int .i64 sj∧World.grownBy w w' none | _=>False) ?_;simp only[ts_])
   have HK4:=hh_ (HK.out.same k4);generalize wr.drew=wq at *
   (refine tq_ 3 ?_;(repeat(go_big_quiet_step (fail)));refine wn_ ?_)
   (refine to_ ?_;intro y3 my3 dy3)
   clear dy3;have ax:=(HK4.out.same my3).blk.cell
   go_wp2_with fail
   refine⟨Ab_ _ _,?_⟩;clear ax my3
   (refine tq_ 3 ?_;(repeat(go_big_quiet_step (fail)));refine wn_ ?_)
   (refine to_ ?_;intro y7 my7 dy7)
   clear dy7;have ax:=(HK4.out.same my7).blk.cell
   go_wp2_with fail
   refine⟨Ab_ _ _,?_⟩;clear ax my7
   (refine tq_ 2 ?_;(repeat(go_big_quiet_step (fail)));refine wn_ ?_)
   (refine tc_ ?_;intro y10 my10 dy10;refine⟨?_,?_⟩;· (unfold Rg.callSpec;go_simp;(refine(HRow.out y10 (HK4.out.same my10)).mono ?_;rintro e w' ⟨rfl,g'⟩;exact⟨_,rfl,rfl,g'⟩)))
   clear dy10;rintro v6 e6 ⟨rfl,g6⟩;refine⟨g6,?_⟩;simp only[pt_];clear g6 my10
   (refine tq_ 2 ?_;(repeat(go_big_quiet_step (fail)));refine wn_ ?_)
   (refine tc_ ?_;intro y13 my13 dy13;refine⟨?_,?_⟩;· (unfold Rg.callSpec;go_simp;(refine(HSlo.out y13).mono ?_;rintro e w' ⟨rfl,rfl⟩;exact⟨_,rfl,rfl,Ab_ _ _⟩)))
   clear dy13;rintro v7 e7 ⟨rfl,g7⟩;refine⟨g7,?_⟩;simp only[pt_];clear g7 my13
   (refine tq_ 1 ?_;(repeat(go_big_quiet_step (fail)));refine wn_ ?_)
   (refine Rg.tree_nil ?_;intro z mz dz cz)
   have K5:=HK4.out.same mz;have hblk:=(Aa_ k4 mz).block gb hgw (by simp);have cz1:z.cell? ⟨gb,sj,none⟩=some (.int .u64 cj):=(World.cell?_of_block (a:=⟨gb,sj,none⟩) hblk).trans cw;have fz1:z.frozen? ⟨gb,sj,none⟩=false:=(World.frozen?_of_block (a:=⟨gb,sj,none⟩) hblk).trans hfz1.out;obtain⟨gb',cap',hv',R6,g6,hu6⟩:=HPUT.out z K5;rw[HV.out] at hv';cases hv'
   have hsj0 :(0:Int)≤(sj:Int):=by omega
   have hsj1 :(sj:Int)<(rj.length:Int):=by omega
   go_wp2_with fail
   have hS6:GrownS (oneF gb) z (z.setCell ⟨gb,sj,none⟩ (.int .u64 (max cj (E+x)))):=GrownS.of g6 fun q e=>by cases e;exact rfl
   have hgbF:rowsF (.slice (some ⟨gv,offv,none⟩) vs.length c) vs gb:=.inr ⟨u,HUm.out,HU.out⟩
   have hgne:g≠gb:=fun e=>by rw[e] at K5;exact K5.ne.1 hgbF
   refine⟨⟨j+1,by omega,by go_num,?_,?_⟩,by simp[RowKit.intOf];omega⟩
   ·rw[H1.out,Hput.out]
    exact⟨K5.blk.kept g6 (by simp;omega),R6,K5.tab.offS hS6 fun i hi e=>by rw[show i=gb from e] at hi;exact K5.off gb hi hgbF,K5.ne,K5.off⟩
   ·exact(HM.out.trans (GrownS.none_ (S:=fun _=>False) (Aa_ k4 mz)) fun i hi _=>hi.elim).trans hS6 fun i hi _=>.inr (.inl (by rw[show i=gb from hi];exact hgbF))
  ·obtain rfl:j=rows.length:=by omega
   rw[HA.out] at hK
   go_wp2_with fail
   go_ret
   exact⟨rfl,hK,HM2.out.trans hM fun i hi _=>hi⟩
end
section
open Go.RowKit Go.Sort
attribute [local go_sem ↓] Ag_
attribute [local go_sem] Ah_
structure RtG where
 (g gT:Nat) (vT:Value) (gS:Nat) (vS:Value) (gK:Nat) (vr:Value) (vs:List SlR) (vt:Value)
abbrev Wx_ (c:Cfg) (gT gS gK:Nat):Array Value:=#[.int .i64 c.Length,.int .i64 c.Lateness,.int .i64 c.Windows,.int .i64 c.Shards,.int .i64 c.Spread,.int .i64 c.Queue,.int .i64 c.Mode,.int .i64 c.Slots,.int .i64 c.Exact,.int .u64 c.Promote,.int .i64 c.Depth,.int .i64 c.Width,.int .i64 c.Top,.int .i64 c.Key,c.Classes,c.Table,.int .u64 c.Seed,.pointer (some ⟨gT,0,none⟩),.pointer (some ⟨gS,0,none⟩),.pointer (some ⟨gK,0,none⟩)]
def RtG.F (G:RtG):Fp:=fun i=>i=G.g∨rtF G.gT G.vT i∨rtF G.gS G.vS i∨rskF G.gK G.vr G.vs G.vt i
structure RTier (w:World) (G:RtG) (c:Cfg) (t:List Int) (X:Ao_):Prop where
 blk:Blk w G.g (Wx_ c G.gT G.gS G.gK)
 tab:RTab w G.gT G.vT X.T
 sto:RSto w G.gS G.vS c.Exact X.S
 sk:RSk w G.gK G.vr G.vs G.vt t c.Seed X.rows X.sum
 g1:¬rtF G.gT G.vT G.g
 g2:¬rtF G.gS G.vS G.g
 g3:¬rskF G.gK G.vr G.vs G.vt G.g
 o1:Off (rtF G.gT G.vT) (rtF G.gS G.vS)
 o2:Off (rtF G.gT G.vT) (rskF G.gK G.vr G.vs G.vt)
 o3:Off (rtF G.gS G.vS) (rskF G.gK G.vr G.vs G.vt)
theorem RTier.low {G:RtG} {c:Cfg} {X:Ao_} (h:RTier w G c t X):Low w G.F:=fun i hi=>by
 rcases hi with rfl|hi|hi|hi
 ·exact h.blk.lt
 ·exact h.tab.low i hi
 ·exact h.sto.low i hi
 ·exact h.sk.low i hi
theorem RTier.keptS {G:RtG} {c:Cfg} {X:Ao_} {S:Fp} (h:RTier w G c t X) (k:GrownS S w w') (ho:Off G.F S):RTier w' G c t X:=
 ⟨h.blk.keptS k (ho G.g (.inl rfl)),h.tab.keptS k (ho.left fun i hi=>.inr (.inl hi)),h.sto.keptS k (ho.left fun i hi=>.inr (.inr (.inl hi))),h.sk.keptS k (ho.left fun i hi=>.inr (.inr (.inr hi))),h.g1,h.g2,h.g3,h.o1,h.o2,h.o3⟩
theorem RTier.same {G:RtG} {c:Cfg} {X:Ao_} (h:RTier w G c t X) (k:w.grownBy w' none):RTier w' G c t X:=h.keptS (GrownS.none_ (S:=fun _=>False) k) fun _ _=>id
theorem RTier.setTab {G:RtG} {c:Cfg} {X:Ao_} (h:RTier w G c t X) {v':Value} {T':TabM} (hT:RTab w' G.gT v' T') (m:Mov (rtF G.gT G.vT) (rtF G.gT v') w w'):RTier w' { G with vT:=v' } c t { X with T:=T' }∧Mov G.F { G with vT:=v' }.F w w':=by
 have hg:GrownS (rtF G.gT G.vT) w w':=m.grown;refine⟨⟨h.blk.keptS hg h.g1,hT,h.sto.keptS hg h.o1.symm,h.sk.keptS hg h.o2.symm,?_,h.g2,h.g3,?_,?_,h.o3⟩,m.wide (fun i hi=>.inr (.inl hi)) fun i hi=>?_⟩
 ·exact fun hi=>(m.off (G:=fun i=>i=G.g) (fun i e=>by rw[e];exact h.blk.lt) (fun i e hi=>h.g1 (by rw[←show i=G.g from e];exact hi))) G.g rfl hi
 ·exact(m.off h.sto.low h.o1.symm).symm
 ·exact(m.off h.sk.low h.o2.symm).symm
 ·rcases hi with hi|hi|hi
  ·exact .inl (.inl hi)
  ·exact .inr hi
  ·exact .inl (.inr (.inr hi))
theorem RTier.setSto {G:RtG} {c:Cfg} {X:Ao_} (h:RTier w G c t X) {v':Value} {S':List Ent} (hT:RSto w' G.gS v' c.Exact S') (m:Mov (rtF G.gS G.vS) (rtF G.gS v') w w'):RTier w' { G with vS:=v' } c t { X with S:=S' }∧Mov G.F { G with vS:=v' }.F w w':=by
 have hg:GrownS (rtF G.gS G.vS) w w':=m.grown;refine⟨⟨h.blk.keptS hg h.g2,h.tab.keptS hg h.o1,hT,h.sk.keptS hg h.o3.symm,h.g1,?_,h.g3,?_,h.o2,?_⟩,m.wide (fun i hi=>.inr (.inr (.inl hi))) fun i hi=>?_⟩
 ·exact fun hi=>(m.off (G:=fun i=>i=G.g) (fun i e=>by rw[e];exact h.blk.lt) (fun i e hi=>h.g2 (by rw[←show i=G.g from e];exact hi))) G.g rfl hi
 ·exact m.off h.tab.low h.o1
 ·exact(m.off h.sk.low h.o3.symm).symm
 ·rcases hi with hi|hi|hi|hi
  ·exact .inl (.inl hi)
  ·exact .inl (.inr (.inl hi))
  ·exact .inr hi
  ·exact .inl (.inr (.inr (.inr hi)))
theorem RTier.setSk {G:RtG} {c:Cfg} {X:Ao_} (h:RTier w G c t X) {rows':List (List Int)} {sum':Int} (hT:RSk w' G.gK G.vr G.vs G.vt t c.Seed rows' sum') (m:GrownS (rskF G.gK G.vr G.vs G.vt) w w'):RTier w' G c t { X with rows:=rows',sum:=sum' }∧Mov G.F G.F w w':=
 ⟨⟨h.blk.keptS m h.g3,h.tab.keptS m h.o2,h.sto.keptS m h.o3,hT,h.g1,h.g2,h.g3,h.o1,h.o2,h.o3⟩,⟨m.mono fun i hi _=>.inr (.inr (.inr hi)),fun i hi=>.inl hi⟩⟩
structure Bl_ (c:Cfg):Prop where
 mode:c.Mode=1∨c.Mode=2
 slots:1≤c.Slots∧c.Slots≤64
 exact:0≤c.Exact∧c.Exact≤32
 promote:0≤c.Promote∧c.Promote<18446744073709551616
 depth:1≤c.Depth∧c.Depth≤4
 width:1≤c.Width∧c.Width≤256
 seed:0≤c.Seed∧c.Seed<18446744073709551616
theorem CfgNums.tier {c:Cfg} (h:CfgNums c):Bl_ c:=⟨h.mode,h.slots,h.exact,h.promote,h.depth,h.width,h.seed⟩
theorem Bl_.cfg {c:Cfg} (h:Bl_ c):A7_ c:=⟨h.mode,h.slots,h.exact.1,h.depth.1,h.width⟩
theorem Sk_ (c:Cfg) (t:List Int) (w:World) (hn:Bl_ c) (ht:RdL wordF 1 w c.Table t) (htl:t.length=16) :
  Calls prog 122 #[c.val] w (fun e w'=>∃G,e=.returned (.tuple #[.pointer (some ⟨G.g,0,none⟩),.int .i64 0])∧RTier w' G c t (tier0 c)∧(∀i,G.F i→w.heap.size≤i)∧w.grownBy w' none):=by
 have HT:=hh_ fun y (q:w.grownBy y none)=>f7_ c.Depth c.Width c.Table t c.Seed y hn.depth hn.width (RdL.same ht q) htl
 have HN:=hh_ fun y=>fy_ c.Mode c.Slots y hn.mode hn.slots
 have HS:=hh_ fun y=>el_ c.Exact y hn.exact
 obtain⟨ta,tc,htv⟩:=ht.shape;rw[htl] at htv;clear hn ht
 go_enter func122,ntmps122
 go_upto_region 1 with(refine At_ rfl _ rfl c rfl ?_;intro w1 B1 G1 z1)
 have b1:=B1.cell;simp only[Cfg.arr] at b1
 go_upto_region 4 with(go_at_call 153;refine(HN.out _).mono ?_;rintro e w2 ⟨gT,rfl,R2,hz2,g2⟩)
 have G2:=Aa_ G1 g2;have B2:=B1.same g2
 have hT0:∀i,rtF gT (.slice none 0 0) i→w.heap.size≤i:=fun i hi=>by
  rcases hi with rfl|hi
  ·exact lt_ G1.size hz2
  ·exact absurd hi (Ax_ i)
 have HR2:=hh_ R2;have b2:=B2.cell;simp only[Cfg.arr] at b2;clear b1 B1 g2 R2
 go_upto_region 7 with(go_at_call 154;refine(HS.out _).mono ?_;rintro e w3 ⟨gS,rfl,R3,hz3,g3⟩)
 have G3:=Aa_ G2 g3;have B3:=B2.same g3;have HR3:=hh_ R3;have HT3:=hh_ (HR2.out.same g3)
 have hS0:∀i,rtF gS (.slice none 0 0) i→w2.heap.size≤i:=fun i hi=>by
  rcases hi with rfl|hi
  ·exact hz3
  ·exact absurd hi (Ax_ i)
 have b3:=B3.cell;simp only[Cfg.arr] at b3;rw[htv] at b3;have HT4:=hh_ (HT.out _ G3);rw[htv] at HT4;have hz23:=g3.size;clear b2 B2 g3 R3
 go_upto_region 10 with(go_at_call 155;refine HT4.out.mono ?_;rintro e w4 ⟨gK,vr,vs,vt,rfl,R4,hK0,g4⟩)
 have G4:=Aa_ G3 g4;have B4:=B3.same g4;have HR4:=hh_ R4;have HS5:=hh_ (HR3.out.same g4);have HT5:=hh_ (HT3.out.same g4);have hlT:=HR2.out.low;have hlS:=HR3.out.low;have hz4:=G2.size;clear b3 B3 g4 R4 HT4 htv
 go_wp2_with (refine An_ rfl _ rfl _ rfl c B4 ?_)
 go_ret2
 have HB:=hh_ (Blk.new w4 (Wx_ c gT gS gK) 216);have g5:=ga_ w4 (.cells (Wx_ c gT gS gK) 216) none;have k4:=G4.size;have k3:=G3.size;have l4:=HR4.out.low;have l3:=HS5.out.low;have l2:=HT5.out.low;refine⟨⟨w4.heap.size,gT,.slice none 0 0,gS,.slice none 0 0,gK,vr,vs,vt⟩,rfl,⟨HB.out,HT5.out.same g5,HS5.out.same g5,HR4.out.same g5,fun h=>Nat.lt_irrefl _ (l2 _ h),fun h=>Nat.lt_irrefl _ (l3 _ h),fun h=>Nat.lt_irrefl _ (l4 _ h),fun i h h'=>by have:=hlT i h;have:=hS0 i h';omega,fun i h h'=>?_,fun i h h'=>?_⟩,fun i hi=>?_,Aa_ G4 g5⟩
 ·have:=hlT i h;have:=hK0 i h';have:=G3.size;omega
 ·have:=hlS i h;have:=hK0 i h';omega
 ·rcases hi with hi|hi|hi|hi
  ·exact lt_ k4 (Nat.le_of_eq (Eq.symm hi))
  ·exact hT0 i hi
  ·have:=hS0 i hi;omega
  ·have:=hK0 i hi;omega
end
section
open Go.RowKit Go.Sort
theorem U5_ (g:Nat) (v:Value) (vs:List SlR) (vt:Value) (t:List Int) (seed:Int) (rows:List (List Int)) (sum:Int) (k:ByteArray) (x:Int) (w:World) (h:RSk w g v vs vt t seed rows sum) (hT:W64 sum) (hx:W64 x) (he:addErr sum k x≠0) :
  Calls prog 156 #[.pointer (some ⟨g,0,none⟩),.string k,.int .u64 x] w (RetInt (addErr sum k x) w):=by
 have HF:=hh_ fun y=>Dz_ sum x y hT hx
 have b0:=h.blk.cell
 have R:∀w' e,e=addErr sum k x→w.grownBy w' none→RetInt (addErr sum k x) w (.returned (.int .i64 e)) w':=fun w' e he' hg=>⟨by rw[he'],hg⟩
 clear h;unfold addErr at R he ⊢
 by_cases hk:k.size=0
 ·rw[if_pos hk] at R ⊢
  have hk2:=Bm_ k;rw[dt_ hk] at hk2
  go_enter func156,ntmps156
  go_wp2_with fail
  go_ret
  exact R _ _ rfl (Ab_ _ _)
 ·rw[if_neg hk] at R he ⊢
  have hk2:=Bm_ k;rw[df_ hk] at hk2
  by_cases h0:x=0
  ·rw[if_pos h0] at R ⊢
   subst h0
   go_enter func156,ntmps156
   go_wp2_with fail
   go_ret
   exact R _ _ rfl (Ab_ _ _)
  ·rw[if_neg h0] at R he ⊢
   have h02 :(x==0)=false:=bf_ h0
   have hm:mostW<sum+x:=Decidable.byContradiction fun h=>he (if_neg h)
   rw[if_pos hm] at R ⊢;have hF:fitsB sum x=false:=df_ (by unfold mostW at hm;omega);rw[hF] at HF
   go_enter func156,ntmps156
   go_wp2_with (go_at_call 118;refine(HF.out _).mono ?_;rintro e w1 ⟨rfl,rfl⟩)
   go_ret
   exact R _ _ rfl (Ab_ _ _)
def RTAdd (G:RtG) (c:Cfg) (t:List Int) (X:Ao_) (k:ByteArray) (x:Int) (w:World) (e:Ending) (w':World):Prop:=
 e=.returned (.int .i64 (X.err k x))∧∃G',RTier w' G' c t (if X.err k x=0 then X.add c t k x else X)∧Mov G.F G'.F w w'∧G'.g=G.g
theorem Vg_ (G:RtG) (c:Cfg) (t:List Int) (X:Ao_) (k:ByteArray) (x:Int) (w:World) (h:RTier w G c t X) (hok:TierOk c X) (hx:W64 x) (he:X.err k x≠0) :
  Calls prog 123 #[.pointer (some ⟨G.g,0,none⟩),.string k,.int .u64 x] w (RTAdd G c t X k x w):=by
 have H:=hh_ h;have hs:=hok.sums;have hb:=hok.tab.base
 have R:∀w' e,e=X.err k x→w.grownBy w' none→RTAdd G c t X k x w (.returned (.int .i64 e)) w':=fun w' e he' hg=>⟨by rw[he'],G,by rw[if_neg he];exact H.out.same hg,Mov.same hg,rfl⟩
 have b0:=h.blk.cell;unfold Ao_.err at R he
 by_cases hk:k.size=0
 ·rw[if_pos hk] at R
  have hk2:=Bm_ k;rw[dt_ hk] at hk2;clear h hok
  go_enter func123,ntmps123
  go_wp2_with fail
  go_ret
  exact R _ _ rfl (Ab_ _ _)
 ·rw[if_neg hk] at R he
  have hk2:=Bm_ k;rw[df_ hk] at hk2
  by_cases hl:255<k.size
  ·rw[if_pos hl] at R
   have hl2 :(255:Int)<(k.size:Int):=by omega
   clear h hok
   go_enter func123,ntmps123
   go_wp2_with fail
   go_ret
   exact R _ _ rfl (Ab_ _ _)
  ·rw[if_neg hl] at R he
   have hl2:¬(255:Int)<(k.size:Int):=by omega
   have hE:addErr X.sum k x=if x=0 then 1 else if mostW<X.sum+x then 12 else 0:=by unfold addErr;rw[if_neg hk]
   rw[←hE] at R he
   have HA:=hh_ fun y (q:w.grownBy y none)=>U5_ G.gK G.vr G.vs G.vt t c.Seed X.rows X.sum k x y (h.same q).sk (Hw_ (by omega) hs.2) hx he
   have he2 :(addErr X.sum k x != 0)=true:=bne_iff_ne.2 he;clear h hok hE;generalize addErr X.sum k x=E at *;obtain⟨g,gT,vT,gS,vS,gK,vr,vs,vt⟩:=G;dsimp only at *
   go_enter func123,ntmps123
   go_wp2_with (go_at_call 156;refine(HA.out _ (Ab_ _ _)).mono ?_;rintro e w1 ⟨rfl,g1⟩)
   go_ret
   exact R _ _ rfl g1
theorem Ao_.err_ok {X:Ao_} {x:Int} (hk:0<k.size∧k.size≤255) (hx:1≤x) (hs:X.sum+x≤mostW):X.err k x=0:=by
 unfold Ao_.err;rw[if_neg (by omega),if_neg (by omega),if_neg (by omega),if_neg (by omega)]
theorem Ao_.add_ex {c:Cfg} {X:Ao_} {x:Int} {en:Ent} (hg:getE X.S k=some en):X.add c t k x={ X with S:=G3_ X.S k x,rows:=Bk_ t c.Seed k (estF t c.Seed k X.rows+x) X.rows,sum:=X.sum+x }:=by
 unfold Ao_.add;rw[hg]
theorem Ao_.add_tab {c:Cfg} {X:Ao_} {x:Int} (hg:getE X.S k=none):X.add c t k x={ X with T:=(promo c.Exact c.Promote (X.T.add k x) X.S k).1,S:=(promo c.Exact c.Promote (X.T.add k x) X.S k).2,rows:=Bk_ t c.Seed k (estF t c.Seed k X.rows+x) X.rows,sum:=X.sum+x }:=by
 unfold Ao_.add;rw[hg]
theorem Zg_ (G:RtG) (c:Cfg) (t:List Int) (X:Ao_) (k:ByteArray) (x:Int) (w:World) (h:RTier w G c t X) (hok:TierOk c X) (hn:Bl_ c) (htl:t.length=16) (hk:0<k.size∧k.size≤255) (hx:1≤x) (hs:X.sum+x≤mostW) (en:Ent) (hg:getE X.S k=some en) :
  Calls prog 123 #[.pointer (some ⟨G.g,0,none⟩),.string k,.int .u64 x] w (RTAdd G c t X k x w):=by
 have hcn:=hok.cnt en (Aw_ hg).1;have hE:=hok.ents;have H:=hh_ h;have hss:=hok.sums;have hbb:=hok.tab.base;have hmw:mostW=9223372036854775808:=rfl;have hgr:=hok.rows
 have HSK:=hh_ fun y (q:RTier y G c t X)=>Tc_ G.gK G.vr G.vs G.vt t c.Seed c.Depth c.Width X.rows X.sum k x y q.sk hgr hn.depth hn.width htl ⟨hn.seed.1,by have:=hn.seed.2;omega⟩ hk hx (by omega) hs
 obtain⟨X1,hX1⟩:∃X1:Ao_,X1={ X with rows:=Bk_ t c.Seed k (estF t c.Seed k X.rows+x) X.rows,sum:=X.sum+x }:=⟨_,rfl⟩;have HX1:=hh_ hX1
 have HK1:=hh_ fun y (q:RTier y G c t X1)=>Kk_ G.gS G.vS c.Exact X1.S k en y q.sto (by rw[hX1];exact hg)
 have hk2:=Bm_ k;rw[df_ (show ¬k.size=0 by omega)] at hk2
 have hl2:¬(255:Int)<(k.size:Int):=by omega
 have b0:=h.blk.cell;obtain⟨g,gT,vT,gS,vS,gK,vr,vs,vt⟩:=G;dsimp only at *
 have HA:=hh_ fun y (q:RTier y ⟨g,gT,vT,gS,vS,gK,vr,vs,vt⟩ c t X1)=>fe_ gS vS c.Exact X1.S k x en y q.sto (by rw[hX1];exact hE) (by rw[hX1];exact hg) hx (by unfold Ent.cnt at hcn;omega)
 have HE:=hh_ (Ao_.err_ok (X:=X) hk hx hs);have HR:=hh_ (show(if X.err k x=0 then X.add c t k x else X)={ X1 with S:=G3_ X1.S k x } by rw[if_pos (Ao_.err_ok hk hx hs),Ao_.add_ex hg,hX1]);clear h hok hgr hE hcn hg hX1
 go_enter func123,ntmps123
 go_upto_region 8 with(go_at_call 156;refine(HSK.out _ H.out).mono ?_;rintro e w1 ⟨rfl,K1,M1⟩)
 have P1:=H.out.setSk K1 M1;rw[←HX1.out] at P1;have HR1:=hh_ P1.1;have HM1:=hh_ P1.2;have b1:=HR1.out.blk.cell;clear b0 K1 M1 P1 HSK
 go_upto_region 9 with(go_at_call 157;refine(HK1.out _ HR1.out).mono ?_;rintro e w2 ⟨rfl,g2⟩)
 have b2:=(HR1.out.same g2).blk.cell;obtain⟨A3,G3⟩:=nb_ w2 #[.string en.key,.int .u64 en.own,.int .u64 en.slack] 224;generalize w2.alloc _=w3 at *;generalize hgc:w2.heap.size=gc at *;have R3:=(HR1.out.same g2).same G3;have M3:=HM1.out.trans (Mov.same (Aa_ g2 G3));have b3:=R3.blk.cell;have HR3:=hh_ R3;clear b1 b2 A3 R3 HR1 HM1 g2 G3
 go_wp2_with (go_at_call 158;refine(HA.out _ HR3.out).mono ?_;rintro e w4 ⟨rfl,S4,m4⟩)
 go_ret
 obtain⟨R5,M5⟩:=HR3.out.setSto S4 m4;exact⟨by rw[HE.out];rfl,_,by rw[HR.out];exact R5,M3.trans M5,rfl⟩
def Ao_.mid (c:Cfg) (t:List Int) (X:Ao_) (k:ByteArray) (x:Int):Ao_:={ X with T:=X.T.add k x,rows:=Bk_ t c.Seed k (estF t c.Seed k X.rows+x) X.rows,sum:=X.sum+x }
theorem Ao_.add_mid {c:Cfg} {X:Ao_} {x:Int} (hk:0<k.size∧k.size≤255) (hx:1≤x) (hs:X.sum+x≤mostW) (hg:getE X.S k=none) {p:TabM×List Ent} (hp:promo c.Exact c.Promote (X.T.add k x) X.S k=p) :(if X.err k x=0 then X.add c t k x else X)={ X.mid c t k x with T:=p.1,S:=p.2 }:=by
 rw[if_pos (Ao_.err_ok hk hx hs),Ao_.add_tab hg,hp];rfl
theorem dl_ {ex pr:Int} {T:TabM} {S:List Ent} (h:T.get k=none):promo ex pr T S k =(T,S):=by unfold promo;rw[h]
theorem V2_ {ex pr:Int} {T:TabM} {S:List Ent} {e:Ent} (h:T.get k=some e) (h2:ex=0∨e.own<pr):promo ex pr T S k =(T,S):=by unfold promo;rw[h];dsimp only;rw[if_pos h2]
theorem d0_ {ex pr:Int} {T:TabM} {S:List Ent} {e:Ent} (h:T.get k=some e) (h2:¬(ex=0∨e.own<pr)) (h3 :(S.length:Int)≠ex):promo ex pr T S k =(T.take k,insE S e):=by unfold promo;rw[h];dsimp only;rw[if_neg h2,if_pos h3]
theorem d8_ {ex pr:Int} {T:TabM} {S:List Ent} {e x:Ent} (h:T.get k=some e) (h2:¬(ex=0∨e.own<pr)) (h3 :(S.length:Int)=ex) (h4:lastMin S=some x) (h5:e.own≤x.cnt):promo ex pr T S k =(T,S):=by unfold promo;rw[h];dsimp only;rw[if_neg h2,if_neg (by omega),h4];dsimp only;rw[if_pos h5]
theorem d1_ {ex pr:Int} {T:TabM} {S:List Ent} {e x:Ent} (h:T.get k=some e) (h2:¬(ex=0∨e.own<pr)) (h3 :(S.length:Int)=ex) (h4:lastMin S=some x) (h5:¬e.own≤x.cnt):promo ex pr T S k =(T.swap k x,insE (delE S x.key) e):=by unfold promo;rw[h];dsimp only;rw[if_neg h2,if_neg (by omega),h4];dsimp only;rw[if_neg h5]
theorem Ub_ {G:RtG} {c:Cfg} {X X1:Ao_} {x:Int} {e:Ending} (h:RTier w G c t X1) (h1:X1={ X with rows:=Bk_ t c.Seed k (estF t c.Seed k X.rows+x) X.rows,sum:=X.sum+x }) (hA:addErr X.T.sum k x=0) (hr:RAdd G.gT G.vT X1.T k x w e w') :
  e=.returned (.int .i64 0)∧∃v',RTier w' { G with vT:=v' } c t (X.mid c t k x)∧Mov G.F { G with vT:=v' }.F w w':=by
 obtain⟨he,v',hT,hm⟩:=hr
 have hA':addErr X1.T.sum k x=0:=by rw[h1];exact hA
 rw[hA'] at he;rw[if_pos hA'] at hT;obtain⟨a,b⟩:=h.setTab hT hm;refine⟨he,v',?_,b⟩
 have :(X.mid c t k x)={ X1 with T:=X1.T.add k x }:=by rw[h1];rfl
 rw[this];exact a
theorem F8_ {c:Cfg} {X:Ao_} (hok:TierOk c X):∀e∈X.S,W64 e.own∧W64 e.slack∧e.own+e.slack≤mostW:=fun e he=>by
 have h1:=hok.ents.own e he;have h2:=hok.ents.slack e he;have h3:=hok.cnt e he;have h4:=hok.sums;unfold Ent.cnt at h3;exact⟨Hw_ (by omega) (by omega),Hw_ h2 (by omega),by omega⟩
theorem Wf_ (G:RtG) (c:Cfg) (t:List Int) (X:Ao_) (k:ByteArray) (x:Int) (w:World) (h:RTier w G c t X) (hok:TierOk c X) (hn:Bl_ c) (htl:t.length=16) (hk:0<k.size∧k.size≤255) (hx:1≤x) (hs:X.sum+x≤mostW) (hg:getE X.S k=none) :
  Calls prog 123 #[.pointer (some ⟨G.g,0,none⟩),.string k,.int .u64 x] w (RTAdd G c t X k x w):=by
 have KK:=hh_ (show TierOk c X∧getE X.S k=none from⟨hok,hg⟩);have HE:=hh_ (Ao_.err_ok (X:=X) hk hx hs);have hTok:=hok.tab.add hk hx (show X.T.sum+x≤mostW by have:=hok.sums;omega);have hPair:=hok.pair hk hx hs hg;have H:=hh_ h;have hss:=hok.sums;have hbb:=hok.tab.base;have hmw:mostW=9223372036854775808:=rfl;have hgr:=hok.rows
 have HSK:=hh_ fun y (q:RTier y G c t X)=>Tc_ G.gK G.vr G.vs G.vt t c.Seed c.Depth c.Width X.rows X.sum k x y q.sk hgr hn.depth hn.width htl ⟨hn.seed.1,by have:=hn.seed.2;omega⟩ hk hx (by omega) hs
 obtain⟨X1,hX1⟩:∃X1:Ao_,X1={ X with rows:=Bk_ t c.Seed k (estF t c.Seed k X.rows+x) X.rows,sum:=X.sum+x }:=⟨_,rfl⟩;have HX1:=hh_ hX1
 have HK1:=hh_ fun y (q:RTier y G c t X1)=>S3_ G.gS G.vS c.Exact X1.S k y q.sto (by rw[hX1];exact hg)
 have hk2:=Bm_ k;rw[df_ (show ¬k.size=0 by omega)] at hk2
 have hl2:¬(255:Int)<(k.size:Int):=by omega
 have b0:=h.blk.cell;obtain⟨g,gT,vT,gS,vS,gK,vr,vs,vt⟩:=G;dsimp only at *;have hA1:addErr X.T.sum k x=0:=(N6_.mk hk hx (show X.T.sum+x≤mostW by omega)).err
 have HT:=hh_ fun y (q:RTier y ⟨g,gT,vT,gS,vS,gK,vr,vs,vt⟩ c t X1)=>(fs_ gT vT X1.T k x y q.tab (by rw[hX1];exact hok.tab) hk.2 ⟨by omega,by omega⟩).mono fun e w' hr=>Ub_ q hX1 hA1 hr
 clear h hok hgr hg hX1 hA1 hTok hPair
 go_enter func123,ntmps123
 go_upto_region 8 with(go_at_call 156;refine(HSK.out _ H.out).mono ?_;rintro e w1 ⟨rfl,K1,M1⟩)
 have P1:=H.out.setSk K1 M1;rw[←HX1.out] at P1;have HR1:=hh_ P1.1;have HM1:=hh_ P1.2;have b1:=HR1.out.blk.cell;clear b0 K1 M1 P1 HSK
 go_upto_region 9 with(go_at_call 157;refine(HK1.out _ HR1.out).mono ?_;rintro e w2 ⟨rfl,g2⟩)
 obtain⟨A3,G3⟩:=nb_ w2 #[.string ⟨#[]⟩,.int .u64 0,.int .u64 0] 224;generalize w2.alloc _=w3 at *;generalize hgc:w2.heap.size=gc at *;have R3:=(HR1.out.same g2).same G3;have M3:=HM1.out.trans (Mov.same (Aa_ g2 G3));have b3:=R3.blk.cell;have HR3:=hh_ R3;clear b1 A3 R3 HR1 HM1 g2 G3
 go_upto_region 13 with(go_at_call 159;refine(HT.out _ HR3.out).mono ?_;rintro e w4 ⟨rfl,v4,R4,M4⟩)
 have HR4:=hh_ R4;have b4:=R4.blk.cell;have M5:=M3.trans M4;clear b3 R4 M3 M4 HR3
 cases hget :(X.T.add k x).get k with
 | none=>
  have HR:=hh_ (Ao_.add_mid (t:=t) hk hx hs KK.out.2 (dl_ (ex:=c.Exact) (pr:=c.Promote) (S:=X.S) hget))
  have HG:=hh_ fun v4 y (q:RTier y ⟨g,gT,v4,gS,vS,gK,vr,vs,vt⟩ c t (X.mid c t k x))=>U7_ gT v4 (X.T.add k x) k y q.tab hget
  clear hget
  go_upto_region 14 with(go_at_call 160;refine(HG.out _ _ HR4.out).mono ?_;rintro e w6 ⟨rfl,g6⟩)
  obtain⟨A7,G7⟩:=nb_ w6 #[.string ⟨#[]⟩,.int .u64 0,.int .u64 0] 224;generalize w6.alloc _=w7 at *;generalize hgd:w6.heap.size=gd at *;have R7:=(HR4.out.same g6).same G7;have M7:=M5.trans (Mov.same (Aa_ g6 G7));have b7:=R7.blk.cell;have a7:=A7.cell;clear b4 A7 M5 g6 G7 HR4
  go_quiet (fail)
  go_wp2_with fail
  go_ret
  exact⟨by rw[HE.out];rfl,_,by rw[HR.out];exact R7.same (Ae_ (Ab_ w7 none) _),M7.trans (Mov.same (Ae_ (Ab_ w7 none) _)),rfl⟩
 | some e=>
  have HG:=hh_ fun v4 y (q:RTier y ⟨g,gT,v4,gS,vS,gK,vr,vs,vt⟩ c t (X.mid c t k x))=>Fp_ gT v4 (X.T.add k x) k e y q.tab hget
  go_upto_region 14 with(go_at_call 160;refine(HG.out _ _ HR4.out).mono ?_;rintro e w6 ⟨rfl,g6⟩)
  have hFl:∀i,RtG.F ⟨g,gT,v4,gS,vS,gK,vr,vs,vt⟩ i→i<w6.heap.size:=(HR4.out.same g6).low;obtain⟨A7,G7⟩:=nb_ w6 #[.string e.key,.int .u64 e.own,.int .u64 e.slack] 224;generalize w6.alloc _=w7 at *;generalize hgd:w6.heap.size=gd at *;have HFl:=hh_ hFl;clear hFl
  have hgdw:w.heap.size≤gd:=by have h1:=M5.size;have h2:=g6.size;omega
  have R7:=(HR4.out.same g6).same G7;have M7:=M5.trans (Mov.same (Aa_ g6 G7));have b7:=R7.blk.cell;have a7:=A7.cell;clear b4 M5 g6 G7 HR4
  have key :(c.Exact==0)=true∨((c.Exact==0)=false∧decide (e.own<c.Promote)=true)∨((c.Exact==0)=false∧decide (e.own<c.Promote)=false):=by
   cases c.Exact==0 <;> cases decide (e.own<c.Promote) <;> simp
  rcases key with h0d |⟨h0d,hpd⟩ |⟨h0d,hpd⟩
  all_goals
   go_quiet (fail)
   have k8:w7.grownBy (w7.drewN nq) none:=Ae_ (Ab_ w7 none) _;have R8:=R7.same k8;have A8:=A7.same k8;have M8:=M7.trans (Mov.same k8);clear b7 a7 R7 A7 M7 k8;generalize w7.drewN nq=w8 at *;have b8:=R8.blk.cell;have HR8:=hh_ R8;have HM8:=hh_ M8;clear R8 M8
  ·have HR:=hh_ (Ao_.add_mid (t:=t) hk hx hs KK.out.2 (V2_ (S:=X.S) hget (.inl (beq_iff_eq.1 h0d))))
   go_wp2_with fail
   go_ret
   exact⟨by rw[HE.out];rfl,_,by rw[HR.out];exact HR8.out,HM8.out,rfl⟩
  ·have HR:=hh_ (Ao_.add_mid (t:=t) hk hx hs KK.out.2 (V2_ (S:=X.S) hget (.inr (of_decide_eq_true hpd))))
   go_wp2_with fail
   go_ret
   exact⟨by rw[HE.out];rfl,_,by rw[HR.out];exact HR8.out,HM8.out,rfl⟩
  have hst:¬(c.Exact=0∨e.own<c.Promote):=fun h=>h.elim (beq_eq_false_iff_ne.1 h0d) (of_decide_eq_false hpd)
  obtain⟨hok,hg⟩:=KK.out;have hTok:=hok.tab.add hk hx (show X.T.sum+x≤mostW by have:=hok.sums;omega);have hPair:=hok.pair hk hx hs hg
  by_cases hl :(X.S.length:Int)=c.Exact
  ·cases hy:lastMin X.S with
   | none=>
    have:=Mt_.1 hy
    rw[this] at hl
    have:=hn.exact
    simp at hl;omega
   | some y=>
    by_cases hle:e.own≤y.cnt
    ·have HR:=hh_ (Ao_.add_mid (t:=t) hk hx hs hg (d8_ (S:=X.S) hget hst hl hy hle))
     have HFu:=hh_ fun z (q:RSto z gS vS c.Exact X.S)=>G5_ gS vS c.Exact X.S z q
     rw[dt_ hl] at HFu;have hex:=hn.exact
     have HL:=hh_ fun z (q:RSto z gS vS c.Exact X.S)=>Nh_ gS vS c.Exact X.S y z q (by omega) hy (F8_ hok)
     obtain⟨⟨y1,y2⟩,⟨y3,y4⟩,y5⟩:=F8_ hok y (B7_ hy);unfold Ent.cnt at hle;have hled:decide (y.own+y.slack<e.own)=false:=df_ (by omega);have hwy:IntKind.u64.wrap (y.own+y.slack)=y.own+y.slack:=IntWalk.u64_in _ (by omega);clear hok hg hget hst hTok hPair hl hy hex hle KK
     go_upto_region 20 with(go_at_call 161;refine(HFu.out _ HR8.out.sto).mono ?_;rintro e' w9 ⟨rfl,g9⟩)
     have R9:=HR8.out.same g9;have M9:=HM8.out.trans (Mov.same g9);have A9:=A8.same g9;have b9:=R9.blk.cell;have HR9:=hh_ R9;clear b8 R9 A8 HR8 HM8 g9
     go_upto_region 21 with(go_at_call 164;refine(HL.out _ HR9.out.sto).mono ?_;rintro e' w10 ⟨rfl,g10⟩)
     obtain⟨A11,G11⟩:=nb_ w10 #[.string y.key,.int .u64 y.own,.int .u64 y.slack] 224;generalize w10.alloc _=w11 at *;generalize hge:w10.heap.size=ge at *;have k11:=Aa_ g10 G11;have R11:=HR9.out.same k11;have M11:=M9.trans (Mov.same k11);have A12:=A9.same k11;have a11:=A11.cell;have a12:=A12.cell;clear b9 A9 HR9 M9 g10 G11
     go_wp2_with fail
     go_ret
     exact⟨by rw[HE.out];rfl,_,by rw[HR.out];exact R11,M11,rfl⟩
    ·have HR:=hh_ (Ao_.add_mid (t:=t) hk hx hs hg (d1_ (S:=X.S) hget hst hl hy hle))
     have HFu:=hh_ fun z (q:RSto z gS vS c.Exact X.S)=>G5_ gS vS c.Exact X.S z q
     rw[dt_ hl] at HFu;have hex:=hn.exact;have hym:=B7_ hy
     have HL:=hh_ fun z (q:RSto z gS vS c.Exact X.S)=>Nh_ gS vS c.Exact X.S y z q (by omega) hy (F8_ hok)
     obtain⟨⟨y1,y2⟩,⟨y3,y4⟩,y5⟩:=F8_ hok y hym;have hsw:=Pa_ hPair hget hy (by omega);obtain⟨z0,hz0,hfe,hek⟩:=C5_ hget;have hzm:=(Aw_ hz0).1;have hyk:=hok.ents.key y hym;have hyo:=hok.ents.own y hym;have hys:=hok.ents.slack y hym;have hyg:=Dx_ hok.ents.nodup hym;have hyT:=hPair.apart _ (B3_ hym)
     have hsw' :(X.T.add k x).swapOk z0 y:=by
      unfold TabM.swapOk at hsw ⊢;rw[hfe] at hsw
      by_cases h2 :(X.T.add k x).mode=2
      ·rw[if_pos h2,fix2 h2] at hsw;rw[if_pos h2];exact hsw
      ·rw[if_neg h2,fix1 h2] at hsw;rw[if_neg h2];exact hsw
     have hdl:=B1_ hyg
     have HTk:=hh_ fun z (q:RSto z gS vS c.Exact X.S)=>Zu_ gS vS c.Exact X.S y.key y z q (by omega) hyg
     have HSw:=hh_ fun v4 z (q:RTab z gT v4 (X.T.add k x))=>f5_ gT v4 (X.T.add k x) k z0 y z q hTok hz0 hyk.1 hyo hys hyT hsw'
     have hfs:=Cx_ hTok hzm;have hfo:=Cp_ (X.T.add k x) z0;have hfc:=hTok.cnt z0 hzm;have hzo:=hTok.ents.own z0 hzm;have hkS:=Bj_.1 hg;rw[←hfe] at hfs hfo hfc;rw[←hfe] at HSw;have hsum3:=hTok.sum
     have HPu:=hh_ fun v5 z (q:RSto z gS v5 c.Exact (delE X.S y.key))=>Tf_ gS v5 c.Exact (delE X.S y.key) e z q (hok.asc.sublist (Dr_ _ _)) (by omega) (by omega) (by rw[hek];exact fun hz=>hkS ((A8_ hok.ents.nodup).1 hz).1) (by rw[hek];exact hk.1) (by omega) hfs.1 (by unfold Ent.cnt at hfc;omega)
     unfold Ent.cnt at hle;have hled:decide (y.own+y.slack<e.own)=true:=dt_ (by omega);have hwy:IntKind.u64.wrap (y.own+y.slack)=y.own+y.slack:=IntWalk.u64_in _ (by omega);clear hok hg hget hst hTok hPair hl hy hex hle hym hsw hz0 hfe hek hzm hyk hyo hys hyg hyT hsw' hdl hfs hfo hfc hzo hkS hsum3 KK
     go_upto_region 20 with(go_at_call 161;refine(HFu.out _ HR8.out.sto).mono ?_;rintro e' w9 ⟨rfl,g9⟩)
     have R9:=HR8.out.same g9;have M9:=HM8.out.trans (Mov.same g9);have A9:=A8.same g9;have b9:=R9.blk.cell;have HR9:=hh_ R9;clear b8 R9 A8 HR8 HM8 g9
     go_upto_region 21 with(go_at_call 164;refine(HL.out _ HR9.out.sto).mono ?_;rintro e' w10 ⟨rfl,g10⟩)
     have hFl2:∀i,RtG.F ⟨g,gT,v4,gS,vS,gK,vr,vs,vt⟩ i→i<w10.heap.size:=(HR9.out.same g10).low;obtain⟨A11,G11⟩:=nb_ w10 #[.string y.key,.int .u64 y.own,.int .u64 y.slack] 224;generalize w10.alloc _=w11 at *;generalize hge:w10.heap.size=ge at *;have k11:=Aa_ g10 G11;have R11:=HR9.out.same k11;have M11:=M9.trans (Mov.same k11);have A12:=A9.same k11;have HFl2:=hh_ hFl2
     have hde:gd<ge:=by have:=(A9.same g10).lt;omega
     have a11:=A11.cell;have a12:=A12.cell;clear b9 A9 HR9 M9 g10 G11 hFl2
     go_upto_region 22 with fail
     clear a11 a12
     (refine rn_ 6 (fun _ _ _ _ _=>False) ?_;simp only[ts_])
     have k13:w11.grownBy w11.drew none:=Al_ (Ab_ w11 none);have A13:=hh_ A11.drew1;have A14:=hh_ A12.drew1;have HR13:=hh_ (R11.same k13);have HM13:=hh_ (M11.trans (Mov.same k13));clear A11 A12 M11 k13 R11 k11;generalize w11.drew=wq at *
     (refine tq_ 3 ?_;(repeat(go_big_quiet_step (fail)));refine wn_ ?_)
     (refine to_ ?_;intro y3 my3 dy3)
     clear dy3;have ax:=(HR13.out.same my3).blk.cell
     go_wp2_with fail
     refine⟨Ab_ _ _,?_⟩;clear ax my3
     (refine tq_ 1 ?_;(repeat(go_big_quiet_step (fail)));refine wn_ ?_)
     (refine to_ ?_;intro y5 my5 dy5)
     clear dy5;have ax:=(A13.out.same my5).cell
     go_wp2_with fail
     refine⟨Ab_ _ _,?_⟩;clear ax my5
     (refine Rg.tree_nil ?_;intro z mz dz cz)
     have R14:=HR13.out.same mz;have HS14:=hh_ R14.sto
     go_upto_region 23 with(go_at_call 165;refine(HTk.out _ HS14.out).mono ?_;rintro e' w15 ⟨rfl,v15,S15,m15⟩)
     obtain⟨R15,M15⟩:=R14.setSto S15 m15
     have A15:=(A13.out.same mz).keptS m15.grown fun hi=>Nat.lt_irrefl _ (HFl2.out ge (.inr (.inr (.inl hi))))
     have A16:=(A14.out.same mz).keptS m15.grown fun hi=>Nat.lt_irrefl _ (HFl.out gd (.inr (.inr (.inl hi))))
     have M16:=(HM13.out.trans (Mov.same mz)).trans M15;have hgz:gd<z.heap.size:=(A14.out.same mz).lt;have HN15:=hh_ (show ¬RtG.F ⟨g,gT,v4,gS,v15,gK,vr,vs,vt⟩ gd from fun hi=>(M15.new gd hi).elim (fun h=>Nat.lt_irrefl _ (HFl.out gd h)) fun h=>by omega);have k16:w15.grownBy w15.drew none:=Al_ (Ab_ w15 none);have HR16:=hh_ (R15.same k16);have HM16:=hh_ (M16.trans (Mov.same k16));have b16:=(R15.same k16).blk.cell;have a15:=A15.drew1.cell;have HA16:=hh_ A16.drew1;have hdw:gd<w15.drew.heap.size:=A16.drew1.lt;clear R14 HS14 S15 m15 R15 M15 A15 A16 M16 k16 A13 A14 HR13 HM13 mz dz cz
     go_region_with (go_at_call 166;refine(HSw.out _ _ HR16.out.tab).mono ?_;rintro e' w17 ⟨rfl,v17,T17,m17⟩;have A17:=HA16.out.keptS m17.grown (fun hi=>Nat.lt_irrefl _ (HFl.out gd (.inr (.inl hi))));have a17:=A17.cell;have f17:=A17.free)
     all_goals
      obtain⟨R17,M17⟩:=HR16.out.setTab T17 m17
      (have g18:World.grownBy w17 (((w17.setCell ⟨gd,0,none⟩ (.string e.key)).setCell ⟨gd,1,none⟩ (.int .u64 e.own)).setCell ⟨gd,2,none⟩ (.int .u64 e.slack)) (some gd):=Ac_ (Ac_ (Ac_ (Ab_ _ _) _ _) _ _) _ _);(have A18:Blk (((w17.setCell ⟨gd,0,none⟩ (.string e.key)).setCell ⟨gd,1,none⟩ (.int .u64 e.own)).setCell ⟨gd,2,none⟩ (.int .u64 e.slack)) gd #[.string e.key,.int .u64 e.own,.int .u64 e.slack]:=((Blk.set_ (by assumption) 0 _ rfl).set_ 1 _ rfl).set_ 2 _ rfl);generalize ((w17.setCell _ _).setCell _ _).setCell _ _=w18 at *
      have HN17:¬RtG.F ⟨g,gT,v17,gS,v15,gK,vr,vs,vt⟩ gd:=fun hi=>(M17.new gd hi).elim HN15.out fun h=>by omega
      have S18:GrownS (oneF gd) w17 w18:=GrownS.of g18 fun q e=>by cases e;exact rfl
      have R18:=R17.keptS S18 fun i hi e=>HN17 (by rw[show i=gd from e] at hi;exact hi)
      have HM18:=hh_ (show GrownS (fun i=>RtG.F ⟨g,gT,vT,gS,vS,gK,vr,vs,vt⟩ i∨i=gd) w w18∧∀i,RtG.F ⟨g,gT,v17,gS,v15,gK,vr,vs,vt⟩ i→RtG.F ⟨g,gT,vT,gS,vS,gK,vr,vs,vt⟩ i∨w.heap.size≤i from⟨((HM16.out.trans M17).grown.mono fun i hi _=>.inl hi).trans S18 fun i hi _=>.inr hi,(HM16.out.trans M17).new⟩);have k19:w18.grownBy w18.drew none:=Al_ (Ab_ w18 none);have A19:=hh_ A18.drew1;have HR19:=hh_ (R18.same k19);clear T17 m17 A17 a17 f17 R17 M17 g18 A18 S18 HR16 HM16 b16 a15 HA16 HSw
      go_upto_region 24 with fail
      (refine rn_ 5 (fun _ _ _ _ _=>False) ?_;simp only[ts_])
      generalize w18.drew=wq at *
      (refine tq_ 3 ?_;(repeat(go_big_quiet_step (fail)));refine wn_ ?_)
      (refine to_ ?_;intro y3 my3 dy3)
      clear dy3;have ax:=(HR19.out.same my3).blk.cell
      go_wp2_with fail
      refine⟨Ab_ _ _,?_⟩;clear ax my3
      (refine to_ ?_;intro y4 my4 dy4)
      clear dy4;have ax:=(A19.out.same my4).cell
      go_wp2_with fail
      refine⟨Ab_ _ _,?_⟩;clear ax my4
      (refine Rg.tree_nil ?_;intro z5 mz5 dz5 cz5)
      have R20:=HR19.out.same mz5;have HS20:=hh_ R20.sto
      go_wp2_with (go_at_call 163;refine(HPu.out _ _ HS20.out).mono ?_;rintro e' w21 ⟨rfl,v21,S21,m21⟩)
      go_ret
      obtain⟨R21,M21⟩:=R20.setSto S21 m21;refine⟨by rw[HE.out];rfl,⟨g,gT,v17,gS,v21,gK,vr,vs,vt⟩,by rw[HR.out];exact R21,⟨?_,fun i hi=>?_⟩,rfl⟩
      ·have q1:GrownS (RtG.F ⟨g,gT,vT,gS,vS,gK,vr,vs,vt⟩) w w18:=HM18.out.1.mono fun i hi hlt=>hi.elim id fun e=>by omega
       have q2:=(q1.trans (GrownS.none_ (S:=fun _=>False) (Aa_ k19 mz5)) fun i hi _=>hi.elim)
       exact q2.trans M21.grown fun i hi hlt=>(HM18.out.2 i hi).elim id fun h=>absurd hlt (by omega)
      ·rcases M21.new i hi with h|h
       ·exact HM18.out.2 i h
       ·exact .inr (lt_ HM18.out.1.size (lt_ (Aa_ k19 mz5).size h))
  ·have HR:=hh_ (Ao_.add_mid (t:=t) hk hx hs hg (d0_ (S:=X.S) hget hst hl))
   obtain⟨y,hy,hfe,hek⟩:=C5_ hget;have hym:=(Aw_ hy).1
   have hlT :(X.T.add k x).L.length≤64:=by have:=hTok.len;have:=hTok.m;omega
   have HFu:=hh_ fun z (q:RSto z gS vS c.Exact X.S)=>G5_ gS vS c.Exact X.S z q
   rw[df_ hl] at HFu
   have HTk:=hh_ fun v4 z (q:RTab z gT v4 (X.T.add k x))=>dk_ gT v4 (X.T.add k x) k y z q hlT hy
   have hfs:=Cx_ hTok hym;have hfo:=Cp_ (X.T.add k x) y;have hfc:=hTok.cnt y hym;have hyo:=hTok.ents.own y hym;have hkS:=Bj_.1 hg;rw[←hfe] at hfs hfo hfc;have hle:=hok.len;have hex:=hn.exact;have hsum3:=hTok.sum
   have HPu:=hh_ fun z (q:RSto z gS vS c.Exact X.S)=>Tf_ gS vS c.Exact X.S e z q hok.asc (by omega) hl (by rw[hek];exact hkS) (by rw[hek];exact hk.1) (by omega) hfs.1 (by unfold Ent.cnt at hfc;omega)
   have he2:=hh_ hek;clear hok hg hget hst hTok hPair hl hy hym hfs hfo hfc hyo hkS hek hfe hlT hle hex KK
   go_upto_region 17 with(go_at_call 161;refine(HFu.out _ HR8.out.sto).mono ?_;rintro e' w9 ⟨rfl,g9⟩)
   have R9:=HR8.out.same g9;have M9:=HM8.out.trans (Mov.same g9);have A9:=A8.same g9;have b9:=R9.blk.cell;have HR9:=hh_ R9;clear b8 R9 A8 HR8 HM8 g9
   go_upto_region 18 with(go_at_call 162;refine(HTk.out _ _ HR9.out.tab).mono ?_;rintro e' w10 ⟨rfl,v10,T10,m10⟩)
   obtain⟨R10,M10⟩:=HR9.out.setTab T10 m10
   have A10:=A9.keptS m10.grown fun hi=>Nat.lt_irrefl _ (HFl.out gd (.inr (.inl hi)))
   have M11:=M9.trans M10;have HR10:=hh_ R10;clear b9 A9 T10 m10 R10 M9 M10 HR9
   (refine rn_ 5 (fun _ _ _ _ _=>False) ?_;simp only[ts_])
   have k11:w10.grownBy w10.drew none:=Al_ (Ab_ w10 none);have A11:=hh_ A10.drew1;have HR11:=hh_ (HR10.out.same k11);have HM11:=hh_ (M11.trans (Mov.same k11));clear A10 M11 k11 HR10;generalize w10.drew=wq at *
   (refine tq_ 3 ?_;(repeat(go_big_quiet_step (fail)));refine wn_ ?_)
   (refine to_ ?_;intro y3 my3 dy3)
   clear dy3;have ax:=(HR11.out.same my3).blk.cell
   go_wp2_with fail
   refine⟨Ab_ _ _,?_⟩;clear ax my3
   (refine to_ ?_;intro y4 my4 dy4)
   clear dy4;have ax:=(A11.out.same my4).cell
   go_wp2_with fail
   refine⟨Ab_ _ _,?_⟩;clear ax my4
   (refine Rg.tree_nil ?_;intro z mz dz cz)
   have R12:=HR11.out.same mz;have HS12:=hh_ R12.sto
   go_wp2_with (go_at_call 163;refine(HPu.out _ HS12.out).mono ?_;rintro e' w13 ⟨rfl,v13,S13,m13⟩)
   go_ret
   obtain⟨R13,M13⟩:=R12.setSto S13 m13;exact⟨by rw[HE.out];rfl,_,by rw[HR.out];exact R13,(HM11.out.trans (Mov.same mz)).trans M13,rfl⟩
theorem J6_ (G:RtG) (c:Cfg) (t:List Int) (X:Ao_) (k:ByteArray) (x:Int) (w:World) (h:RTier w G c t X) (hok:TierOk c X) (hn:Bl_ c) (htl:t.length=16) (hx:W64 x) :
  Calls prog 123 #[.pointer (some ⟨G.g,0,none⟩),.string k,.int .u64 x] w (RTAdd G c t X k x w):=by
 by_cases he:X.err k x=0
 ·obtain⟨hk,hx1,hs⟩ :(0<k.size∧k.size≤255)∧1≤x∧X.sum+x≤mostW:=by
   have:=hx.1
   unfold Ao_.err at he
   split at he
   ·omega
   ·split at he
    ·omega
    ·split at he
     ·omega
     ·split at he
      ·omega
      ·exact⟨by omega,by omega,by omega⟩
  cases hg:getE X.S k with
  | some en=>exact Zg_ G c t X k x w h hok hn htl hk hx1 hs en hg
  | none=>exact Wf_ G c t X k x w h hok hn htl hk hx1 hs hg
 ·exact Vg_ G c t X k x w h hok hx he
theorem et_ (g:Nat) (v:Value) (T:TabM) (w:World) (h:RTab w g v T):Calls prog 124 #[.pointer (some ⟨g,0,none⟩)] w (fun e w'=>e=.returned (.int .u64 T.base)∧w=w'):=by
 have b0:=h.blk.cell;clear h
 go_enter func124,ntmps124
 go_wp2_with fail
 go_ret
 exact⟨rfl,rfl⟩
end
section
open Go.RowKit Go.Sort
section
variable {α:Type} {f:α→List Value} {st e:TypeId} {z:Value} {size bytes:Nat} {w:World} {B:Nat} {g:Nat} {l2:List α} {A:Option Addr} {m c:Nat}
variable {o:Oper} {a:Act} {ops:Array Oper} {rest:List Oper} {Q:Exit→Act→World→Prop}
end
structure OSum (B:Nat) (w:World) (ve vr:Value) (vs:List SlR) (es:List Ent) (rows:List (List Int)):Prop where
 es:Own entF 3 224 B w ve es
 rows:ORows w vr vs rows
 base:∀i,rowsF vr vs i→B≤i
def im_ (c:Cfg) (X:Ao_) (w:World) (e:Ending) (w':World):Prop:=
 ∃ve vr vs,e=.returned (.agg #[.int .u64 X.sum,ve,.int .u64 X.T.base,vr])∧OSum w.heap.size w' ve vr vs X.entries X.rows∧w.grownBy w' none
theorem Pq_ (T:TabM):T.entries.length=T.L.length:=by unfold TabM.entries;rw[Gp_,List.length_map]
theorem ei_ (G:RtG) (c:Cfg) (t:List Int) (X:Ao_) (w:World) (h:RTier w G c t X) (hok:TierOk c X) (hn:Bl_ c) :
  Calls prog 94 #[.pointer (some ⟨G.g,0,none⟩)] w (im_ c X w):=by
 have H:=hh_ h;have b0:=h.blk.cell
 have HU:=hh_ fun y (q:w.grownBy y none)=>et_ G.gT G.vT X.T y (h.same q).tab
 have HEn:=hh_ fun y (R:RTab y G.gT G.vT X.T)=>Sc_ G.gT G.vT X.T y R hok.tab
 have hlT:=Pq_ X.T
 have hlT2:X.T.L.length≤64:=by have:=hok.tab.len;have:=hok.tab.m;omega
 have hlS:X.S.length≤32:=by have:=hok.len;have:=hn.exact;omega
 have hd:=hok.rows.depth;have hnd:=hn.depth;have hRw:=hh_ hok.rows.width;have hnw:=hn.width;obtain⟨a,cS,hvS⟩:=h.sto.own.shape;obtain⟨ar,cr,hvr⟩:=h.sk.rows.own.shape;have hvl:G.vs.length=X.rows.length:=h.sk.rows.len;have HZ1:=hh_ (show sortEn (X.T.entries++X.S)=X.entries from rfl);have HZl:=hh_ (show(X.entries).length=X.T.entries.length+X.S.length by unfold Ao_.entries;rw[Gp_,la_])
 have HZ2:=hh_ (show cellsOf entF (X.entries.take X.T.entries.length)=cellsOf entF X.T.entries→X.entries=X.T.entries++X.S by
  intro hc;have h1:=Lm_ (by rw[lk_,HZl.out];omega) hc
  have h2:X.entries=X.T.entries++X.entries.drop X.T.entries.length:=by conv=>lhs;rw[←List.take_append_drop X.T.entries.length X.entries,h1]
  have hp:=hok.entries;have hpT:X.T.entries.Perm (X.T.L.map X.T.fix):=(Ek_ (by rw[C6_];exact hok.tab.ents.nodup)).2
  have h3 :(X.entries.drop X.T.entries.length).Perm X.S:=by
   have h4 :(X.T.entries++X.entries.drop X.T.entries.length).Perm (X.T.entries++X.S):=by rw[←h2];exact hp.1.trans (hpT.symm.append_right X.S)
   exact(List.perm_append_left_iff _).1 h4
  rw[h2,Fb_ ((hp.2).sublist (List.drop_sublist _ _)) hok.asc h3])
 obtain⟨g,gT,vT,gS,vS,gK,vr,vs,vt⟩:=G;dsimp only at *;subst hvS hvr;generalize X.T.entries=ET at *;have HEZ:=hh_ (show X.entries=X.entries from rfl);obtain⟨EZ,hEZ⟩:∃EZ,EZ=X.entries:=⟨_,rfl⟩;rw[←hEZ] at HZ1 HZl HZ2;replace HEZ:=hh_ hEZ;clear hEZ;clear h hok
 go_enter func94,ntmps94
 go_upto_region 1 with fail
 have A1:=Blk.new w #[.int .u64 0,.slice none 0 0,.int .u64 0,.slice none 0 0] 129;have G1:=ga_ w (.cells #[.int .u64 0,.slice none 0 0,.int .u64 0,.slice none 0 0] 129) none;generalize w.alloc _=w1 at *;generalize hgb:w.heap.size=gb at *;have k2:=Al_ G1;have HA1:=hh_ A1.drew1
 (refine rn_ 14 (fun i _ w v w'=>match i with | 11=>v=.int .u64 X.T.base∧World.grownBy w w' none | _=>False) ?_;simp only[ts_])
 clear A1 G1;generalize w1.drew=wq at *
 (refine tq_ 3 ?_;(repeat(go_big_quiet_step (fail)));refine wn_ ?_)
 (refine to_ ?_;intro y3 my3 dy3)
 clear dy3;have ax:=(H.out.same (Aa_ k2 my3)).blk.cell
 go_wp2_with fail
 refine⟨Ab_ _ _,?_⟩;clear ax my3
 (refine tq_ 2 ?_;(repeat(go_big_quiet_step (fail)));refine wn_ ?_)
 (refine to_ ?_;intro y6 my6 dy6)
 clear dy6;have ax:=(H.out.same (Aa_ k2 my6)).sk.blk.cell
 go_wp2_with fail
 refine⟨Ab_ _ _,?_⟩;clear ax my6
 (refine tq_ 3 ?_;(repeat(go_big_quiet_step (fail)));refine wn_ ?_)
 (refine to_ ?_;intro y10 my10 dy10)
 clear dy10;have ax:=(H.out.same (Aa_ k2 my10)).blk.cell
 go_wp2_with fail
 refine⟨Ab_ _ _,?_⟩;clear ax my10
 (refine tc_ ?_;intro y11 my11 dy11;refine⟨?_,?_⟩;· (unfold Rg.callSpec;go_simp;(refine(HU.out y11 (Aa_ k2 my11)).mono ?_;rintro e w' ⟨rfl,rfl⟩;exact⟨_,rfl,rfl,Ab_ _ _⟩)))
 clear dy11;rintro v7 e7 ⟨rfl,g7⟩;refine⟨g7,?_⟩;simp only[pt_];clear g7 my11
 (refine tq_ 1 ?_;(repeat(go_big_quiet_step (fail)));refine wn_ ?_)
 (refine to_ ?_;intro y13 my13 dy13)
 clear dy13
 go_wp2_with fail
 refine⟨ga_ _ _ _,?_⟩;have A13:=Blk.new y13 #[.int .u64 0,.slice none 0 0,.int .u64 0,.slice none 0 0] 129;have hyq:=my13.size;generalize y13.alloc _=e13 at *;generalize hgc:y13.heap.size=gc at *
 (refine Rg.tree_nil ?_;intro z mz dz cz)
 have AZ:=A13.same (dz.out 13 (by omega));have BZ:=HA1.out.same mz
 have hbc:gb<gc:=by have:=HA1.out.lt;omega
 have KZ:=Aa_ k2 mz;clear dz cz mz my13 A13 hyq;have az:=AZ.cell;have fz:=AZ.free
 go_upto_region 2 with fail
 have GS:World.grownBy z ((((z.setCell ⟨gc,0,none⟩ (.int .u64 X.sum)).setCell ⟨gc,1,none⟩ (.slice none 0 0)).setCell ⟨gc,2,none⟩ (.int .u64 X.T.base)).setCell ⟨gc,3,none⟩ (.slice none 0 0)) (some gc):=Ac_ (Ac_ (Ac_ (Ac_ (Ab_ _ _) _ _) _ _) _ _) _ _;have BS:Blk ((((z.setCell ⟨gc,0,none⟩ (.int .u64 X.sum)).setCell ⟨gc,1,none⟩ (.slice none 0 0)).setCell ⟨gc,2,none⟩ (.int .u64 X.T.base)).setCell ⟨gc,3,none⟩ (.slice none 0 0)) gc #[.int .u64 X.sum,.slice none 0 0,.int .u64 X.T.base,.slice none 0 0]:=(((AZ.set_ 0 _ rfl).set_ 1 _ rfl).set_ 2 _ rfl).set_ 3 _ rfl;have BB:=BZ.kept GS (fun e=>by cases e;omega);have KS:=Af_ KZ GS (by omega);clear GS AZ BZ KZ az fz;generalize (((z.setCell _ _).setCell _ _).setCell _ _).setCell _ _=zs at *;have hN0:=KS.size;have hgN:=ll_ H.out.blk.lt hN0;have hgS:=ll_ H.out.sto.blk.lt hN0
 have HoT:=hh_ fun i (hi:rtF gT vT i)=>ll_ (H.out.tab.low i hi) hN0
 have hvN:=hh_ fun q (hq :(Value.slice a X.S.length cS).ownBlock=some q)=>ll_ (H.out.sto.own.lt q hq).2 hN0
 have hbN:=BB.lt;have hcN:=BS.lt;have KD:=Al_ KS;have HBB:=hh_ BB.drew1;have HBS:=hh_ BS.drew1;obtain⟨N,HN⟩:∃N:Nat,N=zs.heap.size:=⟨_,rfl⟩
 have hND:N≤zs.drew.heap.size:=by rw[HN];exact(World.grownBy.size (Al_ (Ab_ zs none)))
 rw[←HN] at hN0 hgN hgS HoT hvN hbN hcN;obtain⟨P,hP⟩:∃P:List Ent→Prop,P=fun T=>T=ET∨T=ET++X.S∨T=EZ:=⟨_,rfl⟩;have HP0:=hh_ (show P ET by rw[hP];exact .inl rfl);have HP1:=hh_ (show P (ET++X.S) by rw[hP];exact .inr (.inl rfl));have HPZ:=hh_ (show P EZ by rw[hP];exact .inr (.inr rfl))
 have HP2:=hh_ (show ∀Q,P Q→(Q.length≤ET.length∨Q <+: ET++X.S∨ET++X.S <+: Q)∨(ET.length≤Q.length∧cellsOf entF (Q.take ET.length)≠cellsOf entF ET) by
  intro Q hQ;rw[hP] at hQ
  rcases hQ with rfl|rfl|rfl
  ·exact .inl (.inl (le_ _))
  ·exact .inl (.inr (.inl (List.prefix_refl _)))
  ·by_cases hc:cellsOf entF (Q.take ET.length)=cellsOf entF ET
   ·left;right;left
    rw[HZ2.out hc];exact List.prefix_refl _
   ·exact .inr ⟨by rw[HZl.out];omega,hc⟩)
 have hb4 :(ET.length+X.S.length)*32≤140737488355328:=by omega
 have hb5:ET.length+X.S.length≤9223372036854775807:=by omega
 have hbZ :(ET++X.S).length≤1000000:=by rw[la_];omega
 clear hP HN BB BS
 (refine Rg.wp_region_rgZ 15 #[] (Keep entF 3 224 N P) (fun k _ w v w'=>match k with | 4=>Own entF 3 224 N w' v ET∧World.grownBy w w' none | 13=>Own entF 3 224 N w' v EZ∧World.grownBy w w' none | _=>False) (by kernel_rfl) (by kernel_rfl) (Keep.refl _ _ _ _ _) (fun _ _ _ h k=>h.trans k) (fun _ _ _ _ _ h=>h) ?_;simp only[List.take,List.drop])
 generalize zs.drew=wd at *;have Hd:=hh_ (H.out.same KD)
 (refine tq_ 3 ?_;(repeat(go_big_quiet_step (fail)));refine wn_ ?_)
 (refine to_ ?_;intro y3 my3 dy3)
 clear dy3;have ax:=(my3.blk Hd.out.blk hgN).cell
 go_wp2_with fail
 refine⟨Keep.refl _ _ _ _ _ _,?_⟩;clear ax my3
 (refine tc_ ?_;intro y4 my4 dy4;refine⟨?_,?_⟩;· (unfold Rg.callSpec;go_simp;(refine(HEn.out y4 (Hd.out.tab.keptS my4.grown (fun i hi h2=>by have:=HoT.out i hi;omega))).mono ?_;rintro e w' ⟨v',rfl,o',g'⟩;exact⟨_,rfl,o'.base (fun q hq=>lt_ (lt_ hND my4.grown.size) (o'.lt q hq).1),g'⟩)))
 clear dy4;rintro v4 e4 ⟨o4,g4⟩;refine⟨Keep.of g4,?_⟩;simp only[pt_];clear g4 my4
 (refine tq_ 3 ?_;(repeat(go_big_quiet_step (fail)));refine wn_ ?_)
 (refine to_ ?_;intro y8 my8 dy8)
 clear dy8;have ax:=(my8.blk Hd.out.blk hgN).cell
 go_wp2_with fail
 refine⟨Keep.refl _ _ _ _ _ _,?_⟩;clear ax my8
 (refine tq_ 2 ?_;(repeat(go_big_quiet_step (fail)));refine wn_ ?_)
 (refine to_ ?_;intro y11 my11 dy11)
 clear dy11;have ax:=(my11.blk Hd.out.sto.blk hgS).cell
 go_wp2_with fail
 refine⟨Keep.refl _ _ _ _ _ _,?_⟩;clear ax my11
 (refine to_ ?_;intro y12 my12 dy12)
 have N12:=(dy12.out 4 (by omega) (by kernel_rfl)).own _ _ HP0.out o4;have R12:=my12.rd Hd.out.sto.own.rd (fun _ a n c e=>by cases e;exact hvN.out _ rfl);have z12:=lt_ hND my12.grown.size;clear dy12
 go_wp2_with (at_builtin;refine Nv_ Bp_ Bo_ Az_ N12 R12 rfl hb4 hb5 z12 HP2.out (by rfl) _ _ (by rfl) (by rfl) (by rfl) ?_;intro v12 e12 o12 k12;have Hk12:=hh_ k12;clear k12)
 refine⟨Hk12.out,?_⟩;clear N12 R12 z12 my12 o4
 have HSo:=hh_ fun y (R:Own entF 3 224 N y v12 (ET++X.S))=>Hv_ _ _ y R.rd hbZ
 rw[HZ1.out] at HSo
 (refine tc_ ?_;intro y13 my13 dy13;refine⟨?_,?_⟩;· (unfold Rg.callSpec;go_simp;(refine(HSo.out y13 ((dy13.out 12 (by omega) (by kernel_rfl)).own _ _ HP1.out o12)).mono ?_;rintro e w' ⟨v',rfl,o',g'⟩;exact⟨_,rfl,o'.base (fun q hq=>lt_ (lt_ hND my13.grown.size) (o'.lt q hq).1),g'⟩)))
 clear dy13;rintro v13 e13 ⟨o13,g13⟩;refine⟨Keep.of g13,?_⟩;simp only[pt_];clear g13 my13
 (refine tq_ 1 ?_;(repeat(go_big_quiet_step (fail)));refine wn_ ?_)
 (refine Rg.tree_nil ?_;intro zz mzz dzz czz)
 have oz:=(dzz.out 13 (by omega)).own _ _ HPZ.out o13;have BZ:=mzz.blk HBB.out hbN;have AZ:=mzz.blk HBS.out hcN;have GZ:=mzz.grown;clear dzz czz o12 o13 mzz Hk12 HSo;obtain⟨az,cz2,hvz⟩:=oz.shape;subst hvz;have bc:=AZ.cell;have fc:=AZ.free
 go_upto_region 3 with fail
 have GS:World.grownBy zz (zz.setCell ⟨gc,1,none⟩ (.slice az EZ.length cz2)) (some gc):=Ac_ (Ab_ _ _) _ _;have AS:=AZ.set_ 1 (.slice az EZ.length cz2) (cs':=#[.int .u64 X.sum,.slice az EZ.length cz2,.int .u64 X.T.base,.slice none 0 0]) rfl;have BS:=BZ.kept GS (fun e=>by cases e;omega)
 have KZ:=((GrownS.none_ (S:=fun i=>N≤i) KD).trans GZ (fun i hi _=>hi)).back fun i hi h2=>by omega
 have hwc:w.heap.size≤gc:=by omega
 have KS:=Af_ KZ GS hwc
 have hza:∀q,(Value.slice az EZ.length cz2).ownBlock=some q→N≤q∧q<zz.heap.size:=fun q hq=>oz.lt q hq
 have os:=(oz.kept GS (fun q hq e=>by cases e;have:=(hza _ hq).1;omega)).base (B':=w.heap.size) (fun q hq=>by have:=(hza q hq).1;omega);have hzs:zz.heap.size≤(zz.setCell ⟨gc,1,none⟩ (.slice az EZ.length cz2)).heap.size:=GS.size;have hcz:=AZ.lt;have hbz:=BZ.lt;clear oz AZ BZ GZ bc fc GS KZ KD Hd HBB HBS HP0 HP1 HPZ HP2 HZ1 HZ2 HZl HEn HU HoT hvN hgN hgS HA1 k2;generalize zz.setCell ⟨gc,1,none⟩ (.slice az EZ.length cz2)=w4 at *;obtain⟨N2,hN2⟩:∃N2:Nat,N2=w4.heap.size:=⟨_,rfl⟩;have HQ:=hh_ H;have bg:=(H.out.same KS).blk.cell;have bk:=(H.out.same KS).sk.blk.cell
 go_wp2_with fail
 clear bg bk
 go_loopw [42] (fun s42 wk=>∃(k:Nat) (v:Value) (us:List SlR),k≤vs.length∧s42=.int .i64 k∧Blk wk gc #[.int .u64 X.sum,.slice az EZ.length cz2,.int .u64 X.T.base,v]∧Blk wk gb #[.int .u64 0,.slice none 0 0,.int .u64 0,.slice none 0 0]∧Own entF 3 224 w.heap.size wk (.slice az EZ.length cz2) EZ∧ORows wk v us (X.rows.take k)∧(∀i,rowsF v us i→N2≤i)∧w.grownBy wk none∧N2≤wk.heap.size) (fun s42 _=>vs.length-(RowKit.intOf s42).toNat)
 case atStart=>exact⟨0,_,[],zl_ _,rfl,AS,BS,os,ORows.nil _,fun i hi=>by rcases hi with hi |⟨u,hu,_⟩;exact absurd hi (Ax_ i);simp at hu,KS,Nat.le_of_eq hN2⟩
 case round=>
  obtain⟨k,v,us,hk,rfl,A,B,E,R,hF,hg,hz⟩:=hrel;clear AS BS os KS
  by_cases hkD:k<vs.length
  ·have hkd :(k:Int)<c.Depth:=by omega
   have hkr:k<X.rows.length:=by omega
   have RS:=(H.out.same hg).sk.rows;obtain⟨gx,cx,hvx,_,_,_,hcx,_⟩:=RS.own.at_ Pd_ hkD;cases hvx;have c0:=hcx 0 (SlR.v vs[k]) rfl;rw[Nat.mul_one,Nat.add_zero] at c0;have OR:=RS.all k vs[k] X.rows[k] (gq_ hkD) (gq_ hkr)
   have hrw:X.rows[k].length≤256:=by have:=hRw.out X.rows[k] (mg_ hkr);omega
   have HTK:=hh_ (show X.rows.take (k+1)=X.rows.take k++[X.rows[k]] by rw[tg_ hkr]);obtain⟨xa,xc,hxv⟩:=OR.shape;rw[hxv] at c0 OR;generalize X.rows[k]=row at *
   have hRT :(X.rows.take k).length=k:=by rw[lk_];omega
   generalize X.rows.take k=RT at *;generalize vs[k]=sx at *;clear hxv hcx RS
   go_upto_region 6 with fail
   have k0:wr.grownBy wr.drew none:=Al_ (Ab_ wr none);have HA:=hh_ A;have HRw:=hh_ OR.rd;have HR:=hh_ R;obtain⟨oa,oc,hov⟩:=R.own.shape;subst hov
   have hb1:row.length*8≤140737488355328:=by omega
   have hb2:row.length≤9223372036854775807:=by omega
   have hul:us.length≤vs.length:=by have h1:=R.len;omega
   clear OR
   (refine rn_ 6 (fun _ _ _ _ _=>False) ?_;simp only[ts_])
   (refine tq_ 1 ?_;(repeat(go_big_quiet_step (fail)));refine wn_ ?_)
   (refine to_ ?_;intro y1 my1 dy1)
   clear dy1;have ax:=(A.same (Aa_ k0 my1)).cell
   go_wp2_with fail
   refine⟨Ab_ _ _,?_⟩;clear ax my1
   (refine to_ ?_;intro y2 my2 dy2)
   clear dy2;have hz2:=(Aa_ k0 my2).size
   go_wp2_with fail
   refine⟨ga_ _ _ _,?_⟩;have N2':=A0_ (e:=22) wordF 1 hz2;generalize y2.alloc _=e2 at *;generalize y2.heap.size=g2 at *
   (refine tq_ 1 ?_;(repeat(go_big_quiet_step (fail)));refine wn_ ?_)
   (refine to_ ?_;intro y4 my4 dy4)
   have N4:=N2'.same (dy4.out 2 (by omega) (by kernel_rfl));have R4:=HRw.out.same (Aa_ k0 my4);have z4:=(Aa_ k0 my4).size;clear dy4
   go_wp2_with (at_builtin;refine A5_ cj_ b1_ N4 R4 rfl hb1 hb2 z4 ?_;intro v4' e4' o4' k4' l4';have Hk4:=hh_ k4';clear k4' l4';(obtain⟨a4,c4,hv4⟩:=o4'.shape);subst hv4)
   refine⟨Hk4.out,?_⟩;clear N4 R4 z4 my4 N2' my2 hz2 Hk4
   (refine to_ ?_;intro y5 my5 dy5)
   have X5:=o4'.same (dy5.out 4 (by omega) (by kernel_rfl));clear dy5;have hz5:=(Aa_ k0 my5).size
   go_wp2_with fail
   refine⟨ga_ _ _ _,?_⟩;have S5:=H8_ (size:=1) Pd_ y5 ⟨a4,row.length,c4⟩ #[.slice a4 row.length c4] 24 rfl;have g5:=ga_ y5 (.cells #[.slice a4 row.length c4] 24) none;generalize y5.alloc _=e5 at *;generalize y5.heap.size=gn at *
   (refine Rg.tree_nil ?_;intro zq mzq dzq czq)
   have kq:=Aa_ k0 mzq;have Aq:=HA.out.same kq;have Sq:=S5.same (dzq.out 5 (by omega));have Xq:=X5.same (Aa_ g5 (dzq.out 5 (by omega)));have Oq:=HR.out.own.same kq
   have hbx1 :(us.length+[(⟨a4,row.length,c4⟩:SlR)].length)*24≤140737488355328:=by simp;omega
   have hbx3:us.length+[(⟨a4,row.length,c4⟩:SlR)].length≤9223372036854775807:=by simp;omega
   have hgF:∀i,rowsF (.slice oa us.length oc) us i→gc<i∧gb<i:=fun i hi=>by have:=hF i hi;omega
   have Hkq:=hh_ kq;clear dzq czq mzq X5 S5 g5 k0 hz5 o4' my5 c0 kq A R
   go_upto_region 7 with(at_builtin;refine app (l:=us) Q5_ cc_ Oq Sq rfl hbx1 hbx3 (zl_ _) ?_;intro v8 w8 o8 g8 l8;have A8:=Aq.kept g8 (fun e=>by have:=(hgF gc (.inl e)).1;omega);have b8:=A8.cell;have f8:=A8.free;(obtain⟨va8,vc8,hv8⟩:=o8.shape);rw[la_,ls_] at hv8;subst hv8;have Hg8:=hh_ g8;clear g8)
   have kq:=Hkq.out;have Gw:wr.grownBy w8 (Value.slice oa us.length oc).ownBlock:=Aa_ (Fs_ kq) Hg8.out
   have hvlo:=fun q hq=>(HR.out.own.lt q hq).2
   have hxlo:=fun q hq=>(Xq.lt q hq)
   have hsq:=kq.size;have hx8:=Xq.kept Hg8.out (fun q hq e=>by have h1:=hvlo q e;have h2:=(hxlo q hq).1;omega)
   have hl8:Lies (.slice oa us.length oc) (.slice va8 (us.length+1) vc8) wr.heap.size:=l8.imp id fun⟨q,h1,h2⟩=>⟨q,h1,lt_ hsq h2⟩
   have hne8:Off (ownF (SlR.v ⟨a4,row.length,c4⟩)) (ownF (.slice va8 (us.length+1) vc8)):=fun q hq hq'=>by
    have hq2:=hxlo q hq
    rcases l8 with l8 |⟨y,h1,h2⟩
    ·have:=hvlo q (l8.symm.trans hq');omega
    ·rw[show Value.ownBlock _=some q from hq'] at h1
     cases h1;omega
   have R8:=HR.out.snoc Gw o8 hl8 (x:=⟨a4,row.length,c4⟩) hx8 hne8;have B8:=B.kept Gw (fun e=>by have:=(hgF gb (.inl e)).2;omega);have E8:=E.kept Gw (fun q hq e=>by have h1:=hza q hq;have h2:=hF q (.inl e);omega)
   have hF8:∀i,rowsF (.slice va8 (us.length+1) vc8) (us++[⟨a4,row.length,c4⟩]) i→N2≤i:=fun i hi=>by
    rcases hi with hi |⟨u,hu,hi⟩
    ·rcases lies_new hl8 i hi with h1|h1
     ·exact hF i (.inl h1)
     ·omega
    ·rcases ma_ hu with hu|hu
     ·exact hF i (.inr ⟨u,hu,hi⟩)
     ·rw[ms_ hu] at hi
      have hq2:=(hxlo i hi).1
      omega
   have hg9:w8.grownBy (w8.setCell ⟨gc,3,none⟩ (.slice va8 (us.length+1) vc8)) (some gc):=Ac_ (Ab_ _ _) _ _;have A9:=A8.set_ 3 (.slice va8 (us.length+1) vc8) (cs':=#[.int .u64 X.sum,.slice az EZ.length cz2,.int .u64 X.T.base,.slice va8 (us.length+1) vc8]) rfl;have B9:=B8.kept hg9 (fun e=>by cases e;omega);have E9:=E8.kept hg9 (fun q hq e=>by cases e;have:=(hza gc hq).1;omega)
   have R9:=R8.keptS (GrownS.of (S:=oneF gc) hg9 fun q e=>by cases e;exact rfl) fun i hi hig=>by have:=hF8 i hi;have:i=gc:=hig;omega
   have hgw:w.grownBy w8 none:=by
    cases hv :(Value.slice oa us.length oc).ownBlock with
    | none=>rw[hv] at Gw;exact Aa_ hg Gw
    | some q=>rw[hv] at Gw;exact Af_ hg Gw (by have:=hF q (.inl hv);omega)
   have hsz8:=Gw.size;have hsz9:=hg9.size;have hF9:=hh_ (And.intro A9 (And.intro B9 (And.intro E9 (And.intro R9 (And.intro hF8 (And.intro (Af_ hgw hg9 hwc) (show N2≤(w8.setCell ⟨gc,3,none⟩ (.slice va8 (us.length+1) vc8)).heap.size by omega)))))));clear A9 B9 E9 R9 hF8 hgw hg9 R8 B8 E8 hne8 hx8 hl8 Gw A8 b8 f8 hsz8 hsz9 Aq Sq Xq Oq kq HA HR Hkq Hg8 hvlo hxlo;generalize w8.setCell ⟨gc,3,none⟩ (.slice va8 (us.length+1) vc8)=w9 at *
   go_wp2_with fail
   exact⟨⟨k+1,_,_,by omega,by go_num,hF9.out.1,hF9.out.2.1,hF9.out.2.2.1,by rw[HTK.out];exact hF9.out.2.2.2.1,hF9.out.2.2.2.2.1,hF9.out.2.2.2.2.2.1,hF9.out.2.2.2.2.2.2⟩,by simp[RowKit.intOf];omega⟩
  ·obtain rfl:k=vs.length:=by omega
   have hkd:¬(((vs.length:Nat):Int)<c.Depth):=by omega
   have hke:X.rows.take vs.length=X.rows:=tk_ (by omega);rw[hke] at R;have HF:=hh_ (And.intro E (And.intro R (And.intro hF (And.intro hg hz))));obtain⟨oa,oc,hov⟩:=R.own.shape;subst hov;have ca:=A.cell;have cb:=B.cell;have fb:=B.free;have hgb9:wr.grownBy ((((wr.setCell ⟨gb,0,none⟩ (.int .u64 X.sum)).setCell ⟨gb,1,none⟩ (.slice az EZ.length cz2)).setCell ⟨gb,2,none⟩ (.int .u64 X.T.base)).setCell ⟨gb,3,none⟩ (.slice oa us.length oc)) (some gb):=Ac_ (Ac_ (Ac_ (Ac_ (Ab_ _ _) _ _) _ _) _ _) _ _;have hB9:Blk ((((wr.setCell ⟨gb,0,none⟩ (.int .u64 X.sum)).setCell ⟨gb,1,none⟩ (.slice az EZ.length cz2)).setCell ⟨gb,2,none⟩ (.int .u64 X.T.base)).setCell ⟨gb,3,none⟩ (.slice oa us.length oc)) gb #[.int .u64 X.sum,.slice az EZ.length cz2,.int .u64 X.T.base,.slice oa us.length oc]:=(((B.set_ 0 _ rfl).set_ 1 _ rfl).set_ 2 _ rfl).set_ 3 _ rfl;clear E R hF hg hz A B hke
   go_wp2_with fail
   generalize (((wr.setCell _ _).setCell _ _).setCell _ _).setCell _ _=wz at *;have rc:=hB9.cell;refine bodyPost_ret (v:=.agg #[.int .u64 X.sum,.slice az EZ.length cz2,.int .u64 X.T.base,.slice oa us.length oc]) (by simp[results,results94,go_sem,rc]) rfl ?_;obtain⟨E,R,hF,hg,hz⟩:=HF.out;refine⟨_,_,us,rfl,⟨by rw[←HEZ.out];exact E.kept hgb9 (fun q hq e=>by cases e;have:=(hza gb hq).1;omega),R.keptS (GrownS.of (S:=oneF gb) hgb9 fun q e=>by cases e;exact rfl) (fun i hi hig=>by have:=hF i hi;have:i=gb:=hig;omega),fun i hi=>by have:=hF i hi;omega⟩,Af_ hg hgb9 (by omega)⟩
end
section
open Go.RowKit Go.Sort
theorem Nq_ (B g:Nat) (l:List UInt8) (e:Int) (w:World) (h:Rdr B w g l e) :
  Calls prog 116 #[.pointer (some ⟨g,0,none⟩)] w (NumP B g w (weiF l e)):=by
 obtain⟨a,c,hb,hr,hlc,hab⟩:=h.ex;have hgB:=h.hg;have hbl:=hb.cell
 by_cases he:e≠0
 ·have hF:=hh_ (show weiF l e =(0,l,e) from if_pos he)
  have he2 :(e != 0)=true:=by simp[he]
  have H:=hh_ h;clear h hr he hb
  go_enter func116,ntmps116
  go_wp2
  go_ret
  exact⟨by rw[hF.out];rfl,by rw[hF.out];exact H.out,Ab_ _ _⟩
 ·obtain rfl:e=0:=by omega
  have C:=hh_ (O1_ _ l w hr);have hu:=Gk_ l;have hw:=Fc_ l;have HE:=hh_ (N1_ l);have HN:=hh_ (show weiF l 0=if (readF l).2.2≠0 then (0,l,(readF l).2.2) else if 18446744073709551615<(readF l).1 then (0,l.drop (readF l).2.1,1) else ((readF l).1,l.drop (readF l).2.1,0) from if_neg he);have HR:=hh_ hr;have HB:=hh_ hb;have HA:=hh_ hab;have H:=hh_ h;clear h hr he hb hab;obtain⟨n,u,f,hF⟩:∃n u f,readF l =(n,u,f):=⟨_,_,_,rfl⟩;rw[hF] at C hu hw HE HN;clear hF;dsimp only at hu hw
  have hu0 :(0:Int)≤(u:Int):=by omega
  have hu1 :(u:Int)≤(c:Int):=by omega
  have hu2 :(u:Int)≤(l.length:Int):=by omega
  have hl2 :(l.length:Int)≤(c:Int):=by omega
  go_enter func116,ntmps116
  go_upto_region 4 with(go_at_call 81;refine C.out.mono ?_;rintro en w1 ⟨rfl,g1⟩)
  clear hbl;have HB1:=HB.out.same g1;have H1:=H.out.same g1;have hfr:=HB1.free;have hbl:=HB1.cell;obtain⟨R2,g2⟩:=Rdr.setB HB1 (HR.out.same g1) hlc HA.out hgB hu;have R3:=hh_ (H1.setE f);have R4:=hh_ R2;have KW:=hh_ (Aa_ (Ak_ g1 (some g)) g2);have G1:=hh_ g1;clear HB1 H1 H HB HR HA R2 g2 g1
  by_cases hf:f=0
  ·subst hf
   have HF:=hh_ (HN.out.trans ((if_neg (by simp)).trans (if_neg (by omega))));clear HN HE C R3
   go_wp2_with fail
   ·go_ret
    have r4:=R4.out;have kw:=KW.out;rw[if_pos h,show c-u=0 by omega] at r4 kw;exact⟨by rw[HF.out];rfl,by rw[HF.out];exact r4,kw⟩
   ·go_ret
    have r4:=R4.out;have kw:=KW.out;rw[if_neg h] at r4 kw;exact⟨by rw[HF.out];rfl,by rw[HF.out];exact r4,kw⟩
  ·have hf1 :(f != 0)=true:=by simp[hf]
   have HF:=hh_ (HN.out.trans (if_pos hf));clear HN HE hf C R4 KW
   go_wp2_with fail
   go_ret
   exact⟨by rw[HF.out];rfl,by rw[HF.out];exact R3.out.1,Aa_ (Ak_ G1.out (some g)) R3.out.2⟩
def UpP (B g:Nat) (w:World) (F:Nat×List UInt8×Int) (en:Ending) (w':World):Prop:=
 en=.returned (.int .i64 F.1)∧Rdr B w' g F.2.1 F.2.2∧w.grownBy w' (some g)
theorem Zb_ {most:Nat} {over:Int} {l:List UInt8} {e:Int}:numF most over l e=if (weiF l e).2.2≠0 then (0,(weiF l e).2.1,(weiF l e).2.2) else if most<(weiF l e).1 then (0,(weiF l e).2.1,over) else weiF l e:=by
 have hw:=Fc_ l;unfold weiF numF
 by_cases h1:e≠0
 ·rw[if_pos h1,if_pos h1];simp[h1]
 rw[if_neg h1,if_neg h1]
 by_cases h2 :(readF l).2.2≠0
 ·rw[if_pos h2,if_pos h2];simp[h2]
 rw[if_neg h2,if_neg h2,if_neg (show ¬18446744073709551615<(readF l).1 by omega)]
 simp
theorem Oi_ (B g most:Nat) (over:Int) (l:List UInt8) (e:Int) (w:World) (h:Rdr B w g l e) (hm:most<9223372036854775808) (ho:0<over) :
  Calls prog 115 #[.pointer (some ⟨g,0,none⟩),.int .u64 most,.int .i64 over] w (UpP B g w (numF most over l e)):=by
 have C:=hh_ (Nq_ B g l e w h);have HN:=hh_ (Zb_ (most:=most) (over:=over) (l:=l) (e:=e));clear h;obtain⟨n,r,f,hF⟩:∃n r f,weiF l e =(n,r,f):=⟨_,_,_,rfl⟩;rw[hF] at C HN;clear hF
 go_enter func115,ntmps115
 go_upto_region 2 with(go_at_call 116;refine C.out.mono ?_;rintro en w1 ⟨rfl,R,g1⟩)
 have R3:=hh_ (R.setE over);have R4:=hh_ R;have KW:=hh_ g1;obtain⟨a,c,hb,-,-,-⟩:=R.ex;have hbl:=hb.cell;have hfr:=hb.free;clear R hb g1 C
 by_cases hf:f=0
 ·subst hf
  by_cases hn:most<n
  ·have hn2 :(most:Int)<(n:Int):=by omega
   have HF:=hh_ (HN.out.trans ((if_neg (by simp)).trans (if_pos hn)))
   have ho2 :(over != 0)=true:=by simp;omega
   clear HN hn
   go_wp2_with fail
   go_ret
   exact⟨by rw[HF.out];rfl,by rw[HF.out];exact R3.out.1,Aa_ KW.out R3.out.2⟩
  ·have hn2 :(n:Int)≤(most:Int):=by omega
   have HF:=hh_ (HN.out.trans ((if_neg (by simp)).trans (if_neg hn)));have hwr:IntKind.i64.wrap (n:Int) =(n:Int):=IntWalk.i64_in _ (by omega);clear HN hn R3
   go_wp2_with fail
   go_ret
   exact⟨by rw[HF.out];rfl,by rw[HF.out];exact R4.out,KW.out⟩
 ·have hf1 :(f != 0)=true:=by simp[hf]
  have hf2 :(f==0)=false:=by simp[hf]
  have HF:=hh_ (HN.out.trans (if_pos hf));clear HN hf R3
  go_wp2_with fail
  go_ret
  exact⟨by rw[HF.out];rfl,by rw[HF.out];exact R4.out,KW.out⟩
def il_ (B g:Nat) (w:World) (F:List UInt8×List UInt8×Int) (en:Ending) (w':World):Prop:=
 en=.returned (.string ⟨F.1.toArray⟩)∧Rdr B w' g F.2.1 F.2.2∧w.grownBy w' (some g)
theorem Qq_ (B g most:Nat) (l:List UInt8) (e:Int) (w:World) (h:Rdr B w g l e) (hm:most<4611686018427387904) :
  Calls prog 117 #[.pointer (some ⟨g,0,none⟩),.int .u64 most] w (il_ B g w (textD most l e)):=by
 have C:=hh_ (Oi_ B g most 4 l e w h (by omega) (by omega));have HN:=hh_ (show textD most l e=if (numF most 4 l e).2.2≠0 then ([],(numF most 4 l e).2.1,(numF most 4 l e).2.2) else if (numF most 4 l e).2.1.length<(numF most 4 l e).1 then ([],(numF most 4 l e).2.1,2) else ((numF most 4 l e).2.1.take (numF most 4 l e).1,(numF most 4 l e).2.1.drop (numF most 4 l e).1,0) from rfl);have hw:=(Xi_ (most:=most) (over:=4) (l:=l) (e:=e)).2;clear h;obtain⟨n,r,f,hF⟩:∃n r f,numF most 4 l e =(n,r,f):=⟨_,_,_,rfl⟩;rw[hF] at C HN hw;clear hF;dsimp only at hw
 go_enter func117,ntmps117
 go_upto_region 2 with(go_at_call 115;refine C.out.mono ?_;rintro en w1 ⟨rfl,R,g1⟩)
 have R2:=hh_ (R.setE 2);have R4:=hh_ R;have KW:=hh_ g1;obtain⟨a,c,hb,hr,hlc,hab⟩:=R.ex;have hgB:=R.hg;have hbl:=hb.cell;have hfr:=hb.free;have HB:=hh_ hb;have HR:=hh_ hr;have HA:=hh_ hab;clear R hb g1 C hr hab
 by_cases hf:f=0
 ·subst hf
  by_cases hn:r.length<n
  ·have hn2 :(r.length:Int)<(n:Int):=by omega
   have HF:=hh_ (HN.out.trans ((if_neg (by simp)).trans (if_pos hn)));clear HN hn R4 HB HR HA
   go_wp2_with fail
   go_ret
   exact⟨by rw[HF.out];rfl,by rw[HF.out];exact R2.out.1,Aa_ KW.out R2.out.2⟩
  ·have hn2 :(n:Int)≤(r.length:Int):=by omega
   have hn3 :(n:Int)≤(c:Int):=by omega
   have hn0 :(0:Int)≤(n:Int):=by omega
   have hlc2 :(r.length:Int)≤(c:Int):=by omega
   have HF:=hh_ (HN.out.trans ((if_neg (by simp)).trans (if_neg hn)));have hcv:=X6_ (RdL.take Bv_ HR.out (k:=n) (by omega) c);obtain⟨R5,g2⟩:=Rdr.setB HB.out HR.out hlc HA.out hgB (k:=n) (by omega);have HR5:=hh_ R5;have HG2:=hh_ g2;have HHn:=hh_ hn;clear HN R2 R4 HB HR HA R5 g2 hn
   go_wp2_with fail
   ·go_ret
    have r4:=HR5.out;have kw:=HG2.out;rw[if_pos h,show c-n=0 by omega] at r4 kw;exact⟨by rw[HF.out];rfl,by rw[HF.out];exact r4,Aa_ KW.out kw⟩
   ·go_ret
    have r4:=HR5.out;have kw:=HG2.out;rw[if_neg h] at r4 kw;exact⟨by rw[HF.out];rfl,by rw[HF.out];exact r4,Aa_ KW.out kw⟩
 ·have hf1 :(f != 0)=true:=by simp[hf]
  have hf2 :(f==0)=false:=by simp[hf]
  have HF:=hh_ (HN.out.trans (if_pos hf));clear HN hf R2 HB HR HA
  go_wp2_with fail
  go_ret
  exact⟨by rw[HF.out];rfl,by rw[HF.out];exact R4.out,KW.out⟩
theorem Yf_:OneF wordF:=by intro x u hu;simp[wordF] at hu;subst hu;rfl
theorem as_:Elt 24 22 (.int .u64 0) 1 8:=⟨underlying24,by kernel_rfl,rfl,by decide⟩
def subF (a b:Int):Int:=if a<b then 0 else a-b
def hiMax (l:List Ln) (un:Int):Int:=(l.map (·.hi)).foldl max un
def CapOk (v:Value):Prop:=∀a n c,v=.slice a n c→n≤c
theorem Own.capOk {α:Type} {f:α→List Value} {s:Nat} {e:TypeId} {B:Nat} {v:Value} {l:List α} (h:Own f s e B w v l):CapOk v:=by
 intro a n c hv;obtain⟨a',c',hv'⟩:=h.shape;rw[hv'] at hv;cases hv;exact(hv'▸h:Own f s e B w (.slice a l.length c) l).cap
def From (lo:Nat) (v:Value):Prop:=∀a n c,v=.slice (some a) n c→lo≤a.block
theorem Own.from_ {α:Type} {f:α→List Value} {s:Nat} {e:TypeId} {B:Nat} {v:Value} {l:List α} (h:Own f s e B w v l):From B v:=by
 intro a n c hv
 rcases h.2 with⟨rfl,_⟩ |⟨g,cap,cur,rfl,hb,_⟩
 ·cases hv
 ·cases hv;exact hb
theorem RdL.keptFrom {α:Type} {f:α→List Value} {s:Nat} {v:Value} {l:List α} {lo b:Nat} (h:RdL f s w v l) (hf:From lo v) (hg:w.grownBy w' (some b)) (hb:b<lo):RdL f s w' v l:=
 Rd.kept h hg fun k e a n c hv=>by cases e;have:=hf a n c hv;omega
theorem From.le {lo lo':Nat} {v:Value} (h:From lo v) (hl:lo'≤lo):From lo' v:=fun a n c hv=>lt_ hl (h a n c hv)
def selN (k:Int) (l:List Ln):Nat:=min k.toNat l.length
def SelPost (k:Int) (l:List Ln) (w:World) (e:Ending) (w':World):Prop:=
 ∃v1 v2,e=.returned (.tuple #[v1,v2])∧RdL lnF 3 w' v1 ((sortLn l).take (selN k l))∧RdL lnF 3 w' v2 ((sortLn l).drop (selN k l))∧CapOk v1∧From w.heap.size v1∧From w.heap.size v2∧w.grownBy w' none
end
section
open Go.RowKit Go.Sort
structure EvT (B g bx:Nat) (w0:World) (vt:Value) (tm wt:Int) (tags:List TagR) (l:List UInt8) (e:Int) (w:World):Prop where
 res:Blk w B #[.slice none 0 0,.int .i64 0,.int .u64 0]
 box:Blk w bx #[vt,.int .i64 tm,.int .u64 wt]
 rdr:Rdr B w g l e
 ot:Own tagF 2 53 (bx+1) w vt tags
 G:w0.grownBy w none
 hB:w0.heap.size=B
 hg:B<g
 hb:g<bx
section
variable {B g bx:Nat} {w0 w w':World} {vt:Value} {tm wt:Int} {tags:List TagR} {l l':List UInt8} {e e':Int}
theorem EvT.call (h:EvT B g bx w0 vt tm wt tags l e w) (hr:Rdr B w' g l' e') (hg:w.grownBy w' (some g)):EvT B g bx w0 vt tm wt tags l' e' w':=by
 have h1:=h.hB;have h2:=h.hg;have h3:=h.hb;exact⟨h.res.kept hg (by simp;omega),h.box.kept hg (by simp;omega),hr,h.ot.kept hg (fun k hk e=>by cases e;have:=(h.ot.lt _ hk).1;omega),Af_ h.G hg (by omega),h1,h2,h3⟩
theorem EvT.same (h:EvT B g bx w0 vt tm wt tags l e w) (hg:w.grownBy w' none):EvT B g bx w0 vt tm wt tags l e w':=
 ⟨h.res.same hg,h.box.same hg,h.rdr.same hg,h.ot.same hg,Aa_ h.G hg,h.hB,h.hg,h.hb⟩
theorem EvT.set (h:EvT B g bx w0 vt tm wt tags l e w) (tm' wt':Int) (i:Nat) (v:Value) (he :(#[vt,.int .i64 tm,.int .u64 wt]:Array Value).setIfInBounds i v=#[vt,.int .i64 tm',.int .u64 wt']):EvT B g bx w0 vt tm' wt' tags l e (w.setCell ⟨bx,i,none⟩ v):=by
 have h1:=h.hB;have h2:=h.hg;have h3:=h.hb;have hg:w.grownBy (w.setCell ⟨bx,i,none⟩ v) (some bx):=Ac_ (Ab_ w (some bx)) i v;exact⟨h.res.kept hg (by simp;omega),h.box.set_ i v he,h.rdr.kept hg (by simp;omega) (fun k e=>by cases e;omega),h.ot.kept hg (fun k hk e=>by cases e;have:=(h.ot.lt _ hk).1;omega),Af_ h.G hg (by omega),h1,h2,h3⟩
theorem EvT.other {q:Nat} (h:EvT B g bx w0 vt tm wt tags l e w) (hg:w.grownBy w' (some q)) (hq:bx<q) (ho:∀k,vt.ownBlock=some k→k<q):EvT B g bx w0 vt tm wt tags l e w':=by
 have h1:=h.hB;have h2:=h.hg;have h3:=h.hb;exact⟨h.res.kept hg (by simp;omega),h.box.kept hg (by simp;omega),h.rdr.kept hg (by simp;omega) (fun k e=>by cases e;omega),h.ot.kept hg (fun k hk e=>by cases e;have:=ho _ hk;omega),Af_ h.G hg (by omega),h1,h2,h3⟩
theorem EvT.app (h:EvT B g bx w0 vt tm wt tags l e w) {v':Value} {ls':List TagR} (o':Own tagF 2 53 (bx+1) w' v' ls') (hg:w.grownBy w' vt.ownBlock) :
  Blk w' bx #[vt,.int .i64 tm,.int .u64 wt]∧EvT B g bx w0 v' tm wt ls' l e (w'.setCell ⟨bx,0,none⟩ v'):=by
 have h1:=h.hB;have h2:=h.hg;have h3:=h.hb
 have hlo:∀k,vt.ownBlock=some k→bx+1≤k:=fun k hk=>(h.ot.lt k hk).1
 have hb:=h.box.kept hg (fun e=>by have:=hlo _ e;omega);refine⟨hb,?_⟩;have hs:w'.grownBy (w'.setCell ⟨bx,0,none⟩ v') (some bx):=Ac_ (Ab_ w' (some bx)) 0 v'
 exact⟨(h.res.kept hg (fun e=>by have:=hlo _ e;omega)).kept hs (by simp;omega),hb.set_ 0 v' rfl,(h.rdr.kept hg (fun e=>by have:=hlo _ e;omega) (fun k hk=>by have:=hlo _ hk;omega)).kept hs (by simp;omega) (fun k e=>by cases e;omega),
  o'.kept hs (fun k hk e=>by cases e;have:=(o'.lt _ hk).1;omega),Af_ (Aq_ h.G h.ot (by omega) hg) hs (by omega),h1,h2,h3⟩
end
def EvdP (l:List UInt8) (w:World) (en:Ending) (w':World):Prop:=
 (if rawX l=0 then ∃vt,en=.returned (.tuple #[.agg #[vt,.int .i64 (rawE l).1.time,.int .u64 (rawE l).1.weight],.int .i64 (l.length-(rawE l).2.1.length:Nat),.int .i64 0])∧RdL tagF 2 w' vt (rawE l).1.tags
 else en=.returned (.tuple #[.agg #[.slice none 0 0,.int .i64 0,.int .u64 0],.int .i64 0,.int .i64 (rawX l)]))∧w.grownBy w' none
theorem fa_ (v:Value) (l:List UInt8) (w:World) (h:RdL byF 1 w v l) (hc:∀a n c,v=.slice a n c→n≤c) (hl:l.length≤1000000):Calls prog 82 #[v] w (EvdP l w):=by
 obtain⟨a,c,rfl⟩:=h.shape;have hlc:=hc _ _ _ rfl;obtain⟨n1,l1,e1,X1⟩:∃n r e,numF 1099511627776 1 l 0 =(n,r,e):=⟨_,_,_,rfl⟩;obtain⟨n2,l2,e2,X2⟩:∃n r e,weiF l1 e1 =(n,r,e):=⟨_,_,_,rfl⟩;obtain⟨n3,l3,e3,X3⟩:∃n r e,numF 8 5 l2 e2 =(n,r,e):=⟨_,_,_,rfl⟩;have HD:=hh_ (show rawE l =(⟨n1,n2,(tagsD n3 l3 e3).1⟩,(tagsD n3 l3 e3).2) by unfold rawE;simp only[X1,X2,X3]);have HX:=hh_ (show rawX l =(tagsD n3 l3 e3).2.2 by unfold rawX;rw[HD.out]);have hleft:=hh_ (Ni_ l)
 have C1:=hh_ fun(g:Nat) w' (h:Rdr w.heap.size w' g l 0)=>X1▸Oi_ w.heap.size g 1099511627776 1 l 0 w' h (by omega) (by omega)
 have C2:=hh_ fun(g:Nat) w' (h:Rdr w.heap.size w' g l1 e1)=>X2▸Nq_ w.heap.size g l1 e1 w' h
 have C3:=hh_ fun(g:Nat) w' (h:Rdr w.heap.size w' g l2 e2)=>X3▸Oi_ w.heap.size g 8 5 l2 e2 w' h (by omega) (by omega)
 have hn1:n1≤1099511627776:=by have:=(Xi_ (most:=1099511627776) (over:=1) (l:=l) (e:=0)).2;rw[X1] at this;exact this
 have hn3:n3≤8:=by have:=(Xi_ (most:=8) (over:=5) (l:=l2) (e:=e2)).2;rw[X3] at this;exact this
 clear X1 X2 X3;have H:=hh_ h;clear h hc
 go_enter func82,ntmps82
 go_upto_region 1 with fail
 have Aa:=Blk.new w #[.slice none 0 0,.int .i64 0,.int .u64 0] 164;have ga:=ga_ w (.cells #[.slice none 0 0,.int .i64 0,.int .u64 0] 164) none
 have za:w.heap.size<(w.alloc (.cells #[.slice none 0 0,.int .i64 0,.int .u64 0] 164)).heap.size:=by simp
 generalize w.alloc _=wa at *
 go_upto_region 2 with fail
 have Bb:=Blk.new wa #[.slice a l.length c,.int .i64 0] 200;have gb:=ga_ wa (.cells #[.slice a l.length c,.int .i64 0] 200) none
 have zb:wa.heap.size<(wa.alloc (.cells #[.slice a l.length c,.int .i64 0] 200)).heap.size:=by simp
 generalize wa.alloc _=wb at *;generalize wa.heap.size=g at *
 go_upto_region 3 with fail
 have Ac:=Blk.new wb #[.slice none 0 0,.int .i64 0,.int .u64 0] 164;have gc:=ga_ wb (.cells #[.slice none 0 0,.int .i64 0,.int .u64 0] 164) none
 have D0:=hh_ (show EvT w.heap.size g wb.heap.size w (.slice none 0 0) 0 0 [] l 0 _ from
  ⟨(Aa.same gb).same gc,Ac,(Rdr.new H.out hlc Bb (Aa_ ga gb) (by omega)).same gc,Own.nil _ _ _ _ _,Aa_ (Aa_ ga gb) gc,rfl,za,zb⟩)
 clear Aa ga za Bb gb zb Ac gc H;generalize wb.alloc _=wc at *;generalize wb.heap.size=bx at *
 go_upto_region 4 with(go_at_call 115;refine(C1.out _ _ D0.out.rdr).mono ?_;rintro en wx ⟨rfl,Rx,gx⟩;have Dx:=D0.out.call Rx gx;have ac:=Dx.box.cell;have af:=Dx.box.free)
 have D1:=hh_ (Dx.set n1 0 1 (.int .i64 n1) rfl);clear Dx Rx gx ac af C1 D0;generalize wx.setCell ⟨bx,1,none⟩ (.int .i64 n1)=w1 at *;clear wx
 go_upto_region 5 with(go_at_call 116;refine(C2.out _ _ D1.out.rdr).mono ?_;rintro en wx ⟨rfl,Rx,gx⟩;have Dx:=D1.out.call Rx gx;have ac:=Dx.box.cell;have af:=Dx.box.free)
 have D2:=hh_ (Dx.set n1 n2 2 (.int .u64 n2) rfl);clear Dx Rx gx ac af C2 D1;generalize wx.setCell ⟨bx,2,none⟩ (.int .u64 n2)=w2 at *;clear wx
 go_upto_region 6 with(go_at_call 115;refine(C3.out _ _ D2.out.rdr).mono ?_;rintro en w3 ⟨rfl,Rx,gx⟩)
 have D3:=hh_ (D2.out.call Rx gx);clear Rx gx D2 C3
 go_loopw [7] (fun s7 wk=>∃(j:Nat) (vt:Value),j≤n3∧s7=.int .i64 ((n3:Int)-j)∧EvT w.heap.size g bx w vt n1 n2 (tagsD j l3 e3).1 (tagsD j l3 e3).2.1 (tagsD j l3 e3).2.2 wk) (fun s7 _=>(RowKit.intOf s7).toNat)
 case atStart=>exact⟨0,_,by omega,by go_num,D3.out⟩
 case round=>
  clear D3;obtain⟨j,vt,hj,rfl,hD⟩:=hrel;have HDk:=hh_ hD;clear hD
  by_cases hlt:j<n3
  ·have hlen:=Yo_ j l3 e3
   have HS:=hh_ (show((tagsD j l3 e3).1++[(tagD (tagsD j l3 e3).2.1 (tagsD j l3 e3).2.2).1],(tagD (tagsD j l3 e3).2.1 (tagsD j l3 e3).2.2).2)=tagsD (j+1) l3 e3 from rfl);generalize tagsD j l3 e3=TD at *;obtain⟨nm,la,ea,Xa⟩:∃n r e,textD 4096 TD.2.1 TD.2.2 =(n,r,e):=⟨_,_,_,rfl⟩;obtain⟨vl,lb,eb,Xb⟩:∃n r e,textD 4096 la ea =(n,r,e):=⟨_,_,_,rfl⟩;have HL:=hh_ (show tagD TD.2.1 TD.2.2 =(⟨⟨nm.toArray⟩,⟨vl.toArray⟩⟩,lb,eb) by unfold tagD;simp only[Xa,Xb])
   have Ca:=hh_ fun w' (h:Rdr w.heap.size w' g TD.2.1 TD.2.2)=>Xa▸Qq_ w.heap.size g 4096 _ _ w' h (by omega)
   have Cb:=hh_ fun w' (h:Rdr w.heap.size w' g la ea)=>Xb▸Qq_ w.heap.size g 4096 _ _ w' h (by omega)
   clear Xa Xb
   have hj1 :(0:Int)<(n3:Int)-(j:Int):=by omega
   have hb3 :(TD.1.length+1)*32≤140737488355328:=by omega
   have hb4:TD.1.length+1≤9223372036854775807:=by omega
   have Hlen:=hh_ hlen;clear hlen
   go_upto_region 9 with fail
   have by0:bx<wr.heap.size:=HDk.out.box.lt
   have ol0:∀q,vt.ownBlock=some q→q<wr.heap.size:=fun q hq=>(HDk.out.ot.lt q hq).2
   have Ay:=hh_ (Blk.new wr #[.string ⟨#[]⟩,.string ⟨#[]⟩] 53);have Dy:=hh_ (HDk.out.same (ga_ wr (.cells #[.string ⟨#[]⟩,.string ⟨#[]⟩] 53) none));generalize wr.alloc _=wy at *;generalize wr.heap.size=by' at *;have hgb:g<bx:=HDk.out.hb;clear HDk
   go_upto_region 10 with(go_at_call 117;refine(Ca.out _ Dy.out.rdr).mono ?_;rintro en wx ⟨rfl,Rx,gx⟩;have Dx:=Dy.out.call Rx gx;have Ax:=Ay.out.kept gx (by simp;omega);have ac:=Ax.cell;have af:=Ax.free)
   have g1:wx.grownBy (wx.setCell ⟨by',0,none⟩ (.string ⟨nm.toArray⟩)) (some by'):=Ac_ (Ab_ wx (some by')) 0 _;have D1:=hh_ (Dx.other g1 by0 ol0);have A1:=hh_ (Ax.set_ 0 (.string ⟨nm.toArray⟩) rfl);clear Dx Ax ac af Rx gx g1 Dy Ay Ca;generalize wx.setCell ⟨by',0,none⟩ (.string ⟨nm.toArray⟩)=z1 at *;clear wx
   go_upto_region 11 with(go_at_call 117;refine(Cb.out _ D1.out.rdr).mono ?_;rintro en wx ⟨rfl,Rx,gx⟩;have Dx:=D1.out.call Rx gx;have Ax:=A1.out.kept gx (by simp;omega);have ac:=Ax.cell;have af:=Ax.free)
   have g1:wx.grownBy (wx.setCell ⟨by',1,none⟩ (.string ⟨vl.toArray⟩)) (some by'):=Ac_ (Ab_ wx (some by')) 1 _;have D2:=hh_ (Dx.other g1 by0 ol0);have A2:=(Ax.set_ 1 (.string ⟨vl.toArray⟩) rfl).cell;clear Dx Ax ac af Rx gx g1 D1 A1 Cb;generalize wx.setCell ⟨by',1,none⟩ (.string ⟨vl.toArray⟩)=z2 at *;clear wx;have bq:=D2.out.box.cell;have bqf:=D2.out.box.free;have hbase:bx+1≤z2.heap.size:=D2.out.box.lt;have Hcs:=hh_ (show(#[Value.string ⟨nm.toArray⟩,.string ⟨vl.toArray⟩]:Array Value).toList=tagF ⟨⟨nm.toArray⟩,⟨vl.toArray⟩⟩ from rfl)
   go_wp2_with (at_builtin;refine A9_ Co_ Dc_ Au_ D2.out.ot ⟨⟨nm.toArray⟩,⟨vl.toArray⟩⟩ hb3 hb4 hbase Hcs.out ?_;intro v3 w3 o3 g3 l3;obtain⟨a3,c3,rfl⟩:=o3.shape;obtain⟨b3,D3⟩:=D2.out.app o3 g3;have ac3:=b3.cell;have af3:=b3.free)
   simp only[la_,ls_] at D3;exact⟨⟨j+1,_,by omega,congrArg _ (by omega),by rw[←HS.out,HL.out];exact D3⟩,by simp[RowKit.intOf];omega⟩
  ·obtain rfl:j=n3:=by omega
   clear hlt hj;generalize tagsD j l3 e3=TD at *;obtain⟨TS,lz,ez⟩:=TD;dsimp only at HDk HD HX
   have hjz:¬(0:Int)<(j:Int)-(j:Int):=by omega
   have hjj :(j:Int)-(j:Int)=0:=by omega
   rw[hjj];clear hjj hjz;have hres:=HDk.out.res.cell;have hrf:=HDk.out.res.free;obtain⟨az,cz,hbz,-,-,-⟩:=HDk.out.rdr.ex;have bc:=hbz.cell;have hbx:=HDk.out.box.cell;have HW:=hh_ (HDk.out.ot);have HG:=hh_ HDk.out.G
   have hq:∀(v:Value) (t1 t2:Int) w',w' =((wr.setCell ⟨w.heap.size,0,none⟩ v).setCell ⟨w.heap.size,1,none⟩ (.int .i64 t1)).setCell ⟨w.heap.size,2,none⟩ (.int .u64 t2)→wr.grownBy w' (some w.heap.size):=fun v t1 t2 w' e=>e▸Ac_ (Ac_ (Ac_ (Ab_ _ _) _ _) _ _) _ _
   have HQ:=hh_ hq;clear hq;obtain⟨ta,tcp,rfl⟩:=HDk.out.ot.shape
   have hlt:lz.length≤l.length:=by have:=hleft.out;rw[HD.out] at this;exact this
   have HR:=hh_ HDk.out;have bc0:wr.cell? ⟨g,0,none⟩=some (.slice az lz.length cz):=bc 0;have bc1:wr.cell? ⟨g,1,none⟩=some (.int .i64 ez):=bc 1;have bx0:wr.cell? ⟨bx,0,none⟩=some (.slice ta TS.length tcp):=hbx 0;have bx1:wr.cell? ⟨bx,1,none⟩=some (.int .i64 n1):=hbx 1;have bx2:wr.cell? ⟨bx,2,none⟩=some (.int .u64 n2):=hbx 2;have rs0:wr.cell? ⟨w.heap.size,0,none⟩=some (.slice none 0 0):=hres 0;have rs1:wr.cell? ⟨w.heap.size,1,none⟩=some (.int .i64 0):=hres 1;have rs2:wr.cell? ⟨w.heap.size,2,none⟩=some (.int .u64 0):=hres 2;have rf0:=hrf 0;have rf1:=hrf 1;have rf2:=hrf 2
   have hne1:w.heap.size≠g:=by have:=HDk.out.hg;omega
   have hne2:w.heap.size≠bx:=by have:=HDk.out.hg;have:=HDk.out.hb;omega
   by_cases hz:ez=0
   ·subst hz
    have HX0:=hh_ HX.out
    go_wp2_with fail
    go_region
    go_wp2_with fail
    have rc:=(((HR.out.res.set_ 0 (.slice ta TS.length tcp) rfl).set_ 1 (.int .i64 n1) rfl).set_ 2 (.int .u64 n2) rfl).cell;have g1:=HQ.out (.slice ta TS.length tcp) n1 n2 _ rfl;refine bodyPost_ret (v:=.tuple #[.agg #[.slice ta TS.length tcp,.int .i64 n1,.int .u64 n2],.int .i64 ((l.length:Int)-lz.length),.int .i64 0]) (by simp[results,results82,go_sem,rc]) rfl ?_;have hot:=HW.out.kept g1 (fun k hk e=>by cases e;have:=(HW.out.lt _ hk).1;have:=HR.out.hg;have:=HR.out.hb;omega);refine⟨?_,Aa_ (Af_ HG.out g1 (le_ _)) gw_⟩;rw[if_pos HX0.out,HD.out];exact⟨.slice ta TS.length tcp,by dsimp only;rw[Int.ofNat_sub hlt],(hot.same gw_).rd⟩
   ·have hz1 :(ez==0)=false:=by simp[hz]
    have hz2 :(ez != 0)=true:=by simp[hz]
    have HZ:=hh_ hz;clear hz
    go_wp2_with fail
    go_region
    go_wp2_with fail
    have rc:=(((HR.out.res.set_ 0 (.slice none 0 0) rfl).set_ 1 (.int .i64 0) rfl).set_ 2 (.int .u64 0) rfl).cell;have g1:=HQ.out (.slice none 0 0) 0 0 _ rfl;refine bodyPost_ret (v:=.tuple #[.agg #[.slice none 0 0,.int .i64 0,.int .u64 0],.int .i64 0,.int .i64 ez]) (by simp[results,results82,go_sem,rc]) rfl ?_;refine⟨?_,Aa_ (Af_ HG.out g1 (le_ _)) gw_⟩;rw[if_neg (by rw[HX.out];exact HZ.out),HX.out]
end
section
open Go.RowKit Go.Sort
theorem Ot_ (e:Int) (w:World):Calls prog 84 #[.int .i64 e] w (Pz_ (verE e) w):=by
 go_enter func84,ntmps84
 by_cases h:e=0
 ·subst h
  go_wp2_with fail
  go_ret
  exact⟨rfl,rfl⟩
 ·have h1 :(e==0)=false:=by simp[h]
  by_cases h4:e=4
  ·subst h4
   go_wp2_with fail
   go_ret
   exact⟨rfl,rfl⟩
  ·have h2 :(e==4)=false:=by simp[h4]
   have HV:=hh_ (show verE e=1 by unfold verE;rw[if_neg h,if_neg h4]);clear h h4
   go_wp2_with fail
   go_ret
   exact⟨by rw[HV.out];rfl,rfl⟩
def ItemP (x:RawE) (w:World) (en:Ending) (w':World):Prop:=en=.returned (.tuple #[.agg #[.string (itemR x).key,.int .i64 (itemR x).time,.int .u64 (itemR x).weight],.int .i64 (itemE x)])∧w.grownBy w' none
theorem Tt_ {x:RawE} {E:Int} (h:itemE x=E) (h0:E≠0) (hg:w.grownBy w' none):ItemP x w (.returned (.tuple #[.agg #[.string ⟨#[]⟩,.int .i64 0,.int .u64 0],.int .i64 E])) w':=by
 unfold ItemP itemR;rw[h,if_neg h0];exact⟨rfl,hg⟩
theorem f0_ (vt:Value) (x:RawE) (w:World) (h:RdL tagF 2 w vt x.tags) (hW:∀t∈x.tags,TagW t):Calls prog 83 #[.agg #[vt,.int .i64 x.time,.int .u64 x.weight]] w (ItemP x w):=by
 obtain⟨a,c,rfl⟩:=h.shape;have C:=hh_ (show ∀y,w.grownBy y none→Calls prog 16 #[.slice a x.tags.length c] y (fun e w'=>e=.returned (.tuple #[.string (keyY x.tags),.int .i64 (keyE x.tags)])∧y.grownBy w' none) from fun y q=>Hu_ _ x.tags y (h.same q) hW);have HP:=hh_ (show ∀(E:Int) w',itemE x=E→E≠0→w.grownBy w' none→ItemP x w (.returned (.tuple #[.agg #[.string ⟨#[]⟩,.int .i64 0,.int .u64 0],.int .i64 E])) w' from fun E w' h h0 hg=>Tt_ h h0 hg);have HE:=hh_ (show itemE x=if x.time<0∨1099511627776<x.time∨x.weight<1∨9223372036854775808<x.weight then 1 else keyE x.tags from rfl)
 have HG:=hh_ (show keyE x.tags=0→itemE x=keyE x.tags→∀w',w.grownBy w' none→ItemP x w (.returned (.tuple #[.agg #[.string (keyY x.tags),.int .i64 x.time,.int .u64 x.weight],.int .i64 0])) w' from fun h0 h1 w' hg=>by
  unfold ItemP itemR;rw[h1,h0,if_pos rfl];exact⟨rfl,hg⟩)
 clear h hW;generalize x.tags.length=n at *;generalize keyE x.tags=E at *;generalize keyY x.tags=Y at *;generalize x.time=tm at *;generalize x.weight=wt at *
 go_enter func83,ntmps83
 go_upto_region 1 with fail
 have A1:=Blk.new w #[.slice a n c,.int .i64 tm,.int .u64 wt] 164;have g1:=ga_ w (.cells #[.slice a n c,.int .i64 tm,.int .u64 wt] 164) none;have A2:Blk ((w.alloc (.cells #[.slice a n c,.int .i64 tm,.int .u64 wt] 164)).alloc (.cells #[.string ⟨#[]⟩,.int .i64 0,.int .u64 0] 41)) (w.heap.size+1) #[.string ⟨#[]⟩,.int .i64 0,.int .u64 0]:=Blk.new' _ _ _ (by simp);have g2:=ga_ (w.alloc (.cells #[.slice a n c,.int .i64 tm,.int .u64 wt] 164)) (.cells #[.string ⟨#[]⟩,.int .i64 0,.int .u64 0] 41) none;have B1:=hh_ (A1.same g2);have K:=hh_ (Aa_ g1 g2);have HA2:=hh_ A2;clear A1 g1 g2 A2;generalize (w.alloc _).alloc _=w2 at *;generalize hq1:w.heap.size=q1 at *;have c1:=B1.out.cell;have r1:=HA2.out.cell;have f1:=HA2.out.free
 by_cases p:tm<0∨1099511627776<tm∨wt<1∨9223372036854775808<wt
 ·have HE1:=HE.out.trans (if_pos p)
  have HB:=hh_ (HP.out 1 · HE1 (by omega));clear HE HG C HE1;have hgw:=Af_ K.out (show World.grownBy w2 (((w2.setCell ⟨q1+1,0,none⟩ (.string ⟨#[]⟩)).setCell ⟨q1+1,1,none⟩ (.int .i64 0)).setCell ⟨q1+1,2,none⟩ (.int .u64 0)) (some (q1+1)) from Ac_ (Ac_ (Ac_ (Ab_ _ _) _ _) _ _) _ _) (by omega);have HHg:=hh_ hgw;have rc:=(((HA2.out.set_ 0 (.string ⟨#[]⟩) rfl).set_ 1 (.int .i64 0) rfl).set_ 2 (.int .u64 0) rfl).cell;have Hrc:=hh_ rc;clear rc hgw
  by_cases p1:tm<0
  ·clear p
   go_wp2_with fail
   have rc:=Hrc.out;refine bodyPost_ret (v:=.tuple #[.agg #[.string ⟨#[]⟩,.int .i64 0,.int .u64 0],.int .i64 1]) (by simp[results,results83,go_sem,rc]) rfl ?_;exact HB.out _ HHg.out
  ·have p1':0≤tm:=by omega
   by_cases p2:1099511627776<tm
   ·clear p p1
    go_wp2_with fail
    have rc:=Hrc.out;refine bodyPost_ret (v:=.tuple #[.agg #[.string ⟨#[]⟩,.int .i64 0,.int .u64 0],.int .i64 1]) (by simp[results,results83,go_sem,rc]) rfl ?_;exact HB.out _ HHg.out
   ·have p2':tm≤1099511627776:=by omega
    by_cases p3:wt<1
    ·clear p p1 p2
     go_wp2_with fail
     have rc:=Hrc.out;refine bodyPost_ret (v:=.tuple #[.agg #[.string ⟨#[]⟩,.int .i64 0,.int .u64 0],.int .i64 1]) (by simp[results,results83,go_sem,rc]) rfl ?_;exact HB.out _ HHg.out
    ·have p3':1≤wt:=by omega
     have p4:9223372036854775808<wt:=by omega
     clear p p1 p2 p3
     go_wp2_with fail
     have rc:=Hrc.out;refine bodyPost_ret (v:=.tuple #[.agg #[.string ⟨#[]⟩,.int .i64 0,.int .u64 0],.int .i64 1]) (by simp[results,results83,go_sem,rc]) rfl ?_;exact HB.out _ HHg.out
 ·have p1:0≤tm:=by omega
  have p2:tm≤1099511627776:=by omega
  have p3:1≤wt:=by omega
  have p4:wt≤9223372036854775808:=by omega
  have HE2:=hh_ (HE.out.trans (if_neg p));clear p HE
  go_upto_region 4 with(go_at_call 16;refine(C.out _ K.out).mono ?_;rintro e w3 ⟨rfl,g3⟩)
  have B3:=hh_ (B1.out.same g3);have A3:=hh_ (HA2.out.same g3);have K3:=hh_ (Aa_ K.out g3);clear c1 r1 f1 B1 HA2 K g3 C;have c1:=B3.out.cell;have r1:=A3.out.cell;have f1:=A3.out.free
  by_cases h0:E=0
  ·subst h0
   have HHg:=hh_ (Af_ K3.out (show World.grownBy w3 (((w3.setCell ⟨q1+1,0,none⟩ (.string Y)).setCell ⟨q1+1,1,none⟩ (.int .i64 tm)).setCell ⟨q1+1,2,none⟩ (.int .u64 wt)) (some (q1+1)) from Ac_ (Ac_ (Ac_ (Ab_ _ _) _ _) _ _) _ _) (by omega));have Hrc:=hh_ (((A3.out.set_ 0 (.string Y) rfl).set_ 1 (.int .i64 tm) rfl).set_ 2 (.int .u64 wt) rfl).cell
   go_upto_region 6 with fail
   go_wp2_with fail
   have rc:=Hrc.out;refine bodyPost_ret (v:=.tuple #[.agg #[.string Y,.int .i64 tm,.int .u64 wt],.int .i64 0]) (by simp[results,results83,go_sem,rc]) rfl ?_;exact HG.out (by trivial) HE2.out _ HHg.out
  ·have h1 :(E==0)=false:=by simp[h0]
   have h2 :(E != 0)=true:=by simp[h0]
   have HHg:=hh_ (Af_ K3.out (show World.grownBy w3 (((w3.setCell ⟨q1+1,0,none⟩ (.string ⟨#[]⟩)).setCell ⟨q1+1,1,none⟩ (.int .i64 0)).setCell ⟨q1+1,2,none⟩ (.int .u64 0)) (some (q1+1)) from Ac_ (Ac_ (Ac_ (Ab_ _ _) _ _) _ _) _ _) (by omega));have Hrc:=hh_ (((A3.out.set_ 0 (.string ⟨#[]⟩) rfl).set_ 1 (.int .i64 0) rfl).set_ 2 (.int .u64 0) rfl).cell;have H0:=hh_ h0;clear h0
   go_wp2_with fail
   have rc:=Hrc.out;refine bodyPost_ret (v:=.tuple #[.agg #[.string ⟨#[]⟩,.int .i64 0,.int .u64 0],.int .i64 E]) (by simp[results,results83,go_sem,rc]) rfl ?_;exact HP.out E _ HE2.out H0.out HHg.out
end
end Go.Proofs.YtckmgjmeanloaaaGreat
