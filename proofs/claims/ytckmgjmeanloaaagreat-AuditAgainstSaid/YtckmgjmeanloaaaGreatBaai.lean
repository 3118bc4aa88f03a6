/- Several texts in one file: contracts of functions of the given program, and plain laws, for the proof of a statement. -/
import Derived.Test.YtckmgjmeanloaaaGreatBaah
set_option maxHeartbeats 8000000
set_option maxRecDepth 100000
namespace Go.Proofs.YtckmgjmeanloaaaGreat
open Go.Proofs.Tryz
section
open Go.RowKit Go.Sort
theorem E2_ {c:Cfg} {X:As_} (hok:TierOk c X):∀e∈X.S,W64 e.own∧W64 e.slack∧e.own+e.slack≤mostW:=fun e he=>by
 have h1:=hok.ents.own e he;have h2:=hok.ents.slack e he;have h3:=hok.cnt e he;have h4:=hok.sums;unfold Ent.cnt at h3;exact⟨G1_ (by omega) (by omega),G1_ h2 (by omega),by omega⟩
theorem Re_ (G:RtG) (c:Cfg) (t:List Int) (X:As_) (k:ByteArray) (x:Int) (w:World) (h:RTier w G c t X) (hok:TierOk c X) (hn:Bd_ c) (htl:t.length=16) (hk:0<k.size∧k.size≤255) (hx:1≤x) (hs:X.sum+x≤mostW) (hg:getE X.S k=none) (e:Ent) (hget :(X.T.add k x).get k=some e) :
  Calls Tryz.prog 123 #[.pointer (some ⟨G.g,0,none⟩),.string k,.int .u64 x] w (RTAdd G c t X k x w):=by
 have KK:=hh_ (show TierOk c X∧getE X.S k=none∧(X.T.add k x).get k=some e from⟨hok,hg,hget⟩);have HE:=hh_ (As_.err_ok (X:=X) hk hx hs);have hTok:=hok.tab.add hk hx (show X.T.sum+x≤mostW by have:=hok.sums;omega);have hPair:=hok.pair hk hx hs hg;have H:=hh_ h;have hss:=hok.sums;have hbb:=hok.tab.base;have hmw:mostW=9223372036854775808:=rfl;have hgr:=hok.rows
 have HSK:=hh_ fun y (q:RTier y G c t X)=>Nc_ G.gK G.vr G.vs G.vt t c.Seed c.Depth c.Width X.rows X.sum k x y q.sk hgr hn.depth hn.width htl ⟨hn.seed.1,by have:=hn.seed.2;omega⟩ hk hx (by omega) hs
 obtain⟨X1,hX1⟩:∃X1:As_,X1={ X with rows:=Bp_ t c.Seed k (estF t c.Seed k X.rows+x) X.rows,sum:=X.sum+x }:=⟨_,rfl⟩;have HX1:=hh_ hX1
 have HK1:=hh_ fun y (q:RTier y G c t X1)=>Iy_ G.gS G.vS c.Exact X1.S k y q.sto (by rw[hX1];exact hg)
 have hk2:=Bc_ k;rw[df_ (show ¬k.size=0 by omega)] at hk2
 have hl2:¬(255:Int)<(k.size:Int):=by omega
 have b0:=h.blk.cell;obtain⟨g,gT,vT,gS,vS,gK,vr,vs,vt⟩:=G;dsimp only at *;have hA1:addErr X.T.sum k x=0:=(Jv_.mk hk hx (show X.T.sum+x≤mostW by omega)).err
 have HT:=hh_ fun y (q:RTier y ⟨g,gT,vT,gS,vS,gK,vr,vs,vt⟩ c t X1)=>(U1_ gT vT X1.T k x y q.tab (by rw[hX1];exact hok.tab) hk.2 ⟨by omega,by omega⟩).mono fun e w' hr=>Mk_ q hX1 hA1 hr
 have HG:=hh_ fun v4 y (q:RTier y ⟨g,gT,v4,gS,vS,gK,vr,vs,vt⟩ c t (X.mid c t k x))=>Ev_ gT v4 (X.T.add k x) k e y q.tab hget
 clear h hok hgr hg hX1 hget hA1 hTok hPair
 go_enter func123,ntmps123
 go_upto_region 8 with(go_at_call 156;refine(HSK.out _ H.out).mono ?_;rintro e w1 ⟨rfl,K1,M1⟩)
 have P1:=H.out.setSk K1 M1;rw[←HX1.out] at P1;have HR1:=hh_ P1.1;have HM1:=hh_ P1.2;have b1:=HR1.out.blk.cell;clear b0 K1 M1 P1 HSK
 go_upto_region 9 with(go_at_call 157;refine(HK1.out _ HR1.out).mono ?_;rintro e w2 ⟨rfl,g2⟩)
 obtain⟨A3,G3⟩:=nb_ w2 #[.string ⟨#[]⟩,.int .u64 0,.int .u64 0] 224;generalize w2.alloc _=w3 at *;generalize hgc:w2.heap.size=gc at *;have R3:=(HR1.out.same g2).same G3;have M3:=HM1.out.trans (Mov.same (Aa_ g2 G3));have b3:=R3.blk.cell;have HR3:=hh_ R3;clear b1 A3 R3 HR1 HM1 g2 G3
 go_upto_region 13 with(go_at_call 159;refine(HT.out _ HR3.out).mono ?_;rintro e w4 ⟨rfl,v4,R4,M4⟩)
 have HR4:=hh_ R4;have b4:=R4.blk.cell;have M5:=M3.trans M4;clear b3 R4 M3 M4 HR3
 go_upto_region 14 with(go_at_call 160;refine(HG.out _ _ HR4.out).mono ?_;rintro e w6 ⟨rfl,g6⟩)
 have hFl:∀i,RtG.F ⟨g,gT,v4,gS,vS,gK,vr,vs,vt⟩ i→i<w6.heap.size:=(HR4.out.same g6).low;obtain⟨A7,G7⟩:=nb_ w6 #[.string e.key,.int .u64 e.own,.int .u64 e.slack] 224;generalize w6.alloc _=w7 at *;generalize hgd:w6.heap.size=gd at *;have HFl:=hh_ hFl;clear hFl
 have hgdw:w.heap.size≤gd:=by have h1:=M5.size;have h2:=g6.size;omega
 have R7:=(HR4.out.same g6).same G7;have M7:=M5.trans (Mov.same (Aa_ g6 G7));have b7:=R7.blk.cell;have a7:=A7.cell;clear b4 M5 g6 G7 HR4
 have key :(c.Exact==0)=true∨((c.Exact==0)=false∧decide (e.own<c.Promote)=true)∨((c.Exact==0)=false∧decide (e.own<c.Promote)=false):=by
  cases c.Exact==0 <;> cases decide (e.own<c.Promote) <;> simp
 rcases key with h0d |⟨h0d,hpd⟩ |⟨h0d,hpd⟩
 all_goals
  go_quiet (fail)
  have k8:w7.grownBy (w7.drewN nq) none:=Ae_ (Ab_ w7 none) _;have R8:=R7.same k8;have A8:=A7.same k8;have M8:=M7.trans (Mov.same k8);clear b7 a7 R7 A7 M7 k8;generalize w7.drewN nq=w8 at *;have b8:=R8.blk.cell;have HR8:=hh_ R8;have HM8:=hh_ M8;clear R8 M8
 ·have HR:=hh_ (As_.add_mid (t:=t) hk hx hs KK.out.2.1 (Vc_ (S:=X.S) KK.out.2.2 (.inl (beq_iff_eq.1 h0d))))
  go_wp2_with fail
  go_ret
  exact⟨by rw[HE.out];rfl,_,by rw[HR.out];exact HR8.out,HM8.out,rfl⟩
 ·have HR:=hh_ (As_.add_mid (t:=t) hk hx hs KK.out.2.1 (Vc_ (S:=X.S) KK.out.2.2 (.inr (of_decide_eq_true hpd))))
  go_wp2_with fail
  go_ret
  exact⟨by rw[HE.out];rfl,_,by rw[HR.out];exact HR8.out,HM8.out,rfl⟩
 have hst:¬(c.Exact=0∨e.own<c.Promote):=fun h=>h.elim (beq_eq_false_iff_ne.1 h0d) (of_decide_eq_false hpd)
 obtain⟨hok,hg,hget⟩:=KK.out;have hTok:=hok.tab.add hk hx (show X.T.sum+x≤mostW by have:=hok.sums;omega);have hPair:=hok.pair hk hx hs hg
 by_cases hl :(X.S.length:Int)=c.Exact
 ·cases hy:lastMin X.S with
  | none=>
   have:=Ln_.1 hy
   rw[this] at hl
   have:=hn.exact
   simp at hl;omega
  | some y=>
   by_cases hle:e.own≤y.cnt
   ·have HR:=hh_ (As_.add_mid (t:=t) hk hx hs hg (dj_ (S:=X.S) hget hst hl hy hle))
    have HFu:=hh_ fun z (q:RSto z gS vS c.Exact X.S)=>F6_ gS vS c.Exact X.S z q
    rw[dt_ hl] at HFu;have hex:=hn.exact
    have HL:=hh_ fun z (q:RSto z gS vS c.Exact X.S)=>Lm_ gS vS c.Exact X.S y z q (by omega) hy (E2_ hok)
    obtain⟨⟨y1,y2⟩,⟨y3,y4⟩,y5⟩:=E2_ hok y (Cg_ hy);unfold Ent.cnt at hle;have hled:decide (y.own+y.slack<e.own)=false:=df_ (by omega);have hwy:IntKind.u64.wrap (y.own+y.slack)=y.own+y.slack:=IntWalk.u64_in _ (by omega);clear hok hg hget hst hTok hPair hl hy hex hle KK
    go_upto_region 20 with(go_at_call 161;refine(HFu.out _ HR8.out.sto).mono ?_;rintro e' w9 ⟨rfl,g9⟩)
    have R9:=HR8.out.same g9;have M9:=HM8.out.trans (Mov.same g9);have A9:=A8.same g9;have b9:=R9.blk.cell;have HR9:=hh_ R9;clear b8 R9 A8 HR8 HM8 g9
    go_upto_region 21 with(go_at_call 164;refine(HL.out _ HR9.out.sto).mono ?_;rintro e' w10 ⟨rfl,g10⟩)
    obtain⟨A11,G11⟩:=nb_ w10 #[.string y.key,.int .u64 y.own,.int .u64 y.slack] 224;generalize w10.alloc _=w11 at *;generalize hge:w10.heap.size=ge at *;have k11:=Aa_ g10 G11;have R11:=HR9.out.same k11;have M11:=M9.trans (Mov.same k11);have A12:=A9.same k11;have a11:=A11.cell;have a12:=A12.cell;clear b9 A9 HR9 M9 g10 G11
    go_wp2_with fail
    go_ret
    exact⟨by rw[HE.out];rfl,_,by rw[HR.out];exact R11,M11,rfl⟩
   ·have HR:=hh_ (As_.add_mid (t:=t) hk hx hs hg (c5_ (S:=X.S) hget hst hl hy hle))
    have HFu:=hh_ fun z (q:RSto z gS vS c.Exact X.S)=>F6_ gS vS c.Exact X.S z q
    rw[dt_ hl] at HFu;have hex:=hn.exact;have hym:=Cg_ hy
    have HL:=hh_ fun z (q:RSto z gS vS c.Exact X.S)=>Lm_ gS vS c.Exact X.S y z q (by omega) hy (E2_ hok)
    obtain⟨⟨y1,y2⟩,⟨y3,y4⟩,y5⟩:=E2_ hok y hym;have hsw:=Ry_ hPair hget hy (by omega);obtain⟨z0,hz0,hfe,hek⟩:=Fb_ hget;have hzm:=(A4_ hz0).1;have hyk:=hok.ents.key y hym;have hyo:=hok.ents.own y hym;have hys:=hok.ents.slack y hym;have hyg:=F7_ hok.ents.nodup hym;have hyT:=hPair.apart _ (Ed_ hym)
    have hsw' :(X.T.add k x).swapOk z0 y:=by
     unfold TabM.swapOk at hsw ⊢;rw[hfe] at hsw
     by_cases h2 :(X.T.add k x).mode=2
     ·rw[if_pos h2,fix2 h2] at hsw;rw[if_pos h2];exact hsw
     ·rw[if_neg h2,fix1 h2] at hsw;rw[if_neg h2];exact hsw
    have hdl:=Da_ hyg
    have HTk:=hh_ fun z (q:RSto z gS vS c.Exact X.S)=>Wv_ gS vS c.Exact X.S y.key y z q (by omega) hyg
    have HSw:=hh_ fun v4 z (q:RTab z gT v4 (X.T.add k x))=>cz_ gT v4 (X.T.add k x) k z0 y z q hTok hz0 hyk.1 hyo hys hyT hsw'
    have hfs:=C2_ hTok hzm;have hfo:=Dn_ (X.T.add k x) z0;have hfc:=hTok.cnt z0 hzm;have hzo:=hTok.ents.own z0 hzm;have hkS:=Cz_.1 hg;rw[←hfe] at hfs hfo hfc;rw[←hfe] at HSw;have hsum3:=hTok.sum
    have HPu:=hh_ fun v5 z (q:RSto z gS v5 c.Exact (delE X.S y.key))=>T5_ gS v5 c.Exact (delE X.S y.key) e z q (hok.asc.sublist (C6_ _ _)) (by omega) (by omega) (by rw[hek];exact fun hz=>hkS ((Bq_ hok.ents.nodup).1 hz).1) (by rw[hek];exact hk.1) (by omega) hfs.1 (by unfold Ent.cnt at hfc;omega)
    unfold Ent.cnt at hle;have hled:decide (y.own+y.slack<e.own)=true:=dt_ (by omega);have hwy:IntKind.u64.wrap (y.own+y.slack)=y.own+y.slack:=IntWalk.u64_in _ (by omega);clear hok hg hget hst hTok hPair hl hy hex hle hym hsw hz0 hfe hek hzm hyk hyo hys hyg hyT hsw' hdl hfs hfo hfc hzo hkS hsum3 KK
    go_upto_region 20 with(go_at_call 161;refine(HFu.out _ HR8.out.sto).mono ?_;rintro e' w9 ⟨rfl,g9⟩)
    have R9:=HR8.out.same g9;have M9:=HM8.out.trans (Mov.same g9);have A9:=A8.same g9;have b9:=R9.blk.cell;have HR9:=hh_ R9;clear b8 R9 A8 HR8 HM8 g9
    go_upto_region 21 with(go_at_call 164;refine(HL.out _ HR9.out.sto).mono ?_;rintro e' w10 ⟨rfl,g10⟩)
    have hFl2:∀i,RtG.F ⟨g,gT,v4,gS,vS,gK,vr,vs,vt⟩ i→i<w10.heap.size:=(HR9.out.same g10).low;obtain⟨A11,G11⟩:=nb_ w10 #[.string y.key,.int .u64 y.own,.int .u64 y.slack] 224;generalize w10.alloc _=w11 at *;generalize hge:w10.heap.size=ge at *;have k11:=Aa_ g10 G11;have R11:=HR9.out.same k11;have M11:=M9.trans (Mov.same k11);have A12:=A9.same k11;have HFl2:=hh_ hFl2
    have hde:gd<ge:=by have:=(A9.same g10).lt;omega
    have a11:=A11.cell;have a12:=A12.cell;clear b9 A9 HR9 M9 g10 G11 hFl2
    go_upto_region 22 with fail
    clear a11 a12
    (refine rn_ 6 (fun _ _ _ _ _=>False) ?_;simp only[ts_])
    have k13:w11.grownBy w11.drew none:=Am_ (Ab_ w11 none);have A13:=hh_ A11.drew1;have A14:=hh_ A12.drew1;have HR13:=hh_ (R11.same k13);have HM13:=hh_ (M11.trans (Mov.same k13));clear A11 A12 M11 k13 R11 k11;generalize w11.drew=wq at *
    (refine tq_ 3 ?_;(repeat(go_big_quiet_step (fail)));refine wn_ ?_)
    (refine to_ ?_;intro y3 my3 dy3)
    clear dy3;have ax:=(HR13.out.same my3).blk.cell
    go_wp2_with fail
    refine⟨Ab_ _ _,?_⟩;clear ax my3
    (refine tq_ 1 ?_;(repeat(go_big_quiet_step (fail)));refine wn_ ?_)
    (refine to_ ?_;intro y5 my5 dy5)
    clear dy5;have ax:=(A13.out.same my5).cell
    go_wp2_with fail
    refine⟨Ab_ _ _,?_⟩;clear ax my5
    (refine Rg.tree_nil ?_;intro z mz dz cz)
    have R14:=HR13.out.same mz;have HS14:=hh_ R14.sto
    go_upto_region 23 with(go_at_call 165;refine(HTk.out _ HS14.out).mono ?_;rintro e' w15 ⟨rfl,v15,S15,m15⟩)
    obtain⟨R15,M15⟩:=R14.setSto S15 m15
    have A15:=(A13.out.same mz).keptS m15.grown fun hi=>Nat.lt_irrefl _ (HFl2.out ge (.inr (.inr (.inl hi))))
    have A16:=(A14.out.same mz).keptS m15.grown fun hi=>Nat.lt_irrefl _ (HFl.out gd (.inr (.inr (.inl hi))))
    have M16:=(HM13.out.trans (Mov.same mz)).trans M15;have hgz:gd<z.heap.size:=(A14.out.same mz).lt;have HN15:=hh_ (show ¬RtG.F ⟨g,gT,v4,gS,v15,gK,vr,vs,vt⟩ gd from fun hi=>(M15.new gd hi).elim (fun h=>Nat.lt_irrefl _ (HFl.out gd h)) fun h=>by omega);have k16:w15.grownBy w15.drew none:=Am_ (Ab_ w15 none);have HR16:=hh_ (R15.same k16);have HM16:=hh_ (M16.trans (Mov.same k16));have b16:=(R15.same k16).blk.cell;have a15:=A15.drew1.cell;have HA16:=hh_ A16.drew1;have hdw:gd<w15.drew.heap.size:=A16.drew1.lt;clear R14 HS14 S15 m15 R15 M15 A15 A16 M16 k16 A13 A14 HR13 HM13 mz dz cz
    go_region_with (go_at_call 166;refine(HSw.out _ _ HR16.out.tab).mono ?_;rintro e' w17 ⟨rfl,v17,T17,m17⟩;have A17:=HA16.out.keptS m17.grown (fun hi=>Nat.lt_irrefl _ (HFl.out gd (.inr (.inl hi))));have a17:=A17.cell;have f17:=A17.free)
    all_goals
     obtain⟨R17,M17⟩:=HR16.out.setTab T17 m17
     (have g18:World.grownBy w17 (((w17.setCell ⟨gd,0,none⟩ (.string e.key)).setCell ⟨gd,1,none⟩ (.int .u64 e.own)).setCell ⟨gd,2,none⟩ (.int .u64 e.slack)) (some gd):=Ac_ (Ac_ (Ac_ (Ab_ _ _) _ _) _ _) _ _);(have A18:Blk (((w17.setCell ⟨gd,0,none⟩ (.string e.key)).setCell ⟨gd,1,none⟩ (.int .u64 e.own)).setCell ⟨gd,2,none⟩ (.int .u64 e.slack)) gd #[.string e.key,.int .u64 e.own,.int .u64 e.slack]:=((Blk.set_ (by assumption) 0 _ rfl).set_ 1 _ rfl).set_ 2 _ rfl);generalize ((w17.setCell ⟨gd,0,none⟩ (.string e.key)).setCell ⟨gd,1,none⟩ (.int .u64 e.own)).setCell ⟨gd,2,none⟩ (.int .u64 e.slack)=w18 at *
     have HN17:¬RtG.F ⟨g,gT,v17,gS,v15,gK,vr,vs,vt⟩ gd:=fun hi=>(M17.new gd hi).elim HN15.out fun h=>by omega
     have S18:GrownS (oneF gd) w17 w18:=GrownS.of g18 fun q e=>by cases e;exact rfl
     have R18:=R17.keptS S18 fun i hi e=>HN17 (by rw[show i=gd from e] at hi;exact hi)
     have HM18:=hh_ (show GrownS (fun i=>RtG.F ⟨g,gT,vT,gS,vS,gK,vr,vs,vt⟩ i∨i=gd) w w18∧∀i,RtG.F ⟨g,gT,v17,gS,v15,gK,vr,vs,vt⟩ i→RtG.F ⟨g,gT,vT,gS,vS,gK,vr,vs,vt⟩ i∨w.heap.size≤i from⟨((HM16.out.trans M17).grown.mono fun i hi _=>.inl hi).trans S18 fun i hi _=>.inr hi,(HM16.out.trans M17).new⟩);have k19:w18.grownBy w18.drew none:=Am_ (Ab_ w18 none);have A19:=hh_ A18.drew1;have HR19:=hh_ (R18.same k19);clear T17 m17 A17 a17 f17 R17 M17 g18 A18 S18 HR16 HM16 b16 a15 HA16 HSw
     go_upto_region 24 with fail
     (refine rn_ 5 (fun _ _ _ _ _=>False) ?_;simp only[ts_])
     generalize w18.drew=wq at *
     (refine tq_ 3 ?_;(repeat(go_big_quiet_step (fail)));refine wn_ ?_)
     (refine to_ ?_;intro y3 my3 dy3)
     clear dy3;have ax:=(HR19.out.same my3).blk.cell
     go_wp2_with fail
     refine⟨Ab_ _ _,?_⟩;clear ax my3
     (refine to_ ?_;intro y4 my4 dy4)
     clear dy4;have ax:=(A19.out.same my4).cell
     go_wp2_with fail
     refine⟨Ab_ _ _,?_⟩;clear ax my4
     (refine Rg.tree_nil ?_;intro z5 mz5 dz5 cz5)
     have R20:=HR19.out.same mz5;have HS20:=hh_ R20.sto
     go_wp2_with (go_at_call 163;refine(HPu.out _ _ HS20.out).mono ?_;rintro e' w21 ⟨rfl,v21,S21,m21⟩)
     go_ret
     obtain⟨R21,M21⟩:=R20.setSto S21 m21;refine⟨by rw[HE.out];rfl,⟨g,gT,v17,gS,v21,gK,vr,vs,vt⟩,by rw[HR.out];exact R21,⟨?_,fun i hi=>?_⟩,rfl⟩
     ·have q1:GrownS (RtG.F ⟨g,gT,vT,gS,vS,gK,vr,vs,vt⟩) w w18:=HM18.out.1.mono fun i hi hlt=>hi.elim id fun e=>by omega
      have q2:=(q1.trans (GrownS.none_ (S:=fun _=>False) (Aa_ k19 mz5)) fun i hi _=>hi.elim)
      exact q2.trans M21.grown fun i hi hlt=>(HM18.out.2 i hi).elim id fun h=>absurd hlt (by omega)
     ·rcases M21.new i hi with h|h
      ·exact HM18.out.2 i h
      ·exact .inr (lt_ HM18.out.1.size (lt_ (Aa_ k19 mz5).size h))
 ·have HR:=hh_ (As_.add_mid (t:=t) hk hx hs hg (bo_ (S:=X.S) hget hst hl))
  obtain⟨y,hy,hfe,hek⟩:=Fb_ hget;have hym:=(A4_ hy).1
  have hlT :(X.T.add k x).L.length≤64:=by have:=hTok.len;have:=hTok.m;omega
  have HFu:=hh_ fun z (q:RSto z gS vS c.Exact X.S)=>F6_ gS vS c.Exact X.S z q
  rw[df_ hl] at HFu
  have HTk:=hh_ fun v4 z (q:RTab z gT v4 (X.T.add k x))=>cc_ gT v4 (X.T.add k x) k y z q hlT hy
  have hfs:=C2_ hTok hym;have hfo:=Dn_ (X.T.add k x) y;have hfc:=hTok.cnt y hym;have hyo:=hTok.ents.own y hym;have hkS:=Cz_.1 hg;rw[←hfe] at hfs hfo hfc;have hle:=hok.len;have hex:=hn.exact;have hsum3:=hTok.sum
  have HPu:=hh_ fun z (q:RSto z gS vS c.Exact X.S)=>T5_ gS vS c.Exact X.S e z q hok.asc (by omega) hl (by rw[hek];exact hkS) (by rw[hek];exact hk.1) (by omega) hfs.1 (by unfold Ent.cnt at hfc;omega)
  have he2:=hh_ hek;clear hok hg hget hst hTok hPair hl hy hym hfs hfo hfc hyo hkS hek hfe hlT hle hex KK
  go_upto_region 17 with(go_at_call 161;refine(HFu.out _ HR8.out.sto).mono ?_;rintro e' w9 ⟨rfl,g9⟩)
  have R9:=HR8.out.same g9;have M9:=HM8.out.trans (Mov.same g9);have A9:=A8.same g9;have b9:=R9.blk.cell;have HR9:=hh_ R9;clear b8 R9 A8 HR8 HM8 g9
  go_upto_region 18 with(go_at_call 162;refine(HTk.out _ _ HR9.out.tab).mono ?_;rintro e' w10 ⟨rfl,v10,T10,m10⟩)
  obtain⟨R10,M10⟩:=HR9.out.setTab T10 m10
  have A10:=A9.keptS m10.grown fun hi=>Nat.lt_irrefl _ (HFl.out gd (.inr (.inl hi)))
  have M11:=M9.trans M10;have HR10:=hh_ R10;clear b9 A9 T10 m10 R10 M9 M10 HR9
  (refine rn_ 5 (fun _ _ _ _ _=>False) ?_;simp only[ts_])
  have k11:w10.grownBy w10.drew none:=Am_ (Ab_ w10 none);have A11:=hh_ A10.drew1;have HR11:=hh_ (HR10.out.same k11);have HM11:=hh_ (M11.trans (Mov.same k11));clear A10 M11 k11 HR10;generalize w10.drew=wq at *
  (refine tq_ 3 ?_;(repeat(go_big_quiet_step (fail)));refine wn_ ?_)
  (refine to_ ?_;intro y3 my3 dy3)
  clear dy3;have ax:=(HR11.out.same my3).blk.cell
  go_wp2_with fail
  refine⟨Ab_ _ _,?_⟩;clear ax my3
  (refine to_ ?_;intro y4 my4 dy4)
  clear dy4;have ax:=(A11.out.same my4).cell
  go_wp2_with fail
  refine⟨Ab_ _ _,?_⟩;clear ax my4
  (refine Rg.tree_nil ?_;intro z mz dz cz)
  have R12:=HR11.out.same mz;have HS12:=hh_ R12.sto
  go_wp2_with (go_at_call 163;refine(HPu.out _ HS12.out).mono ?_;rintro e' w13 ⟨rfl,v13,S13,m13⟩)
  go_ret
  obtain⟨R13,M13⟩:=R12.setSto S13 m13;exact⟨by rw[HE.out];rfl,_,by rw[HR.out];exact R13,(HM11.out.trans (Mov.same mz)).trans M13,rfl⟩
theorem I1_ (G:RtG) (c:Cfg) (t:List Int) (X:As_) (k:ByteArray) (x:Int) (w:World) (h:RTier w G c t X) (hok:TierOk c X) (hn:Bd_ c) (htl:t.length=16) (hx:W64 x) :
  Calls Tryz.prog 123 #[.pointer (some ⟨G.g,0,none⟩),.string k,.int .u64 x] w (RTAdd G c t X k x w):=by
 by_cases he:X.err k x=0
 ·obtain⟨hk,hx1,hs⟩ :(0<k.size∧k.size≤255)∧1≤x∧X.sum+x≤mostW:=by
   have:=hx.1
   unfold As_.err at he
   split at he
   ·omega
   ·split at he
    ·omega
    ·split at he
     ·omega
     ·split at he
      ·omega
      ·exact⟨by omega,by omega,by omega⟩
  cases hg:getE X.S k with
  | some en=>exact Wm_ G c t X k x w h hok hn htl hk hx1 hs en hg
  | none=>
   cases hget :(X.T.add k x).get k with
   | none=>exact Y9_ G c t X k x w h hok hn htl hk hx1 hs hg hget
   | some e=>exact Re_ G c t X k x w h hok hn htl hk hx1 hs hg e hget
 ·exact Rl_ G c t X k x w h hok hx he
theorem be_ (g:Nat) (v:Value) (T:TabM) (w:World) (h:RTab w g v T):Calls Tryz.prog 124 #[.pointer (some ⟨g,0,none⟩)] w (fun e w'=>e=.returned (.int .u64 T.base)∧w=w'):=by
 have b0:=h.blk.cell;clear h
 go_enter func124,ntmps124
 go_wp2_with fail
 go_ret
 exact⟨rfl,rfl⟩
end
section
open Go.RowKit Go.Sort
section
variable {α:Type} {f:α→List Value} {st e:TypeId} {z:Value} {size bytes:Nat} {w:World} {B:Nat} {g:Nat} {l2:List α} {A:Option Addr} {m c:Nat}
variable {o:Oper} {a:Act} {ops:Array Oper} {rest:List Oper} {Q:Exit→Act→World→Prop}
end
structure OSum (B:Nat) (w:World) (ve vr:Value) (vs:List SlR) (es:List Ent) (rows:List (List Int)):Prop where
 es:Own entF 3 224 B w ve es
 rows:ORows w vr vs rows
 base:∀i,rowsF vr vs i→B≤i
def f1_ (_:Cfg) (X:As_) (w:World) (e:Ending) (w':World):Prop:=
 ∃ve vr vs,e=.returned (.agg #[.int .u64 X.sum,ve,.int .u64 X.T.base,vr])∧OSum w.heap.size w' ve vr vs X.entries X.rows∧w.grownBy w' none
theorem Od_ (T:TabM):T.entries.length=T.L.length:=by unfold TabM.entries;rw[Ft_,List.length_map]
theorem bq_ (G:RtG) (c:Cfg) (t:List Int) (X:As_) (w:World) (h:RTier w G c t X) (hok:TierOk c X) (hn:Bd_ c) :
  Calls Tryz.prog 94 #[.pointer (some ⟨G.g,0,none⟩)] w (f1_ c X w):=by
 have H:=hh_ h;have b0:=h.blk.cell
 have HU:=hh_ fun y (q:w.grownBy y none)=>be_ G.gT G.vT X.T y (h.same q).tab
 have HEn:=hh_ fun y (R:RTab y G.gT G.vT X.T)=>Ri_ G.gT G.vT X.T y R hok.tab
 have hlT:=Od_ X.T
 have hlT2:X.T.L.length≤64:=by have:=hok.tab.len;have:=hok.tab.m;omega
 have hlS:X.S.length≤32:=by have:=hok.len;have:=hn.exact;omega
 have hd:=hok.rows.depth;have hnd:=hn.depth;have hRw:=hh_ hok.rows.width;have hnw:=hn.width;obtain⟨a,cS,hvS⟩:=h.sto.own.shape;obtain⟨ar,cr,hvr⟩:=h.sk.rows.own.shape;have hvl:G.vs.length=X.rows.length:=h.sk.rows.len;have HZ1:=hh_ (show sortEn (X.T.entries++X.S)=X.entries from rfl);have HZl:=hh_ (show(X.entries).length=X.T.entries.length+X.S.length by unfold As_.entries;rw[Ft_,la_])
 have HZ2:=hh_ (show cellsOf entF (X.entries.take X.T.entries.length)=cellsOf entF X.T.entries→X.entries=X.T.entries++X.S by
  intro hc;have h1:=Kd_ (by rw[lk_,HZl.out];omega) hc
  have h2:X.entries=X.T.entries++X.entries.drop X.T.entries.length:=by conv=>lhs;rw[←List.take_append_drop X.T.entries.length X.entries,h1]
  have hp:=hok.entries;have hpT:X.T.entries.Perm (X.T.L.map X.T.fix):=(Ds_ (by rw[Du_];exact hok.tab.ents.nodup)).2
  have h3 :(X.entries.drop X.T.entries.length).Perm X.S:=by
   have h4 :(X.T.entries++X.entries.drop X.T.entries.length).Perm (X.T.entries++X.S):=by rw[←h2];exact hp.1.trans (hpT.symm.append_right X.S)
   exact(List.perm_append_left_iff _).1 h4
  rw[h2,Eq_ ((hp.2).sublist (List.drop_sublist _ _)) hok.asc h3])
 obtain⟨g,gT,vT,gS,vS,gK,vr,vs,vt⟩:=G;dsimp only at *;subst hvS hvr;generalize X.T.entries=ET at *;have HEZ:=hh_ (show X.entries=X.entries from rfl);obtain⟨EZ,hEZ⟩:∃EZ,EZ=X.entries:=⟨_,rfl⟩;rw[←hEZ] at HZ1 HZl HZ2;replace HEZ:=hh_ hEZ;clear hEZ;clear h hok
 go_enter func94,ntmps94
 go_upto_region 1 with fail
 have A1:=Blk.new w #[.int .u64 0,.slice none 0 0,.int .u64 0,.slice none 0 0] 129;have G1:=ga_ w (.cells #[.int .u64 0,.slice none 0 0,.int .u64 0,.slice none 0 0] 129) none;generalize w.alloc _=w1 at *;generalize hgb:w.heap.size=gb at *;have k2:=Am_ G1;have HA1:=hh_ A1.drew1
 (refine rn_ 14 (fun i _ w v w'=>match i with | 11=>v=.int .u64 X.T.base∧World.grownBy w w' none | _=>False) ?_;simp only[ts_])
 clear A1 G1;generalize w1.drew=wq at *
 (refine tq_ 3 ?_;(repeat(go_big_quiet_step (fail)));refine wn_ ?_)
 (refine to_ ?_;intro y3 my3 dy3)
 clear dy3;have ax:=(H.out.same (Aa_ k2 my3)).blk.cell
 go_wp2_with fail
 refine⟨Ab_ _ _,?_⟩;clear ax my3
 (refine tq_ 2 ?_;(repeat(go_big_quiet_step (fail)));refine wn_ ?_)
 (refine to_ ?_;intro y6 my6 dy6)
 clear dy6;have ax:=(H.out.same (Aa_ k2 my6)).sk.blk.cell
 go_wp2_with fail
 refine⟨Ab_ _ _,?_⟩;clear ax my6
 (refine tq_ 3 ?_;(repeat(go_big_quiet_step (fail)));refine wn_ ?_)
 (refine to_ ?_;intro y10 my10 dy10)
 clear dy10;have ax:=(H.out.same (Aa_ k2 my10)).blk.cell
 go_wp2_with fail
 refine⟨Ab_ _ _,?_⟩;clear ax my10
 (refine tc_ ?_;intro y11 my11 dy11;refine⟨?_,?_⟩;· (unfold Rg.callSpec;go_simp;(refine(HU.out y11 (Aa_ k2 my11)).mono ?_;rintro e w' ⟨rfl,rfl⟩;exact⟨_,rfl,rfl,Ab_ _ _⟩)))
 clear dy11;rintro v7 e7 ⟨rfl,g7⟩;refine⟨g7,?_⟩;simp only[pt_];clear g7 my11
 (refine tq_ 1 ?_;(repeat(go_big_quiet_step (fail)));refine wn_ ?_)
 (refine to_ ?_;intro y13 my13 dy13)
 clear dy13
 go_wp2_with fail
 refine⟨ga_ _ _ _,?_⟩;have A13:=Blk.new y13 #[.int .u64 0,.slice none 0 0,.int .u64 0,.slice none 0 0] 129;have hyq:=my13.size;generalize y13.alloc _=e13 at *;generalize hgc:y13.heap.size=gc at *
 (refine Rg.tree_nil ?_;intro z mz dz cz)
 have AZ:=A13.same (dz.out 13 (by omega));have BZ:=HA1.out.same mz
 have hbc:gb<gc:=by have:=HA1.out.lt;omega
 have KZ:=Aa_ k2 mz;clear dz cz mz my13 A13 hyq;have az:=AZ.cell;have fz:=AZ.free
 go_upto_region 2 with fail
 have GS:World.grownBy z ((((z.setCell ⟨gc,0,none⟩ (.int .u64 X.sum)).setCell ⟨gc,1,none⟩ (.slice none 0 0)).setCell ⟨gc,2,none⟩ (.int .u64 X.T.base)).setCell ⟨gc,3,none⟩ (.slice none 0 0)) (some gc):=Ac_ (Ac_ (Ac_ (Ac_ (Ab_ _ _) _ _) _ _) _ _) _ _;have BS:Blk ((((z.setCell ⟨gc,0,none⟩ (.int .u64 X.sum)).setCell ⟨gc,1,none⟩ (.slice none 0 0)).setCell ⟨gc,2,none⟩ (.int .u64 X.T.base)).setCell ⟨gc,3,none⟩ (.slice none 0 0)) gc #[.int .u64 X.sum,.slice none 0 0,.int .u64 X.T.base,.slice none 0 0]:=(((AZ.set_ 0 _ rfl).set_ 1 _ rfl).set_ 2 _ rfl).set_ 3 _ rfl;have BB:=BZ.kept GS (fun e=>by cases e;omega);have KS:=Af_ KZ GS (by omega);clear GS AZ BZ KZ az fz;generalize (((z.setCell ⟨gc,0,none⟩ (.int .u64 X.sum)).setCell ⟨gc,1,none⟩ (.slice none 0 0)).setCell ⟨gc,2,none⟩ (.int .u64 X.T.base)).setCell ⟨gc,3,none⟩ (.slice none 0 0)=zs at *;have hN0:=KS.size;have hgN:=ll_ H.out.blk.lt hN0;have hgS:=ll_ H.out.sto.blk.lt hN0
 have HoT:=hh_ fun i (hi:rtF gT vT i)=>ll_ (H.out.tab.low i hi) hN0
 have hvN:=hh_ fun q (hq :(Value.slice a X.S.length cS).ownBlock=some q)=>ll_ (H.out.sto.own.lt q hq).2 hN0
 have hbN:=BB.lt;have hcN:=BS.lt;have KD:=Am_ KS;have HBB:=hh_ BB.drew1;have HBS:=hh_ BS.drew1;obtain⟨N,HN⟩:∃N:Nat,N=zs.heap.size:=⟨_,rfl⟩
 have hND:N≤zs.drew.heap.size:=by rw[HN];exact(World.grownBy.size (Am_ (Ab_ zs none)))
 rw[←HN] at hN0 hgN hgS HoT hvN hbN hcN;obtain⟨P,hP⟩:∃P:List Ent→Prop,P=fun T=>T=ET∨T=ET++X.S∨T=EZ:=⟨_,rfl⟩;have HP0:=hh_ (show P ET by rw[hP];exact .inl rfl);have HP1:=hh_ (show P (ET++X.S) by rw[hP];exact .inr (.inl rfl));have HPZ:=hh_ (show P EZ by rw[hP];exact .inr (.inr rfl))
 have HP2:=hh_ (show ∀Q,P Q→(Q.length≤ET.length∨Q <+: ET++X.S∨ET++X.S <+: Q)∨(ET.length≤Q.length∧cellsOf entF (Q.take ET.length)≠cellsOf entF ET) by
  intro Q hQ;rw[hP] at hQ
  rcases hQ with rfl|rfl|rfl
  ·exact .inl (.inl (le_ _))
  ·exact .inl (.inr (.inl (List.prefix_refl _)))
  ·by_cases hc:cellsOf entF (Q.take ET.length)=cellsOf entF ET
   ·left;right;left
    rw[HZ2.out hc];exact List.prefix_refl _
   ·exact .inr ⟨by rw[HZl.out];omega,hc⟩)
 have hb4 :(ET.length+X.S.length)*32≤140737488355328:=by omega
 have hb5:ET.length+X.S.length≤9223372036854775807:=by omega
 have hbZ :(ET++X.S).length≤1000000:=by rw[la_];omega
 clear hP HN BB BS
 (refine Rg.wp_region_rgZ 15 #[] (Keep entF 3 224 N P) (fun k _ w v w'=>match k with | 4=>Own entF 3 224 N w' v ET∧World.grownBy w w' none | 13=>Own entF 3 224 N w' v EZ∧World.grownBy w w' none | _=>False) (by kernel_rfl) (by kernel_rfl) (Keep.refl _ _ _ _ _) (fun _ _ _ h k=>h.trans k) (fun _ _ _ _ _ h=>h) ?_;simp only[List.take,List.drop])
 generalize zs.drew=wd at *;have Hd:=hh_ (H.out.same KD)
 (refine tq_ 3 ?_;(repeat(go_big_quiet_step (fail)));refine wn_ ?_)
 (refine to_ ?_;intro y3 my3 dy3)
 clear dy3;have ax:=(my3.blk Hd.out.blk hgN).cell
 go_wp2_with fail
 refine⟨Keep.refl _ _ _ _ _ _,?_⟩;clear ax my3
 (refine tc_ ?_;intro y4 my4 dy4;refine⟨?_,?_⟩;· (unfold Rg.callSpec;go_simp;(refine(HEn.out y4 (Hd.out.tab.keptS my4.grown (fun i hi h2=>by have:=HoT.out i hi;omega))).mono ?_;rintro e w' ⟨v',rfl,o',g'⟩;exact⟨_,rfl,o'.base (fun q hq=>lt_ (lt_ hND my4.grown.size) (o'.lt q hq).1),g'⟩)))
 clear dy4;rintro v4 e4 ⟨o4,g4⟩;refine⟨Keep.of g4,?_⟩;simp only[pt_];clear g4 my4
 (refine tq_ 3 ?_;(repeat(go_big_quiet_step (fail)));refine wn_ ?_)
 (refine to_ ?_;intro y8 my8 dy8)
 clear dy8;have ax:=(my8.blk Hd.out.blk hgN).cell
 go_wp2_with fail
 refine⟨Keep.refl _ _ _ _ _ _,?_⟩;clear ax my8
 (refine tq_ 2 ?_;(repeat(go_big_quiet_step (fail)));refine wn_ ?_)
 (refine to_ ?_;intro y11 my11 dy11)
 clear dy11;have ax:=(my11.blk Hd.out.sto.blk hgS).cell
 go_wp2_with fail
 refine⟨Keep.refl _ _ _ _ _ _,?_⟩;clear ax my11
 (refine to_ ?_;intro y12 my12 dy12)
 have N12:=(dy12.out 4 (by omega) (by kernel_rfl)).own _ _ HP0.out o4;have R12:=my12.rd Hd.out.sto.own.rd (fun _ a n c e=>by cases e;exact hvN.out _ rfl);have z12:=lt_ hND my12.grown.size;clear dy12
 go_wp2_with (at_builtin;refine Ma_ Bh_ Bg_ Az_ N12 R12 rfl hb4 hb5 z12 HP2.out (by rfl) _ _ (by rfl) (by rfl) (by rfl) ?_;intro v12 e12 o12 k12;have Hk12:=hh_ k12;clear k12)
 refine⟨Hk12.out,?_⟩;clear N12 R12 z12 my12 o4
 have HSo:=hh_ fun y (R:Own entF 3 224 N y v12 (ET++X.S))=>Gt_ _ _ y R.rd hbZ
 rw[HZ1.out] at HSo
 (refine tc_ ?_;intro y13 my13 dy13;refine⟨?_,?_⟩;· (unfold Rg.callSpec;go_simp;(refine(HSo.out y13 ((dy13.out 12 (by omega) (by kernel_rfl)).own _ _ HP1.out o12)).mono ?_;rintro e w' ⟨v',rfl,o',g'⟩;exact⟨_,rfl,o'.base (fun q hq=>lt_ (lt_ hND my13.grown.size) (o'.lt q hq).1),g'⟩)))
 clear dy13;rintro v13 e13 ⟨o13,g13⟩;refine⟨Keep.of g13,?_⟩;simp only[pt_];clear g13 my13
 (refine tq_ 1 ?_;(repeat(go_big_quiet_step (fail)));refine wn_ ?_)
 (refine Rg.tree_nil ?_;intro zz mzz dzz czz)
 have oz:=(dzz.out 13 (by omega)).own _ _ HPZ.out o13;have BZ:=mzz.blk HBB.out hbN;have AZ:=mzz.blk HBS.out hcN;have GZ:=mzz.grown;clear dzz czz o12 o13 mzz Hk12 HSo;obtain⟨az,cz2,hvz⟩:=oz.shape;subst hvz;have bc:=AZ.cell;have fc:=AZ.free
 go_upto_region 3 with fail
 have GS:World.grownBy zz (zz.setCell ⟨gc,1,none⟩ (.slice az EZ.length cz2)) (some gc):=Ac_ (Ab_ _ _) _ _;have AS:=AZ.set_ 1 (.slice az EZ.length cz2) (cs':=#[.int .u64 X.sum,.slice az EZ.length cz2,.int .u64 X.T.base,.slice none 0 0]) rfl;have BS:=BZ.kept GS (fun e=>by cases e;omega)
 have KZ:=((GrownS.none_ (S:=fun i=>N≤i) KD).trans GZ (fun i hi _=>hi)).back fun i hi h2=>by omega
 have hwc:w.heap.size≤gc:=by omega
 have KS:=Af_ KZ GS hwc
 have hza:∀q,(Value.slice az EZ.length cz2).ownBlock=some q→N≤q∧q<zz.heap.size:=fun q hq=>oz.lt q hq
 have os:=(oz.kept GS (fun q hq e=>by cases e;have:=(hza _ hq).1;omega)).base (B':=w.heap.size) (fun q hq=>by have:=(hza q hq).1;omega);have hzs:zz.heap.size≤(zz.setCell ⟨gc,1,none⟩ (.slice az EZ.length cz2)).heap.size:=GS.size;have hcz:=AZ.lt;have hbz:=BZ.lt;clear oz AZ BZ GZ bc fc GS KZ KD Hd HBB HBS HP0 HP1 HPZ HP2 HZ1 HZ2 HZl HEn HU HoT hvN hgN hgS HA1 k2;generalize zz.setCell ⟨gc,1,none⟩ (.slice az EZ.length cz2)=w4 at *;obtain⟨N2,hN2⟩:∃N2:Nat,N2=w4.heap.size:=⟨_,rfl⟩;have HQ:=hh_ H;have bg:=(H.out.same KS).blk.cell;have bk:=(H.out.same KS).sk.blk.cell
 go_wp2_with fail
 clear bg bk
 go_loopw [42] (fun s42 wk=>∃(k:Nat) (v:Value) (us:List SlR),k≤vs.length∧s42=.int .i64 k∧Blk wk gc #[.int .u64 X.sum,.slice az EZ.length cz2,.int .u64 X.T.base,v]∧Blk wk gb #[.int .u64 0,.slice none 0 0,.int .u64 0,.slice none 0 0]∧Own entF 3 224 w.heap.size wk (.slice az EZ.length cz2) EZ∧ORows wk v us (X.rows.take k)∧(∀i,rowsF v us i→N2≤i)∧w.grownBy wk none∧N2≤wk.heap.size) (fun s42 _=>vs.length-(RowKit.intOf s42).toNat)
 case atStart=>exact⟨0,_,[],zl_ _,rfl,AS,BS,os,ORows.nil _,fun i hi=>by rcases hi with hi |⟨u,hu,_⟩;exact absurd hi (Ay_ i);simp at hu,KS,Nat.le_of_eq hN2⟩
 case round=>
  obtain⟨k,v,us,hk,rfl,A,B,E,R,hF,hg,hz⟩:=hrel;clear AS BS os KS
  by_cases hkD:k<vs.length
  ·have hkd :(k:Int)<c.Depth:=by omega
   have hkr:k<X.rows.length:=by omega
   have RS:=(H.out.same hg).sk.rows;obtain⟨gx,cx,hvx,_,_,_,hcx,_⟩:=RS.own.at_ N1_ hkD;cases hvx;have c0:=hcx 0 (SlR.v vs[k]) rfl;rw[Nat.mul_one,Nat.add_zero] at c0;have OR:=RS.all k vs[k] X.rows[k] (gq_ hkD) (gq_ hkr)
   have hrw:X.rows[k].length≤256:=by have:=hRw.out X.rows[k] (mg_ hkr);omega
   have HTK:=hh_ (show X.rows.take (k+1)=X.rows.take k++[X.rows[k]] by rw[tg_ hkr]);obtain⟨xa,xc,hxv⟩:=OR.shape;rw[hxv] at c0 OR;generalize X.rows[k]=row at *
   have hRT :(X.rows.take k).length=k:=by rw[lk_];omega
   generalize X.rows.take k=RT at *;generalize vs[k]=sx at *;clear hxv hcx RS
   go_upto_region 6 with fail
   have k0:wr.grownBy wr.drew none:=Am_ (Ab_ wr none);have HA:=hh_ A;have HRw:=hh_ OR.rd;have HR:=hh_ R;obtain⟨oa,oc,hov⟩:=R.own.shape;subst hov
   have hb1:row.length*8≤140737488355328:=by omega
   have hb2:row.length≤9223372036854775807:=by omega
   have hul:us.length≤vs.length:=by have h1:=R.len;omega
   clear OR
   (refine rn_ 6 (fun _ _ _ _ _=>False) ?_;simp only[ts_])
   (refine tq_ 1 ?_;(repeat(go_big_quiet_step (fail)));refine wn_ ?_)
   (refine to_ ?_;intro y1 my1 dy1)
   clear dy1;have ax:=(A.same (Aa_ k0 my1)).cell
   go_wp2_with fail
   refine⟨Ab_ _ _,?_⟩;clear ax my1
   (refine to_ ?_;intro y2 my2 dy2)
   clear dy2;have hz2:=(Aa_ k0 my2).size
   go_wp2_with fail
   refine⟨ga_ _ _ _,?_⟩;have N2':=Aw_ (e:=22) wordF 1 hz2;generalize y2.alloc _=e2 at *;generalize y2.heap.size=g2 at *
   (refine tq_ 1 ?_;(repeat(go_big_quiet_step (fail)));refine wn_ ?_)
   (refine to_ ?_;intro y4 my4 dy4)
   have N4:=N2'.same (dy4.out 2 (by omega) (by kernel_rfl));have R4:=HRw.out.same (Aa_ k0 my4);have z4:=(Aa_ k0 my4).size;clear dy4
   go_wp2_with (at_builtin;refine A2_ Z7_ ap_ N4 R4 rfl hb1 hb2 z4 (by rfl) _ _ (by rfl) (by rfl) (by rfl) ?_;intro v4' e4' o4' k4' l4';have Hk4:=hh_ k4';clear k4' l4';(obtain⟨a4,c4,hv4⟩:=o4'.shape);subst hv4)
   refine⟨Hk4.out,?_⟩;clear N4 R4 z4 my4 N2' my2 hz2 Hk4
   (refine to_ ?_;intro y5 my5 dy5)
   have X5:=o4'.same (dy5.out 4 (by omega) (by kernel_rfl));clear dy5;have hz5:=(Aa_ k0 my5).size
   go_wp2_with fail
   refine⟨ga_ _ _ _,?_⟩;have S5:=Hn_ (size:=1) N1_ y5 ⟨a4,row.length,c4⟩ #[.slice a4 row.length c4] 24 rfl;have g5:=ga_ y5 (.cells #[.slice a4 row.length c4] 24) none;generalize y5.alloc _=e5 at *;generalize y5.heap.size=gn at *
   (refine Rg.tree_nil ?_;intro zq mzq dzq czq)
   have kq:=Aa_ k0 mzq;have Aq:=HA.out.same kq;have Sq:=S5.same (dzq.out 5 (by omega));have Xq:=X5.same (Aa_ g5 (dzq.out 5 (by omega)));have Oq:=HR.out.own.same kq
   have hbx1 :(us.length+[(⟨a4,row.length,c4⟩:SlR)].length)*24≤140737488355328:=by simp;omega
   have hbx3:us.length+[(⟨a4,row.length,c4⟩:SlR)].length≤9223372036854775807:=by simp;omega
   have hgF:∀i,rowsF (.slice oa us.length oc) us i→gc<i∧gb<i:=fun i hi=>by have:=hF i hi;omega
   have Hkq:=hh_ kq;clear dzq czq mzq X5 S5 g5 k0 hz5 o4' my5 c0 kq A R
   go_upto_region 7 with(at_builtin;refine app (l:=us) Pq_ Z4_ Oq Sq rfl hbx1 hbx3 (zl_ _) (by rfl) _ _ (by rfl) (by rfl) (by rfl) ?_;intro v8 w8 o8 g8 l8;have A8:=Aq.kept g8 (fun e=>by have:=(hgF gc (.inl e)).1;omega);have b8:=A8.cell;have f8:=A8.free;(obtain⟨va8,vc8,hv8⟩:=o8.shape);rw[la_,ls_] at hv8;subst hv8;have Hg8:=hh_ g8;clear g8)
   have kq:=Hkq.out;have Gw:wr.grownBy w8 (Value.slice oa us.length oc).ownBlock:=Aa_ (Fi_ kq) Hg8.out
   have hvlo:=fun q hq=>(HR.out.own.lt q hq).2
   have hxlo:=fun q hq=>(Xq.lt q hq)
   have hsq:=kq.size;have hx8:=Xq.kept Hg8.out (fun q hq e=>by have h1:=hvlo q e;have h2:=(hxlo q hq).1;omega)
   have hl8:Lies (.slice oa us.length oc) (.slice va8 (us.length+1) vc8) wr.heap.size:=l8.imp id fun⟨q,h1,h2⟩=>⟨q,h1,lt_ hsq h2⟩
   have hne8:Off (ownF (SlR.v ⟨a4,row.length,c4⟩)) (ownF (.slice va8 (us.length+1) vc8)):=fun q hq hq'=>by
    have hq2:=hxlo q hq
    rcases l8 with l8 |⟨y,h1,h2⟩
    ·have:=hvlo q (l8.symm.trans hq');omega
    ·rw[show Value.ownBlock _=some q from hq'] at h1
     cases h1;omega
   have R8:=HR.out.snoc Gw o8 hl8 (x:=⟨a4,row.length,c4⟩) hx8 hne8;have B8:=B.kept Gw (fun e=>by have:=(hgF gb (.inl e)).2;omega);have E8:=E.kept Gw (fun q hq e=>by have h1:=hza q hq;have h2:=hF q (.inl e);omega)
   have hF8:∀i,rowsF (.slice va8 (us.length+1) vc8) (us++[⟨a4,row.length,c4⟩]) i→N2≤i:=fun i hi=>by
    rcases hi with hi |⟨u,hu,hi⟩
    ·rcases lies_new hl8 i hi with h1|h1
     ·exact hF i (.inl h1)
     ·omega
    ·rcases ma_ hu with hu|hu
     ·exact hF i (.inr ⟨u,hu,hi⟩)
     ·rw[ms_ hu] at hi
      have hq2:=(hxlo i hi).1
      omega
   have hg9:w8.grownBy (w8.setCell ⟨gc,3,none⟩ (.slice va8 (us.length+1) vc8)) (some gc):=Ac_ (Ab_ _ _) _ _;have A9:=A8.set_ 3 (.slice va8 (us.length+1) vc8) (cs':=#[.int .u64 X.sum,.slice az EZ.length cz2,.int .u64 X.T.base,.slice va8 (us.length+1) vc8]) rfl;have B9:=B8.kept hg9 (fun e=>by cases e;omega);have E9:=E8.kept hg9 (fun q hq e=>by cases e;have:=(hza gc hq).1;omega)
   have R9:=R8.keptS (GrownS.of (S:=oneF gc) hg9 fun q e=>by cases e;exact rfl) fun i hi hig=>by have:=hF8 i hi;have:i=gc:=hig;omega
   have hgw:w.grownBy w8 none:=by
    cases hv :(Value.slice oa us.length oc).ownBlock with
    | none=>rw[hv] at Gw;exact Aa_ hg Gw
    | some q=>rw[hv] at Gw;exact Af_ hg Gw (by have:=hF q (.inl hv);omega)
   have hsz8:=Gw.size;have hsz9:=hg9.size;have hF9:=hh_ (And.intro A9 (And.intro B9 (And.intro E9 (And.intro R9 (And.intro hF8 (And.intro (Af_ hgw hg9 hwc) (show N2≤(w8.setCell ⟨gc,3,none⟩ (.slice va8 (us.length+1) vc8)).heap.size by omega)))))));clear A9 B9 E9 R9 hF8 hgw hg9 R8 B8 E8 hne8 hx8 hl8 Gw A8 b8 f8 hsz8 hsz9 Aq Sq Xq Oq kq HA HR Hkq Hg8 hvlo hxlo;generalize w8.setCell ⟨gc,3,none⟩ (.slice va8 (us.length+1) vc8)=w9 at *
   go_wp2_with fail
   exact⟨⟨k+1,_,_,by omega,by go_num,hF9.out.1,hF9.out.2.1,hF9.out.2.2.1,by rw[HTK.out];exact hF9.out.2.2.2.1,hF9.out.2.2.2.2.1,hF9.out.2.2.2.2.2.1,hF9.out.2.2.2.2.2.2⟩,by simp[RowKit.intOf];omega⟩
  ·obtain rfl:k=vs.length:=by omega
   have hkd:¬(((vs.length:Nat):Int)<c.Depth):=by omega
   have hke:X.rows.take vs.length=X.rows:=tk_ (by omega);rw[hke] at R;have HF:=hh_ (And.intro E (And.intro R (And.intro hF (And.intro hg hz))));obtain⟨oa,oc,hov⟩:=R.own.shape;subst hov;have ca:=A.cell;have cb:=B.cell;have fb:=B.free;have hgb9:wr.grownBy ((((wr.setCell ⟨gb,0,none⟩ (.int .u64 X.sum)).setCell ⟨gb,1,none⟩ (.slice az EZ.length cz2)).setCell ⟨gb,2,none⟩ (.int .u64 X.T.base)).setCell ⟨gb,3,none⟩ (.slice oa us.length oc)) (some gb):=Ac_ (Ac_ (Ac_ (Ac_ (Ab_ _ _) _ _) _ _) _ _) _ _;have hB9:Blk ((((wr.setCell ⟨gb,0,none⟩ (.int .u64 X.sum)).setCell ⟨gb,1,none⟩ (.slice az EZ.length cz2)).setCell ⟨gb,2,none⟩ (.int .u64 X.T.base)).setCell ⟨gb,3,none⟩ (.slice oa us.length oc)) gb #[.int .u64 X.sum,.slice az EZ.length cz2,.int .u64 X.T.base,.slice oa us.length oc]:=(((B.set_ 0 _ rfl).set_ 1 _ rfl).set_ 2 _ rfl).set_ 3 _ rfl;clear E R hF hg hz A B hke
   go_wp2_with fail
   generalize (((wr.setCell ⟨gb,0,none⟩ (.int .u64 X.sum)).setCell ⟨gb,1,none⟩ (.slice az EZ.length cz2)).setCell ⟨gb,2,none⟩ (.int .u64 X.T.base)).setCell ⟨gb,3,none⟩ (.slice oa us.length oc)=wz at *;have rc:=hB9.cell;refine bodyPost_ret (v:=.agg #[.int .u64 X.sum,.slice az EZ.length cz2,.int .u64 X.T.base,.slice oa us.length oc]) (by simp[results,results94,go_sem,rc]) rfl ?_;obtain⟨E,R,hF,hg,hz⟩:=HF.out;refine⟨_,_,us,rfl,⟨by rw[←HEZ.out];exact E.kept hgb9 (fun q hq e=>by cases e;have:=(hza gb hq).1;omega),R.keptS (GrownS.of (S:=oneF gb) hgb9 fun q e=>by cases e;exact rfl) (fun i hi hig=>by have:=hF i hi;have:i=gb:=hig;omega),fun i hi=>by have:=hF i hi;omega⟩,Af_ hg hgb9 (by omega)⟩
end
section
open Go.RowKit Go.Sort
theorem Lh_ (B g:Nat) (l:List UInt8) (e:Int) (w:World) (h:Rdr B w g l e) :
  Calls Tryz.prog 116 #[.pointer (some ⟨g,0,none⟩)] w (NumP B g w (weiF l e)):=by
 obtain⟨a,c,hb,hr,hlc,hab⟩:=h.ex;have hgB:=h.hg;have hbl:=hb.cell
 by_cases he:e≠0
 ·have hF:=hh_ (show weiF l e =(0,l,e) from if_pos he)
  have he2 :(e != 0)=true:=by simp[he]
  have H:=hh_ h;clear h hr he hb
  go_enter func116,ntmps116
  go_wp2
  go_ret
  exact⟨by rw[hF.out];rfl,by rw[hF.out];exact H.out,Ab_ _ _⟩
 ·obtain rfl:e=0:=by omega
  have C:=hh_ (Mu_ _ l w hr);have hu:=Fp_ l;have hw:=Ek_ l;have HE:=hh_ (Lg_ l);have HN:=hh_ (show weiF l 0=if (readF l).2.2≠0 then (0,l,(readF l).2.2) else if 18446744073709551615<(readF l).1 then (0,l.drop (readF l).2.1,1) else ((readF l).1,l.drop (readF l).2.1,0) from if_neg he);have HR:=hh_ hr;have HB:=hh_ hb;have HA:=hh_ hab;have H:=hh_ h;clear h hr he hb hab;obtain⟨n,u,f,hF⟩:∃n u f,readF l =(n,u,f):=⟨_,_,_,rfl⟩;rw[hF] at C hu hw HE HN;clear hF;dsimp only at hu hw
  have hu0 :(0:Int)≤(u:Int):=by omega
  have hu1 :(u:Int)≤(c:Int):=by omega
  have hu2 :(u:Int)≤(l.length:Int):=by omega
  have hl2 :(l.length:Int)≤(c:Int):=by omega
  go_enter func116,ntmps116
  go_upto_region 4 with(go_at_call 81;refine C.out.mono ?_;rintro en w1 ⟨rfl,g1⟩)
  clear hbl;have HB1:=HB.out.same g1;have H1:=H.out.same g1;have hfr:=HB1.free;have hbl:=HB1.cell;obtain⟨R2,g2⟩:=Rdr.setB HB1 (HR.out.same g1) hlc HA.out hgB hu;have R3:=hh_ (H1.setE f);have R4:=hh_ R2;have KW:=hh_ (Aa_ (Ak_ g1 (some g)) g2);have G1:=hh_ g1;clear HB1 H1 H HB HR HA R2 g2 g1
  by_cases hf:f=0
  ·subst hf
   have HF:=hh_ (HN.out.trans ((if_neg (by simp)).trans (if_neg (by omega))));clear HN HE C R3
   go_wp2_with fail
   ·go_ret
    have r4:=R4.out;have kw:=KW.out;rw[if_pos h,show c-u=0 by omega] at r4 kw;exact⟨by rw[HF.out];rfl,by rw[HF.out];exact r4,kw⟩
   ·go_ret
    have r4:=R4.out;have kw:=KW.out;rw[if_neg h] at r4 kw;exact⟨by rw[HF.out];rfl,by rw[HF.out];exact r4,kw⟩
  ·have hf1 :(f != 0)=true:=by simp[hf]
   have HF:=hh_ (HN.out.trans (if_pos hf));clear HN HE hf C R4 KW
   go_wp2_with fail
   go_ret
   exact⟨by rw[HF.out];rfl,by rw[HF.out];exact R3.out.1,Aa_ (Ak_ G1.out (some g)) R3.out.2⟩
def UpP (B g:Nat) (w:World) (F:Nat×List UInt8×Int) (en:Ending) (w':World):Prop:=
 en=.returned (.int .i64 F.1)∧Rdr B w' g F.2.1 F.2.2∧w.grownBy w' (some g)
theorem Yn_ {most:Nat} {over:Int} {l:List UInt8} {e:Int}:numF most over l e=if (weiF l e).2.2≠0 then (0,(weiF l e).2.1,(weiF l e).2.2) else if most<(weiF l e).1 then (0,(weiF l e).2.1,over) else weiF l e:=by
 have hw:=Ek_ l;unfold weiF numF
 by_cases h1:e≠0
 ·rw[if_pos h1,if_pos h1];simp[h1]
 rw[if_neg h1,if_neg h1]
 by_cases h2 :(readF l).2.2≠0
 ·rw[if_pos h2,if_pos h2];simp[h2]
 rw[if_neg h2,if_neg h2,if_neg (show ¬18446744073709551615<(readF l).1 by omega)]
 simp
theorem Ne_ (B g most:Nat) (over:Int) (l:List UInt8) (e:Int) (w:World) (h:Rdr B w g l e) (hm:most<9223372036854775808) (ho:0<over) :
  Calls Tryz.prog 115 #[.pointer (some ⟨g,0,none⟩),.int .u64 most,.int .i64 over] w (UpP B g w (numF most over l e)):=by
 have C:=hh_ (Lh_ B g l e w h);have HN:=hh_ (Yn_ (most:=most) (over:=over) (l:=l) (e:=e));clear h;obtain⟨n,r,f,hF⟩:∃n r f,weiF l e =(n,r,f):=⟨_,_,_,rfl⟩;rw[hF] at C HN;clear hF
 go_enter func115,ntmps115
 go_upto_region 2 with(go_at_call 116;refine C.out.mono ?_;rintro en w1 ⟨rfl,R,g1⟩)
 have R3:=hh_ (R.setE over);have R4:=hh_ R;have KW:=hh_ g1;obtain⟨a,c,hb,-,-,-⟩:=R.ex;have hbl:=hb.cell;have hfr:=hb.free;clear R hb g1 C
 by_cases hf:f=0
 ·subst hf
  by_cases hn:most<n
  ·have hn2 :(most:Int)<(n:Int):=by omega
   have HF:=hh_ (HN.out.trans ((if_neg (by simp)).trans (if_pos hn)))
   have ho2 :(over != 0)=true:=by simp;omega
   clear HN hn
   go_wp2_with fail
   go_ret
   exact⟨by rw[HF.out];rfl,by rw[HF.out];exact R3.out.1,Aa_ KW.out R3.out.2⟩
  ·have hn2 :(n:Int)≤(most:Int):=by omega
   have HF:=hh_ (HN.out.trans ((if_neg (by simp)).trans (if_neg hn)));have hwr:IntKind.i64.wrap (n:Int) =(n:Int):=IntWalk.i64_in _ (by omega);clear HN hn R3
   go_wp2_with fail
   go_ret
   exact⟨by rw[HF.out];rfl,by rw[HF.out];exact R4.out,KW.out⟩
 ·have hf1 :(f != 0)=true:=by simp[hf]
  have hf2 :(f==0)=false:=by simp[hf]
  have HF:=hh_ (HN.out.trans (if_pos hf));clear HN hf R3
  go_wp2_with fail
  go_ret
  exact⟨by rw[HF.out];rfl,by rw[HF.out];exact R4.out,KW.out⟩
def fy_ (B g:Nat) (w:World) (F:List UInt8×List UInt8×Int) (en:Ending) (w':World):Prop:=
 en=.returned (.string ⟨F.1.toArray⟩)∧Rdr B w' g F.2.1 F.2.2∧w.grownBy w' (some g)
theorem Pz_ (B g most:Nat) (l:List UInt8) (e:Int) (w:World) (h:Rdr B w g l e) (hm:most<4611686018427387904) :
  Calls Tryz.prog 117 #[.pointer (some ⟨g,0,none⟩),.int .u64 most] w (fy_ B g w (textD most l e)):=by
 have C:=hh_ (Ne_ B g most 4 l e w h (by omega) (by omega));have HN:=hh_ (show textD most l e=if (numF most 4 l e).2.2≠0 then ([],(numF most 4 l e).2.1,(numF most 4 l e).2.2) else if (numF most 4 l e).2.1.length<(numF most 4 l e).1 then ([],(numF most 4 l e).2.1,2) else ((numF most 4 l e).2.1.take (numF most 4 l e).1,(numF most 4 l e).2.1.drop (numF most 4 l e).1,0) from rfl);have hw:=(Te_ (most:=most) (over:=4) (l:=l) (e:=e)).2;clear h;obtain⟨n,r,f,hF⟩:∃n r f,numF most 4 l e =(n,r,f):=⟨_,_,_,rfl⟩;rw[hF] at C HN hw;clear hF;dsimp only at hw
 go_enter func117,ntmps117
 go_upto_region 2 with(go_at_call 115;refine C.out.mono ?_;rintro en w1 ⟨rfl,R,g1⟩)
 have R2:=hh_ (R.setE 2);have R4:=hh_ R;have KW:=hh_ g1;obtain⟨a,c,hb,hr,hlc,hab⟩:=R.ex;have hgB:=R.hg;have hbl:=hb.cell;have hfr:=hb.free;have HB:=hh_ hb;have HR:=hh_ hr;have HA:=hh_ hab;clear R hb g1 C hr hab
 by_cases hf:f=0
 ·subst hf
  by_cases hn:r.length<n
  ·have hn2 :(r.length:Int)<(n:Int):=by omega
   have HF:=hh_ (HN.out.trans ((if_neg (by simp)).trans (if_pos hn)));clear HN hn R4 HB HR HA
   go_wp2_with fail
   go_ret
   exact⟨by rw[HF.out];rfl,by rw[HF.out];exact R2.out.1,Aa_ KW.out R2.out.2⟩
  ·have hn2 :(n:Int)≤(r.length:Int):=by omega
   have hn3 :(n:Int)≤(c:Int):=by omega
   have hn0 :(0:Int)≤(n:Int):=by omega
   have hlc2 :(r.length:Int)≤(c:Int):=by omega
   have HF:=hh_ (HN.out.trans ((if_neg (by simp)).trans (if_neg hn)));have hcv:=Vt_ (RdL.take Bl_ HR.out (k:=n) (by omega) c);obtain⟨R5,g2⟩:=Rdr.setB HB.out HR.out hlc HA.out hgB (k:=n) (by omega);have HR5:=hh_ R5;have HG2:=hh_ g2;have HHn:=hh_ hn;clear HN R2 R4 HB HR HA R5 g2 hn
   go_wp2_with fail
   ·go_ret
    have r4:=HR5.out;have kw:=HG2.out;rw[if_pos h,show c-n=0 by omega] at r4 kw;exact⟨by rw[HF.out];rfl,by rw[HF.out];exact r4,Aa_ KW.out kw⟩
   ·go_ret
    have r4:=HR5.out;have kw:=HG2.out;rw[if_neg h] at r4 kw;exact⟨by rw[HF.out];rfl,by rw[HF.out];exact r4,Aa_ KW.out kw⟩
 ·have hf1 :(f != 0)=true:=by simp[hf]
  have hf2 :(f==0)=false:=by simp[hf]
  have HF:=hh_ (HN.out.trans (if_pos hf));clear HN hf R2 HB HR HA
  go_wp2_with fail
  go_ret
  exact⟨by rw[HF.out];rfl,by rw[HF.out];exact R4.out,KW.out⟩
theorem W0_:OneF wordF:=by intro x u hu;simp[wordF] at hu;subst hu;rfl
theorem Y2_:Elt 24 22 (.int .u64 0) 1 8:=⟨underlying24,by kernel_rfl,rfl,by decide⟩
def subF (a b:Int):Int:=if a<b then 0 else a-b
def hiMax (l:List Ln) (un:Int):Int:=(l.map (·.hi)).foldl max un
def CapOk (v:Value):Prop:=∀a n c,v=.slice a n c→n≤c
theorem Own.capOk {α:Type} {f:α→List Value} {s:Nat} {e:TypeId} {B:Nat} {w:World} {v:Value} {l:List α} (h:Own f s e B w v l):CapOk v:=by
 intro a n c hv;obtain⟨a',c',hv'⟩:=h.shape;rw[hv'] at hv;cases hv;exact(hv'▸h:Own f s e B w (.slice a l.length c) l).cap
def From (lo:Nat) (v:Value):Prop:=∀a n c,v=.slice (some a) n c→lo≤a.block
theorem Own.from_ {α:Type} {f:α→List Value} {s:Nat} {e:TypeId} {B:Nat} {w:World} {v:Value} {l:List α} (h:Own f s e B w v l):From B v:=by
 intro a n c hv
 rcases h.2 with⟨rfl,_⟩ |⟨g,cap,cur,rfl,hb,_⟩
 ·cases hv
 ·cases hv;exact hb
theorem RdL.keptFrom {α:Type} {f:α→List Value} {s:Nat} {w w':World} {v:Value} {l:List α} {lo b:Nat} (h:RdL f s w v l) (hf:From lo v) (hg:w.grownBy w' (some b)) (hb:b<lo):RdL f s w' v l:=
 Rd.kept h hg fun k e a n c hv=>by cases e;have:=hf a n c hv;omega
theorem From.le {lo lo':Nat} {v:Value} (h:From lo v) (hl:lo'≤lo):From lo' v:=fun a n c hv=>lt_ hl (h a n c hv)
def selN (k:Int) (l:List Ln):Nat:=min k.toNat l.length
def SelPost (k:Int) (l:List Ln) (w:World) (e:Ending) (w':World):Prop:=
 ∃v1 v2,e=.returned (.tuple #[v1,v2])∧RdL lnF 3 w' v1 ((sortLn l).take (selN k l))∧RdL lnF 3 w' v2 ((sortLn l).drop (selN k l))∧CapOk v1∧From w.heap.size v1∧From w.heap.size v2∧w.grownBy w' none
end
section
open Go.RowKit Go.Sort
structure EvT (B g bx:Nat) (w0:World) (vt:Value) (tm wt:Int) (tags:List TagR) (l:List UInt8) (e:Int) (w:World):Prop where
 res:Blk w B #[.slice none 0 0,.int .i64 0,.int .u64 0]
 box:Blk w bx #[vt,.int .i64 tm,.int .u64 wt]
 rdr:Rdr B w g l e
 ot:Own tagF 2 53 (bx+1) w vt tags
 G:w0.grownBy w none
 hB:w0.heap.size=B
 hg:B<g
 hb:g<bx
section
variable {B g bx:Nat} {w0 w w':World} {vt:Value} {tm wt:Int} {tags:List TagR} {l l':List UInt8} {e e':Int}
theorem EvT.call (h:EvT B g bx w0 vt tm wt tags l e w) (hr:Rdr B w' g l' e') (hg:w.grownBy w' (some g)):EvT B g bx w0 vt tm wt tags l' e' w':=by
 have h1:=h.hB;have h2:=h.hg;have h3:=h.hb;exact⟨h.res.kept hg (by simp;omega),h.box.kept hg (by simp;omega),hr,h.ot.kept hg (fun k hk e=>by cases e;have:=(h.ot.lt _ hk).1;omega),Af_ h.G hg (by omega),h1,h2,h3⟩
theorem EvT.same (h:EvT B g bx w0 vt tm wt tags l e w) (hg:w.grownBy w' none):EvT B g bx w0 vt tm wt tags l e w':=
 ⟨h.res.same hg,h.box.same hg,h.rdr.same hg,h.ot.same hg,Aa_ h.G hg,h.hB,h.hg,h.hb⟩
theorem EvT.set (h:EvT B g bx w0 vt tm wt tags l e w) (tm' wt':Int) (i:Nat) (v:Value) (he :(#[vt,.int .i64 tm,.int .u64 wt]:Array Value).setIfInBounds i v=#[vt,.int .i64 tm',.int .u64 wt']):EvT B g bx w0 vt tm' wt' tags l e (w.setCell ⟨bx,i,none⟩ v):=by
 have h1:=h.hB;have h2:=h.hg;have h3:=h.hb;have hg:w.grownBy (w.setCell ⟨bx,i,none⟩ v) (some bx):=Ac_ (Ab_ w (some bx)) i v;exact⟨h.res.kept hg (by simp;omega),h.box.set_ i v he,h.rdr.kept hg (by simp;omega) (fun k e=>by cases e;omega),h.ot.kept hg (fun k hk e=>by cases e;have:=(h.ot.lt _ hk).1;omega),Af_ h.G hg (by omega),h1,h2,h3⟩
theorem EvT.other {q:Nat} (h:EvT B g bx w0 vt tm wt tags l e w) (hg:w.grownBy w' (some q)) (hq:bx<q) (ho:∀k,vt.ownBlock=some k→k<q):EvT B g bx w0 vt tm wt tags l e w':=by
 have h1:=h.hB;have h2:=h.hg;have h3:=h.hb;exact⟨h.res.kept hg (by simp;omega),h.box.kept hg (by simp;omega),h.rdr.kept hg (by simp;omega) (fun k e=>by cases e;omega),h.ot.kept hg (fun k hk e=>by cases e;have:=ho _ hk;omega),Af_ h.G hg (by omega),h1,h2,h3⟩
theorem EvT.app (h:EvT B g bx w0 vt tm wt tags l e w) {v':Value} {ls':List TagR} (o':Own tagF 2 53 (bx+1) w' v' ls') (hg:w.grownBy w' vt.ownBlock) :
  Blk w' bx #[vt,.int .i64 tm,.int .u64 wt]∧EvT B g bx w0 v' tm wt ls' l e (w'.setCell ⟨bx,0,none⟩ v'):=by
 have h1:=h.hB;have h2:=h.hg;have h3:=h.hb
 have hlo:∀k,vt.ownBlock=some k→bx+1≤k:=fun k hk=>(h.ot.lt k hk).1
 have hb:=h.box.kept hg (fun e=>by have:=hlo _ e;omega);refine⟨hb,?_⟩;have hs:w'.grownBy (w'.setCell ⟨bx,0,none⟩ v') (some bx):=Ac_ (Ab_ w' (some bx)) 0 v'
 exact⟨(h.res.kept hg (fun e=>by have:=hlo _ e;omega)).kept hs (by simp;omega),hb.set_ 0 v' rfl,(h.rdr.kept hg (fun e=>by have:=hlo _ e;omega) (fun k hk=>by have:=hlo _ hk;omega)).kept hs (by simp;omega) (fun k e=>by cases e;omega),
  o'.kept hs (fun k hk e=>by cases e;have:=(o'.lt _ hk).1;omega),Af_ (Ao_ h.G h.ot (by omega) hg) hs (by omega),h1,h2,h3⟩
end
def EvdP (l:List UInt8) (w:World) (en:Ending) (w':World):Prop:=
 (if rawX l=0 then ∃vt,en=.returned (.tuple #[.agg #[vt,.int .i64 (rawE l).1.time,.int .u64 (rawE l).1.weight],.int .i64 (l.length-(rawE l).2.1.length:Nat),.int .i64 0])∧RdL tagF 2 w' vt (rawE l).1.tags
 else en=.returned (.tuple #[.agg #[.slice none 0 0,.int .i64 0,.int .u64 0],.int .i64 0,.int .i64 (rawX l)]))∧w.grownBy w' none
theorem bc_ (v:Value) (l:List UInt8) (w:World) (h:RdL byF 1 w v l) (hc:∀a n c,v=.slice a n c→n≤c) (hl:l.length≤1000000):Calls Tryz.prog 82 #[v] w (EvdP l w):=by
 obtain⟨a,c,rfl⟩:=h.shape;have hlc:=hc _ _ _ rfl;obtain⟨n1,l1,e1,X1⟩:∃n r e,numF 1099511627776 1 l 0 =(n,r,e):=⟨_,_,_,rfl⟩;obtain⟨n2,l2,e2,X2⟩:∃n r e,weiF l1 e1 =(n,r,e):=⟨_,_,_,rfl⟩;obtain⟨n3,l3,e3,X3⟩:∃n r e,numF 8 5 l2 e2 =(n,r,e):=⟨_,_,_,rfl⟩;have HD:=hh_ (show rawE l =(⟨n1,n2,(tagsD n3 l3 e3).1⟩,(tagsD n3 l3 e3).2) by unfold rawE;simp only[X1,X2,X3]);have HX:=hh_ (show rawX l =(tagsD n3 l3 e3).2.2 by unfold rawX;rw[HD.out]);have hleft:=hh_ (K3_ l)
 have C1:=hh_ fun(g:Nat) w' (h:Rdr w.heap.size w' g l 0)=>X1▸Ne_ w.heap.size g 1099511627776 1 l 0 w' h (by omega) (by omega)
 have C2:=hh_ fun(g:Nat) w' (h:Rdr w.heap.size w' g l1 e1)=>X2▸Lh_ w.heap.size g l1 e1 w' h
 have C3:=hh_ fun(g:Nat) w' (h:Rdr w.heap.size w' g l2 e2)=>X3▸Ne_ w.heap.size g 8 5 l2 e2 w' h (by omega) (by omega)
 have hn1:n1≤1099511627776:=by have:=(Te_ (most:=1099511627776) (over:=1) (l:=l) (e:=0)).2;rw[X1] at this;exact this
 have hn3:n3≤8:=by have:=(Te_ (most:=8) (over:=5) (l:=l2) (e:=e2)).2;rw[X3] at this;exact this
 clear X1 X2 X3;have H:=hh_ h;clear h hc
 go_enter func82,ntmps82
 go_upto_region 1 with fail
 have Aa:=Blk.new w #[.slice none 0 0,.int .i64 0,.int .u64 0] 164;have ga:=ga_ w (.cells #[.slice none 0 0,.int .i64 0,.int .u64 0] 164) none
 have za:w.heap.size<(w.alloc (.cells #[.slice none 0 0,.int .i64 0,.int .u64 0] 164)).heap.size:=by simp
 generalize w.alloc _=wa at *
 go_upto_region 2 with fail
 have Bb:=Blk.new wa #[.slice a l.length c,.int .i64 0] 200;have gb:=ga_ wa (.cells #[.slice a l.length c,.int .i64 0] 200) none
 have zb:wa.heap.size<(wa.alloc (.cells #[.slice a l.length c,.int .i64 0] 200)).heap.size:=by simp
 generalize wa.alloc _=wb at *;generalize wa.heap.size=g at *
 go_upto_region 3 with fail
 have Ac:=Blk.new wb #[.slice none 0 0,.int .i64 0,.int .u64 0] 164;have gc:=ga_ wb (.cells #[.slice none 0 0,.int .i64 0,.int .u64 0] 164) none
 have D0:=hh_ (show EvT w.heap.size g wb.heap.size w (.slice none 0 0) 0 0 [] l 0 _ from
  ⟨(Aa.same gb).same gc,Ac,(Rdr.new H.out hlc Bb (Aa_ ga gb) (by omega)).same gc,Own.nil _ _ _ _ _,Aa_ (Aa_ ga gb) gc,rfl,za,zb⟩)
 clear Aa ga za Bb gb zb Ac gc H;generalize wb.alloc _=wc at *;generalize wb.heap.size=bx at *
 go_upto_region 4 with(go_at_call 115;refine(C1.out _ _ D0.out.rdr).mono ?_;rintro en wx ⟨rfl,Rx,gx⟩;have Dx:=D0.out.call Rx gx;have ac:=Dx.box.cell;have af:=Dx.box.free)
 have D1:=hh_ (Dx.set n1 0 1 (.int .i64 n1) rfl);clear Dx Rx gx ac af C1 D0;generalize wx.setCell ⟨bx,1,none⟩ (.int .i64 n1)=w1 at *;clear wx
 go_upto_region 5 with(go_at_call 116;refine(C2.out _ _ D1.out.rdr).mono ?_;rintro en wx ⟨rfl,Rx,gx⟩;have Dx:=D1.out.call Rx gx;have ac:=Dx.box.cell;have af:=Dx.box.free)
 have D2:=hh_ (Dx.set n1 n2 2 (.int .u64 n2) rfl);clear Dx Rx gx ac af C2 D1;generalize wx.setCell ⟨bx,2,none⟩ (.int .u64 n2)=w2 at *;clear wx
 go_upto_region 6 with(go_at_call 115;refine(C3.out _ _ D2.out.rdr).mono ?_;rintro en w3 ⟨rfl,Rx,gx⟩)
 have D3:=hh_ (D2.out.call Rx gx);clear Rx gx D2 C3
 go_loopw [7] (fun s7 wk=>∃(j:Nat) (vt:Value),j≤n3∧s7=.int .i64 ((n3:Int)-j)∧EvT w.heap.size g bx w vt n1 n2 (tagsD j l3 e3).1 (tagsD j l3 e3).2.1 (tagsD j l3 e3).2.2 wk) (fun s7 _=>(RowKit.intOf s7).toNat)
 case atStart=>exact⟨0,_,by omega,by go_num,D3.out⟩
 case round=>
  clear D3;obtain⟨j,vt,hj,rfl,hD⟩:=hrel;have HDk:=hh_ hD;clear hD
  by_cases hlt:j<n3
  ·have hlen:=Xh_ j l3 e3
   have HS:=hh_ (show((tagsD j l3 e3).1++[(tagD (tagsD j l3 e3).2.1 (tagsD j l3 e3).2.2).1],(tagD (tagsD j l3 e3).2.1 (tagsD j l3 e3).2.2).2)=tagsD (j+1) l3 e3 from rfl);generalize tagsD j l3 e3=TD at *;obtain⟨nm,la,ea,Xa⟩:∃n r e,textD 4096 TD.2.1 TD.2.2 =(n,r,e):=⟨_,_,_,rfl⟩;obtain⟨vl,lb,eb,Xb⟩:∃n r e,textD 4096 la ea =(n,r,e):=⟨_,_,_,rfl⟩;have HL:=hh_ (show tagD TD.2.1 TD.2.2 =(⟨⟨nm.toArray⟩,⟨vl.toArray⟩⟩,lb,eb) by unfold tagD;simp only[Xa,Xb])
   have Ca:=hh_ fun w' (h:Rdr w.heap.size w' g TD.2.1 TD.2.2)=>Xa▸Pz_ w.heap.size g 4096 _ _ w' h (by omega)
   have Cb:=hh_ fun w' (h:Rdr w.heap.size w' g la ea)=>Xb▸Pz_ w.heap.size g 4096 _ _ w' h (by omega)
   clear Xa Xb
   have hj1 :(0:Int)<(n3:Int)-(j:Int):=by omega
   have hb3 :(TD.1.length+1)*32≤140737488355328:=by omega
   have hb4:TD.1.length+1≤9223372036854775807:=by omega
   have Hlen:=hh_ hlen;clear hlen
   go_upto_region 9 with fail
   have by0:bx<wr.heap.size:=HDk.out.box.lt
   have ol0:∀q,vt.ownBlock=some q→q<wr.heap.size:=fun q hq=>(HDk.out.ot.lt q hq).2
   have Ay:=hh_ (Blk.new wr #[.string ⟨#[]⟩,.string ⟨#[]⟩] 53);have Dy:=hh_ (HDk.out.same (ga_ wr (.cells #[.string ⟨#[]⟩,.string ⟨#[]⟩] 53) none));generalize wr.alloc _=wy at *;generalize wr.heap.size=by' at *;have hgb:g<bx:=HDk.out.hb;clear HDk
   go_upto_region 10 with(go_at_call 117;refine(Ca.out _ Dy.out.rdr).mono ?_;rintro en wx ⟨rfl,Rx,gx⟩;have Dx:=Dy.out.call Rx gx;have Ax:=Ay.out.kept gx (by simp;omega);have ac:=Ax.cell;have af:=Ax.free)
   have g1:wx.grownBy (wx.setCell ⟨by',0,none⟩ (.string ⟨nm.toArray⟩)) (some by'):=Ac_ (Ab_ wx (some by')) 0 _;have D1:=hh_ (Dx.other g1 by0 ol0);have A1:=hh_ (Ax.set_ 0 (.string ⟨nm.toArray⟩) rfl);clear Dx Ax ac af Rx gx g1 Dy Ay Ca;generalize wx.setCell ⟨by',0,none⟩ (.string ⟨nm.toArray⟩)=z1 at *;clear wx
   go_upto_region 11 with(go_at_call 117;refine(Cb.out _ D1.out.rdr).mono ?_;rintro en wx ⟨rfl,Rx,gx⟩;have Dx:=D1.out.call Rx gx;have Ax:=A1.out.kept gx (by simp;omega);have ac:=Ax.cell;have af:=Ax.free)
   have g1:wx.grownBy (wx.setCell ⟨by',1,none⟩ (.string ⟨vl.toArray⟩)) (some by'):=Ac_ (Ab_ wx (some by')) 1 _;have D2:=hh_ (Dx.other g1 by0 ol0);have A2:=(Ax.set_ 1 (.string ⟨vl.toArray⟩) rfl).cell;clear Dx Ax ac af Rx gx g1 D1 A1 Cb;generalize wx.setCell ⟨by',1,none⟩ (.string ⟨vl.toArray⟩)=z2 at *;clear wx;have bq:=D2.out.box.cell;have bqf:=D2.out.box.free;have hbase:bx+1≤z2.heap.size:=D2.out.box.lt;have Hcs:=hh_ (show(#[Value.string ⟨nm.toArray⟩,.string ⟨vl.toArray⟩]:Array Value).toList=tagF ⟨⟨nm.toArray⟩,⟨vl.toArray⟩⟩ from rfl)
   go_wp2_with (at_builtin;refine A6_ B5_ Cr_ Av_ D2.out.ot ⟨⟨nm.toArray⟩,⟨vl.toArray⟩⟩ hb3 hb4 hbase Hcs.out (by rfl) _ _ (by rfl) (by rfl) (by rfl) ?_;intro v3 w3 o3 g3 l3;obtain⟨a3,c3,rfl⟩:=o3.shape;obtain⟨b3,D3⟩:=D2.out.app o3 g3;have ac3:=b3.cell;have af3:=b3.free)
   simp only[la_,ls_] at D3;exact⟨⟨j+1,_,by omega,congrArg _ (by omega),by rw[←HS.out,HL.out];exact D3⟩,by simp[RowKit.intOf];omega⟩
  ·obtain rfl:j=n3:=by omega
   clear hlt hj;generalize tagsD j l3 e3=TD at *;obtain⟨TS,lz,ez⟩:=TD;dsimp only at HDk HD HX
   have hjz:¬(0:Int)<(j:Int)-(j:Int):=by omega
   have hjj :(j:Int)-(j:Int)=0:=by omega
   rw[hjj];clear hjj hjz;have hres:=HDk.out.res.cell;have hrf:=HDk.out.res.free;obtain⟨az,cz,hbz,-,-,-⟩:=HDk.out.rdr.ex;have bc:=hbz.cell;have hbx:=HDk.out.box.cell;have HW:=hh_ (HDk.out.ot);have HG:=hh_ HDk.out.G
   have hq:∀(v:Value) (t1 t2:Int) w',w' =((wr.setCell ⟨w.heap.size,0,none⟩ v).setCell ⟨w.heap.size,1,none⟩ (.int .i64 t1)).setCell ⟨w.heap.size,2,none⟩ (.int .u64 t2)→wr.grownBy w' (some w.heap.size):=fun v t1 t2 w' e=>e▸Ac_ (Ac_ (Ac_ (Ab_ _ _) _ _) _ _) _ _
   have HQ:=hh_ hq;clear hq;obtain⟨ta,tcp,rfl⟩:=HDk.out.ot.shape
   have hlt:lz.length≤l.length:=by have:=hleft.out;rw[HD.out] at this;exact this
   have HR:=hh_ HDk.out;have bc0:wr.cell? ⟨g,0,none⟩=some (.slice az lz.length cz):=bc 0;have bc1:wr.cell? ⟨g,1,none⟩=some (.int .i64 ez):=bc 1;have bx0:wr.cell? ⟨bx,0,none⟩=some (.slice ta TS.length tcp):=hbx 0;have bx1:wr.cell? ⟨bx,1,none⟩=some (.int .i64 n1):=hbx 1;have bx2:wr.cell? ⟨bx,2,none⟩=some (.int .u64 n2):=hbx 2;have rs0:wr.cell? ⟨w.heap.size,0,none⟩=some (.slice none 0 0):=hres 0;have rs1:wr.cell? ⟨w.heap.size,1,none⟩=some (.int .i64 0):=hres 1;have rs2:wr.cell? ⟨w.heap.size,2,none⟩=some (.int .u64 0):=hres 2;have rf0:=hrf 0;have rf1:=hrf 1;have rf2:=hrf 2
   have hne1:w.heap.size≠g:=by have:=HDk.out.hg;omega
   have hne2:w.heap.size≠bx:=by have:=HDk.out.hg;have:=HDk.out.hb;omega
   by_cases hz:ez=0
   ·subst hz
    have HX0:=hh_ HX.out
    go_wp2_with fail
    go_region
    go_wp2_with fail
    have rc:=(((HR.out.res.set_ 0 (.slice ta TS.length tcp) rfl).set_ 1 (.int .i64 n1) rfl).set_ 2 (.int .u64 n2) rfl).cell;have g1:=HQ.out (.slice ta TS.length tcp) n1 n2 _ rfl;refine bodyPost_ret (v:=.tuple #[.agg #[.slice ta TS.length tcp,.int .i64 n1,.int .u64 n2],.int .i64 ((l.length:Int)-lz.length),.int .i64 0]) (by simp[results,results82,go_sem,rc]) rfl ?_;have hot:=HW.out.kept g1 (fun k hk e=>by cases e;have:=(HW.out.lt _ hk).1;have:=HR.out.hg;have:=HR.out.hb;omega);refine⟨?_,Aa_ (Af_ HG.out g1 (le_ _)) gw_⟩;rw[if_pos HX0.out,HD.out];exact⟨.slice ta TS.length tcp,by dsimp only;rw[Int.ofNat_sub hlt],(hot.same gw_).rd⟩
   ·have hz1 :(ez==0)=false:=by simp[hz]
    have hz2 :(ez != 0)=true:=by simp[hz]
    have HZ:=hh_ hz;clear hz
    go_wp2_with fail
    go_region
    go_wp2_with fail
    have rc:=(((HR.out.res.set_ 0 (.slice none 0 0) rfl).set_ 1 (.int .i64 0) rfl).set_ 2 (.int .u64 0) rfl).cell;have g1:=HQ.out (.slice none 0 0) 0 0 _ rfl;refine bodyPost_ret (v:=.tuple #[.agg #[.slice none 0 0,.int .i64 0,.int .u64 0],.int .i64 0,.int .i64 ez]) (by simp[results,results82,go_sem,rc]) rfl ?_;refine⟨?_,Aa_ (Af_ HG.out g1 (le_ _)) gw_⟩;rw[if_neg (by rw[HX.out];exact HZ.out),HX.out]
end
section
open Go.RowKit Go.Sort
theorem N4_ (e:Int) (w:World):Calls Tryz.prog 84 #[.int .i64 e] w (No_ (verE e) w):=by
 go_enter func84,ntmps84
 by_cases h:e=0
 ·subst h
  go_wp2_with fail
  go_ret
  exact⟨rfl,rfl⟩
 ·have h1 :(e==0)=false:=by simp[h]
  by_cases h4:e=4
  ·subst h4
   go_wp2_with fail
   go_ret
   exact⟨rfl,rfl⟩
  ·have h2 :(e==4)=false:=by simp[h4]
   have HV:=hh_ (show verE e=1 by unfold verE;rw[if_neg h,if_neg h4]);clear h h4
   go_wp2_with fail
   go_ret
   exact⟨by rw[HV.out];rfl,rfl⟩
def ItemP (x:RawE) (w:World) (en:Ending) (w':World):Prop:=en=.returned (.tuple #[.agg #[.string (itemR x).key,.int .i64 (itemR x).time,.int .u64 (itemR x).weight],.int .i64 (itemE x)])∧w.grownBy w' none
theorem Ue_ {x:RawE} {w w':World} {E:Int} (h:itemE x=E) (h0:E≠0) (hg:w.grownBy w' none):ItemP x w (.returned (.tuple #[.agg #[.string ⟨#[]⟩,.int .i64 0,.int .u64 0],.int .i64 E])) w':=by
 unfold ItemP itemR;rw[h,if_neg h0];exact⟨rfl,hg⟩
theorem d0_ (vt:Value) (x:RawE) (w:World) (h:RdL tagF 2 w vt x.tags) (hW:∀t∈x.tags,TagW t):Calls Tryz.prog 83 #[.agg #[vt,.int .i64 x.time,.int .u64 x.weight]] w (ItemP x w):=by
 obtain⟨a,c,rfl⟩:=h.shape;have C:=hh_ (show ∀y,w.grownBy y none→Calls Tryz.prog 16 #[.slice a x.tags.length c] y (fun e w'=>e=.returned (.tuple #[.string (keyY x.tags),.int .i64 (keyE x.tags)])∧y.grownBy w' none) from fun y q=>Hg_ _ x.tags y (h.same q) hW);have HP:=hh_ (show ∀(E:Int) w',itemE x=E→E≠0→w.grownBy w' none→ItemP x w (.returned (.tuple #[.agg #[.string ⟨#[]⟩,.int .i64 0,.int .u64 0],.int .i64 E])) w' from fun E w' h h0 hg=>Ue_ h h0 hg);have HE:=hh_ (show itemE x=if x.time<0∨1099511627776<x.time∨x.weight<1∨9223372036854775808<x.weight then 1 else keyE x.tags from rfl)
 have HG:=hh_ (show keyE x.tags=0→itemE x=keyE x.tags→∀w',w.grownBy w' none→ItemP x w (.returned (.tuple #[.agg #[.string (keyY x.tags),.int .i64 x.time,.int .u64 x.weight],.int .i64 0])) w' from fun h0 h1 w' hg=>by
  unfold ItemP itemR;rw[h1,h0,if_pos rfl];exact⟨rfl,hg⟩)
 clear h hW;generalize x.tags.length=n at *;generalize keyE x.tags=E at *;generalize keyY x.tags=Y at *;generalize x.time=tm at *;generalize x.weight=wt at *
 go_enter func83,ntmps83
 go_upto_region 1 with fail
 have A1:=Blk.new w #[.slice a n c,.int .i64 tm,.int .u64 wt] 164;have g1:=ga_ w (.cells #[.slice a n c,.int .i64 tm,.int .u64 wt] 164) none;have A2:Blk ((w.alloc (.cells #[.slice a n c,.int .i64 tm,.int .u64 wt] 164)).alloc (.cells #[.string ⟨#[]⟩,.int .i64 0,.int .u64 0] 41)) (w.heap.size+1) #[.string ⟨#[]⟩,.int .i64 0,.int .u64 0]:=Blk.new' _ _ _ (by simp);have g2:=ga_ (w.alloc (.cells #[.slice a n c,.int .i64 tm,.int .u64 wt] 164)) (.cells #[.string ⟨#[]⟩,.int .i64 0,.int .u64 0] 41) none;have B1:=hh_ (A1.same g2);have K:=hh_ (Aa_ g1 g2);have HA2:=hh_ A2;clear A1 g1 g2 A2;generalize (w.alloc (.cells #[.slice a n c,.int .i64 tm,.int .u64 wt] 164)).alloc (.cells #[.string ⟨#[]⟩,.int .i64 0,.int .u64 0] 41)=w2 at *;generalize hq1:w.heap.size=q1 at *;have c1:=B1.out.cell;have r1:=HA2.out.cell;have f1:=HA2.out.free
 by_cases p:tm<0∨1099511627776<tm∨wt<1∨9223372036854775808<wt
 ·have HE1:=HE.out.trans (if_pos p)
  have HB:=hh_ (HP.out 1 · HE1 (by omega));clear HE HG C HE1;have hgw:=Af_ K.out (show World.grownBy w2 (((w2.setCell ⟨q1+1,0,none⟩ (.string ⟨#[]⟩)).setCell ⟨q1+1,1,none⟩ (.int .i64 0)).setCell ⟨q1+1,2,none⟩ (.int .u64 0)) (some (q1+1)) from Ac_ (Ac_ (Ac_ (Ab_ _ _) _ _) _ _) _ _) (by omega);have HHg:=hh_ hgw;have rc:=(((HA2.out.set_ 0 (.string ⟨#[]⟩) rfl).set_ 1 (.int .i64 0) rfl).set_ 2 (.int .u64 0) rfl).cell;have Hrc:=hh_ rc;clear rc hgw
  by_cases p1:tm<0
  ·clear p
   go_wp2_with fail
   have rc:=Hrc.out;refine bodyPost_ret (v:=.tuple #[.agg #[.string ⟨#[]⟩,.int .i64 0,.int .u64 0],.int .i64 1]) (by simp[results,results83,go_sem,rc]) rfl ?_;exact HB.out _ HHg.out
  ·have p1':0≤tm:=by omega
   by_cases p2:1099511627776<tm
   ·clear p p1
    go_wp2_with fail
    have rc:=Hrc.out;refine bodyPost_ret (v:=.tuple #[.agg #[.string ⟨#[]⟩,.int .i64 0,.int .u64 0],.int .i64 1]) (by simp[results,results83,go_sem,rc]) rfl ?_;exact HB.out _ HHg.out
   ·have p2':tm≤1099511627776:=by omega
    by_cases p3:wt<1
    ·clear p p1 p2
     go_wp2_with fail
     have rc:=Hrc.out;refine bodyPost_ret (v:=.tuple #[.agg #[.string ⟨#[]⟩,.int .i64 0,.int .u64 0],.int .i64 1]) (by simp[results,results83,go_sem,rc]) rfl ?_;exact HB.out _ HHg.out
    ·have p3':1≤wt:=by omega
     have p4:9223372036854775808<wt:=by omega
     clear p p1 p2 p3
     go_wp2_with fail
     have rc:=Hrc.out;refine bodyPost_ret (v:=.tuple #[.agg #[.string ⟨#[]⟩,.int .i64 0,.int .u64 0],.int .i64 1]) (by simp[results,results83,go_sem,rc]) rfl ?_;exact HB.out _ HHg.out
 ·have p1:0≤tm:=by omega
  have p2:tm≤1099511627776:=by omega
  have p3:1≤wt:=by omega
  have p4:wt≤9223372036854775808:=by omega
  have HE2:=hh_ (HE.out.trans (if_neg p));clear p HE
  go_upto_region 4 with(go_at_call 16;refine(C.out _ K.out).mono ?_;rintro e w3 ⟨rfl,g3⟩)
  have B3:=hh_ (B1.out.same g3);have A3:=hh_ (HA2.out.same g3);have K3:=hh_ (Aa_ K.out g3);clear c1 r1 f1 B1 HA2 K g3 C;have c1:=B3.out.cell;have r1:=A3.out.cell;have f1:=A3.out.free
  by_cases h0:E=0
  ·subst h0
   have HHg:=hh_ (Af_ K3.out (show World.grownBy w3 (((w3.setCell ⟨q1+1,0,none⟩ (.string Y)).setCell ⟨q1+1,1,none⟩ (.int .i64 tm)).setCell ⟨q1+1,2,none⟩ (.int .u64 wt)) (some (q1+1)) from Ac_ (Ac_ (Ac_ (Ab_ _ _) _ _) _ _) _ _) (by omega));have Hrc:=hh_ (((A3.out.set_ 0 (.string Y) rfl).set_ 1 (.int .i64 tm) rfl).set_ 2 (.int .u64 wt) rfl).cell
   go_upto_region 6 with fail
   go_wp2_with fail
   have rc:=Hrc.out;refine bodyPost_ret (v:=.tuple #[.agg #[.string Y,.int .i64 tm,.int .u64 wt],.int .i64 0]) (by simp[results,results83,go_sem,rc]) rfl ?_;exact HG.out (by trivial) HE2.out _ HHg.out
  ·have h1 :(E==0)=false:=by simp[h0]
   have h2 :(E != 0)=true:=by simp[h0]
   have HHg:=hh_ (Af_ K3.out (show World.grownBy w3 (((w3.setCell ⟨q1+1,0,none⟩ (.string ⟨#[]⟩)).setCell ⟨q1+1,1,none⟩ (.int .i64 0)).setCell ⟨q1+1,2,none⟩ (.int .u64 0)) (some (q1+1)) from Ac_ (Ac_ (Ac_ (Ab_ _ _) _ _) _ _) _ _) (by omega));have Hrc:=hh_ (((A3.out.set_ 0 (.string ⟨#[]⟩) rfl).set_ 1 (.int .i64 0) rfl).set_ 2 (.int .u64 0) rfl).cell;have H0:=hh_ h0;clear h0
   go_wp2_with fail
   have rc:=Hrc.out;refine bodyPost_ret (v:=.tuple #[.agg #[.string ⟨#[]⟩,.int .i64 0,.int .u64 0],.int .i64 E]) (by simp[results,results83,go_sem,rc]) rfl ?_;exact HP.out E _ HE2.out H0.out HHg.out
theorem fi_ {l:List UInt8} {w:World} (hE:rawX l≠0) {v:Value} (h:Calls Tryz.prog 82 #[v] w (EvdP l w)):Calls Tryz.prog 82 #[v] w (fun e w'=>e=.returned (.tuple #[.agg #[.slice none 0 0,.int .i64 0,.int .u64 0],.int .i64 0,.int .i64 (rawX l)])∧w.grownBy w' none):=
 h.mono fun e w' h=>by unfold EvdP at h;rw[if_neg hE] at h;exact h
theorem cp_ {l:List UInt8} {w:World} (hE:rawX l=0) {v:Value} (h:Calls Tryz.prog 82 #[v] w (EvdP l w)):Calls Tryz.prog 82 #[v] w (fun e w'=>∃va cp,e=.returned (.tuple #[.agg #[.slice va (rawE l).1.tags.length cp,.int .i64 (rawE l).1.time,.int .u64 (rawE l).1.weight],.int .i64 (l.length-(rawE l).2.1.length:Nat),.int .i64 0])∧RdL tagF 2 w' (.slice va (rawE l).1.tags.length cp) (rawE l).1.tags∧w.grownBy w' none):=
 h.mono fun e w' h=>by
  unfold EvdP at h;rw[if_pos hE] at h;obtain⟨⟨vt,h1,h2⟩,h3⟩:=h;obtain⟨va,cp,rfl⟩:=h2.shape;exact⟨va,cp,h1,h2,h3⟩
theorem e3_ {α:Type} {f:α→List Value} {s:Nat} {w:World} {a:Option Addr} {n c:Nat} {l:List α} (h:RdL f s w (.slice a n c) l):∀ad,a=some ad→0<l.length→ad.block<w.heap.size:=by
 intro ad e h0;subst e
 rcases h.2.2 with⟨h1,_⟩ |⟨g,off,cap,hv,hlt,_⟩
 ·omega
 ·cases hv;exact hlt
theorem O7_ {a:Option Addr} {c k B m:Nat} {od:Option Addr} (hod :(if c=k then a else Option.map (fun x=>Addr.add x k) a)=od) (h:∀ad,a=some ad→0<m→ad.block<B):∀ad,od=some ad→0<m→ad.block<B:=by
 intro ad e h0;subst hod
 split at e
 ·exact h ad e h0
 ·cases a with
  | none=>simp at e
  | some x=>simp at e;rw[←e,Ld_];exact h x rfl h0
theorem Hf_:Elt 115 114 (.agg #[.string ⟨#[]⟩,.int .i64 0,.int .u64 0,.int .i64 0]) 4 40:=⟨underlying115,by kernel_rfl,rfl,by decide⟩
theorem Mt_ (w:World) (x:InpR):Own inpF 4 114 w.heap.size (w.alloc (.cells #[.string x.it.key,.int .i64 x.it.time,.int .u64 x.it.weight,.int .i64 x.ver] 114)) (.slice (some ⟨w.heap.size,0,none⟩) 1 1) [x]:=
 ⟨by simp[cellsOf,inpF],.inr ⟨w.heap.size,1,_,rfl,le_ _,heap_alloc_new w _,by simp,by unfold maxLen;omega,by simp,by simp[cellsOf,inpF]⟩⟩
theorem X9_ (v:Value) (b:List UInt8) (most:Int) (w:World) (h:RdL byF 1 w v b) (hc:∀a n c,v=.slice a n c→n≤c) (hl:b.length≤1000000) (_:0≤most∧most≤1000):Calls Tryz.prog 47 #[v,.int .i64 most] w (RetOwn inpF 4 114 (inputsF most b) w):=by
 obtain⟨a,c,rfl⟩:=h.shape;have hlc:=hc _ _ _ rfl
 have CR:=hh_ fun w' (h:RdL byF 1 w' (.slice a b.length c) b)=>Mu_ _ b w' h
 have hu:=Fp_ b;have hw:=Ek_ b;have HF:=hh_ (show inputsF most b=if (readF b).2.2≠0∨(readF b).1<1∨64<(readF b).1 then [inpBad] else inpsD most (readF b).1 (b.drop (readF b).2.1) from rfl);obtain⟨n,used,e0,hX⟩:∃n u e,readF b =(n,u,e):=⟨_,_,_,rfl⟩;rw[hX] at CR HF hu hw;clear hX;dsimp only at hu hw;have H:=hh_ h;clear h hc;have HP:=hh_ (p:=∀(l:List InpR),inputsF most b=l→∀v' w',Own inpF 4 114 w.heap.size w' v' l→w.grownBy w' none→RetOwn inpF 4 114 (inputsF most b) w (.returned v') w') (fun l e v' w' ho hg=>⟨v',rfl,e▸ho,hg⟩)
 go_enter func47,ntmps47
 by_cases p:e0≠0∨n<1∨64<n
 ·have HF1:=hh_ (HF.out.trans (if_pos p))
  have HE:=hh_ fun w1 (g:w.grownBy w1 none)=>HP.out _ HF1.out _ _ ((Mt_ w1 inpBad).base fun k hk=>by have h1:=((Mt_ w1 inpBad).lt k hk).1;have:=g.size;omega) (Aa_ g (ga_ w1 _ none))
  clear HF HF1 HP
  by_cases p1:e0=0
  ·subst p1
   by_cases p2:n<1
   ·have p2' :(n:Int)<1:=by omega
    clear p p2
    go_upto_region 3 with(go_at_call 81;refine(CR.out _ H.out).mono ?_;rintro e w1 ⟨rfl,g1⟩)
    go_wp2_with fail
    go_ret
    exact HE.out _ g1
   ·have p2':1≤(n:Int):=by omega
    have p3:64<(n:Int):=by omega
    clear p p2
    go_upto_region 3 with(go_at_call 81;refine(CR.out _ H.out).mono ?_;rintro e w1 ⟨rfl,g1⟩)
    go_wp2_with fail
    go_ret
    exact HE.out _ g1
  ·have p2 :(e0 != 0)=true:=by simp[p1]
   clear p p1
   go_upto_region 3 with(go_at_call 81;refine(CR.out _ H.out).mono ?_;rintro e w1 ⟨rfl,g1⟩)
   go_wp2_with fail
   go_ret
   exact HE.out _ g1
 ·have p0:e0=0:=by omega
  subst p0
  have p1:1≤(n:Int):=by omega
  have p2 :(n:Int)≤64:=by omega
  have HF2:=hh_ (HF.out.trans (if_neg p));clear HF p
  have hus :(used:Int)≤(b.length:Int):=by omega
  have hus2 :(used:Int)≤(c:Int):=by omega
  have hu0 :(0:Int)≤(used:Int):=by omega
  have R0:=RdL.drop Bl_ H.out hu hlc (c-used);rw[Nat.mul_one] at R0;obtain⟨od,hod⟩:∃od,(if c=used then a else Option.map (fun x=>Addr.add x used) a)=od:=⟨_,rfl⟩;rw[hod] at R0;have HR0:=hh_ R0;have hdl :(b.drop used).length=b.length-used:=List.length_drop
  have hdb :(b.drop used).length≤b.length:=by omega
  clear R0
  go_upto_region 7 with(go_at_call 81;refine(CR.out _ H.out).mono ?_;rintro e w1 ⟨rfl,g1⟩)
  go_loopw [8,9,10] (fun s8 s9 s10 wr=>∃(k:Nat) (r:List UInt8) (pre:List InpR) (ra:Option Addr) (rc:Nat),k≤n∧s10=.int .u64 k∧s9=.slice ra r.length rc∧RdL byF 1 wr (.slice ra r.length rc) r∧r.length≤rc∧r.length≤b.length∧(∀ad,ra=some ad→0<r.length→ad.block<w.heap.size)∧pre.length=k∧pre++inpsD most (n-k) r=inputsF most b∧Own inpF 4 114 w.heap.size wr s8 pre∧w.grownBy wr none) (fun _ _ s10 _=>n-(RowKit.intOf s10).toNat)
  case atStart=>exact⟨0,b.drop used,[],od,c-used,by omega,rfl,by rw[hdl],by rw[hdl];exact RdL.same HR0.out g1,by omega,hdb,fun ad e h0=>O7_ hod (m:=b.length) (e3_ H.out) ad e (by omega),rfl,by rw[HF2.out];rfl,Own.nil _ _ _ _ _,g1⟩
  case round=>
   clear HR0 g1 hod hdl hdb CR H HF2 hus hus2 hu0 hu hlc;obtain⟨k,r,pre,ra,rc,hk,rfl,rfl,hR,hrc,hrb,hlow,hpl,hT,hO,hg⟩:=hrel;subst hpl;have HO:=hh_ hO;have HG:=hh_ hg;have hOs:=hO.shape;have hsz:=hg.size;clear hO
   by_cases hlt:pre.length<n
   ·have hkn :(pre.length:Int)<(n:Int):=by omega
    obtain⟨m,hm1⟩:∃m,n-pre.length=m+1:=⟨n-pre.length-1,by omega⟩;have CD:=hh_ (bc_ _ r wr hR (fun a n c e=>by cases e;exact hrc) (by omega));have HRr:=hh_ hR;clear hR
    have hb3 :(pre.length+1)*40≤140737488355328:=by omega
    have hb4:pre.length+1≤9223372036854775807:=by omega
    obtain⟨pa,pc,rfl⟩:=hOs
    by_cases hE:rawX r=0
    ·have CDy:=hh_ (cp_ hE CD.out)
     have hW:=Rn_ r;have hdr:=S9_ r;have hle:=K3_ r;obtain⟨X,hX⟩:∃X,(rawE r).1=X:=⟨_,rfl⟩;obtain⟨rr,hrr⟩:∃rr,(rawE r).2.1=rr:=⟨_,rfl⟩
     have HT:=hh_ (show(pre++[inpOf most X])++inpsD most (n-(pre.length+1)) rr=inputsF most b by
      rw[←hT,hm1,show n-(pre.length+1)=m by omega,←hX,←hrr]
      conv=>rhs;unfold inpsD
      rw[if_neg (by simp[hE]),List.append_assoc];rfl)
     rw[hX] at hW CDy;rw[hrr] at hdr hle CDy;obtain⟨u2,hu2⟩:∃u2,r.length-rr.length=u2:=⟨_,rfl⟩;rw[hu2] at hdr CDy
     have hu2l:u2≤r.length:=by omega
     have R1:=RdL.drop Bl_ HRr.out hu2l hrc (rc-u2);rw[hdr,Nat.mul_one,show r.length-u2=rr.length by omega] at R1
     have hul :(u2:Int)≤(r.length:Int):=by omega
     have huc :(u2:Int)≤(rc:Int):=by omega
     have hu0 :(0:Int)≤(u2:Int):=by omega
     obtain⟨od2,hod2⟩:∃od2,(if rc=u2 then ra else Option.map (fun x=>Addr.add x u2) ra)=od2:=⟨_,rfl⟩;rw[hod2] at R1;have HR1:=hh_ R1;have HL2:=hh_ (show ∀ad,od2=some ad→0<rr.length→ad.block<w.heap.size from fun ad e h0=>O7_ hod2 (m:=r.length) hlow ad e (by omega));clear hlow
     have hrl:r.length-u2=rr.length:=by omega
     have hrcu:rr.length≤rc-u2:=by omega
     have hrrb:rr.length≤b.length:=by omega
     have CI:=hh_ fun y va cp (q:RdL tagF 2 y (.slice va X.tags.length cp) X.tags)=>d0_ (.slice va X.tags.length cp) X y q (fun t ht=>⟨by have:=(hW t ht).1;omega,by have:=(hW t ht).2;omega⟩)
     have HI:=hh_ (show ItemP X=fun w e w'=>e=.returned (.tuple #[.agg #[.string (itemR X).key,.int .i64 (itemR X).time,.int .u64 (itemR X).weight],.int .i64 (itemE X)])∧w.grownBy w' none from rfl);clear CD hE hT hX hrr R1 HRr hdr hW hu2 hle hg
     go_upto_region 16 with(go_at_call 82;refine CDy.out.mono ?_;rintro e w2 ⟨va,cp,rfl,Rt,g2⟩)
     have A3:=(Blk.new w2 #[.slice va X.tags.length cp,.int .i64 X.time,.int .u64 X.weight] 164).cell;have g3:=ga_ w2 (.cells #[.slice va X.tags.length cp,.int .i64 X.time,.int .u64 X.weight] 164) none;have G3:=Aa_ g2 g3;have R3:=Rt.same g3;have CI3:=hh_ (CI.out _ va cp R3);rw[HI.out] at CI3
     have hkey :(itemR X).key.size≤255:=by unfold itemR;split;exact Jh_ _;exact zl_ _
     have HIN:∀v,v=inpV most X→inpOf most X =⟨if v=0 then itemR X else itZ,v⟩:=fun v e=>by rw[e];rfl
     have HZ:itemE X≠0→itemR X=itZ:=fun h=>if_neg h
     have HV:inpV most X=if verE (itemE X)=0∧most<(itemR X).key.size then 2 else verE (itemE X):=rfl
     obtain⟨it,hit⟩:∃it,itemR X=it:=⟨_,rfl⟩;obtain⟨E,hE⟩:∃E,itemE X=E:=⟨_,rfl⟩;rw[hit,hE] at CI3 HV HZ;rw[hit] at HIN hkey;have HV:=hh_ HV;have HZ:=hh_ HZ;have HIN:=hh_ HIN;clear CI HI hit hE Rt R3 g2 g3 CDy;generalize w2.alloc _=w3 at *;generalize hq3:w2.heap.size=q3 at *;clear hq3
     go_upto_region 17 with(go_at_call 83;refine CI3.out.mono ?_;rintro e w4 ⟨rfl,g4⟩)
     have A5:=hh_ (Blk.new w4 #[.string it.key,.int .i64 it.time,.int .u64 it.weight] 41);have G5:=Aa_ G3 (Aa_ g4 (ga_ w4 (.cells #[.string it.key,.int .i64 it.time,.int .u64 it.weight] 41) none));have HR5:=hh_ (HR1.out.same G5);have HO5:=hh_ (HO.out.same G5);have HG5:=hh_ (Aa_ HG.out G5);have hq4:wr.heap.size≤w4.heap.size:=(Aa_ G3 g4).size
     have hOl:=hh_ fun q hq=>(HO.out.lt q hq).2
     clear HR1 HO HG G5 G3 g4 A3 CI3;generalize w4.alloc _=w5 at *;generalize w4.heap.size=q4 at *
     have CV:=hh_ fun y=>N4_ E y
     have a5:=A5.out.cell;have f5:=A5.out.free
     by_cases hE:E=0
     ·subst hE
      have CV:=hh_ (show Calls Tryz.prog 84 #[.int .i64 0] w5 (fun e w'=>e=.returned (.int .i64 0)∧w5=w') from N4_ 0 w5)
      by_cases hbig:most<(it.key.size:Int)
      ·have HIo:=hh_ ((HIN.out 2 (by rw[HV.out,if_pos ⟨rfl,hbig⟩])).trans (show _ =(⟨itZ,2⟩:InpR) by rw[if_neg (by decide)]))
       go_upto_region 22 with(go_at_call 84;refine CV.out.mono ?_;rintro e w6 ⟨rfl,rfl⟩)
       have g6:w5.grownBy (((w5.setCell ⟨q4,0,none⟩ (.string ⟨#[]⟩)).setCell ⟨q4,1,none⟩ (.int .i64 0)).setCell ⟨q4,2,none⟩ (.int .u64 0)) (some q4):=Ac_ (Ac_ (Ac_ (Ab_ _ _) _ _) _ _) _ _;have A7:=((A5.out.set_ 0 (.string ⟨#[]⟩) rfl).set_ 1 (.int .i64 0) rfl).set_ 2 (.int .u64 0) rfl;have HG7:=hh_ (Af_ HG5.out g6 (by omega));have HO7:=hh_ (HO5.out.kept g6 (fun q hq e=>by cases e;have:=hOl.out _ hq;omega));have HR7:=hh_ (Do_ HR5.out g6 HL2.out (fun k e=>by cases e;omega));clear HG5 HO5 HR5 A5 a5 f5 g6;generalize ((w5.setCell ⟨q4,0,none⟩ (.string ⟨#[]⟩)).setCell ⟨q4,1,none⟩ (.int .i64 0)).setCell ⟨q4,2,none⟩ (.int .u64 0)=w7 at *;have A6:=A7.cell;have Hcs:=hh_ (show(#[Value.string ⟨#[]⟩,.int .i64 0,.int .u64 0,.int .i64 2]:Array Value).toList=inpF ⟨⟨⟨#[]⟩,0,0⟩,2⟩ from rfl);have hsz7:w.heap.size≤w7.heap.size:=HG7.out.size
       go_wp2_with (at_builtin;refine A6_ Hf_ Ho_ Ec_ HO7.out ⟨⟨⟨#[]⟩,0,0⟩,2⟩ hb3 hb4 hsz7 Hcs.out (by rfl) _ _ (by rfl) (by rfl) (by rfl) ?_;intro v8 w8 o8 g8 l8;obtain⟨a8,c8,rfl⟩:=o8.shape)
       simp only[la_,ls_] at o8;refine⟨⟨pre.length+1,rr,pre++[⟨⟨⟨#[]⟩,0,0⟩,2⟩],od2,rc-u2,by omega,by go_num,rfl,?_,hrcu,hrrb,HL2.out,by simp,by rw[←HT.out,HIo.out] <;> rfl,o8,Ao_ HG7.out HO7.out (le_ _) g8⟩,by simp[RowKit.intOf];omega⟩;exact Do_ HR7.out g8 HL2.out (fun q hq=>(HO7.out.lt q hq).1)
      ·have hbig2 :(it.key.size:Int)≤most:=by omega
       have HIo:=hh_ ((HIN.out 0 (by rw[HV.out,if_neg (by omega)];rfl)).trans (show _ =(⟨it,0⟩:InpR) by rw[if_pos rfl]));clear hbig
       go_upto_region 22 with(go_at_call 84;refine CV.out.mono ?_;rintro e w6 ⟨rfl,rfl⟩)
       have A7:=A5.out;have HG7:=HG5;have HO7:=HO5;have HR7:=HR5;clear HG5 HO5 HR5 A5 a5 f5;have A6:=A7.cell;have Hcs:=hh_ (show(#[Value.string it.key,.int .i64 it.time,.int .u64 it.weight,.int .i64 0]:Array Value).toList=inpF ⟨⟨it.key,it.time,it.weight⟩,0⟩ from rfl);have hsz7:w.heap.size≤w5.heap.size:=HG7.out.size
       go_wp2_with (at_builtin;refine A6_ Hf_ Ho_ Ec_ HO7.out ⟨⟨it.key,it.time,it.weight⟩,0⟩ hb3 hb4 hsz7 Hcs.out (by rfl) _ _ (by rfl) (by rfl) (by rfl) ?_;intro v8 w8 o8 g8 l8;obtain⟨a8,c8,rfl⟩:=o8.shape)
       simp only[la_,ls_] at o8;refine⟨⟨pre.length+1,rr,pre++[⟨⟨it.key,it.time,it.weight⟩,0⟩],od2,rc-u2,by omega,by go_num,rfl,?_,hrcu,hrrb,HL2.out,by simp,by rw[←HT.out,HIo.out] <;> rfl,o8,Ao_ HG7.out HO7.out (le_ _) g8⟩,by simp[RowKit.intOf];omega⟩;exact Do_ HR7.out g8 HL2.out (fun q hq=>(HO7.out.lt q hq).1)
     ·have hvv:verE E=1∨verE E=2:=by unfold verE;rw[if_neg hE];split;exact .inr rfl;exact .inl rfl
      have HIo:=hh_ ((HIN.out (verE E) (by rw[HV.out,if_neg (by omega)])).trans (show _ =(⟨itZ,verE E⟩:InpR) by rw[if_neg (by omega)]));have CV:=hh_ (show Calls Tryz.prog 84 #[.int .i64 E] w5 (fun e w'=>e=.returned (.int .i64 (verE E))∧w5=w') from N4_ E w5);generalize verE E=vv at *
      have hv1 :(vv==0)=false:=by simp;omega
      have hv2 :(vv != 0)=true:=by simp;omega
      have HH:=hh_ hvv;clear hvv
      go_upto_region 22 with(go_at_call 84;refine CV.out.mono ?_;rintro e w6 ⟨rfl,rfl⟩)
      have g6:w5.grownBy (((w5.setCell ⟨q4,0,none⟩ (.string ⟨#[]⟩)).setCell ⟨q4,1,none⟩ (.int .i64 0)).setCell ⟨q4,2,none⟩ (.int .u64 0)) (some q4):=Ac_ (Ac_ (Ac_ (Ab_ _ _) _ _) _ _) _ _;have A7:=((A5.out.set_ 0 (.string ⟨#[]⟩) rfl).set_ 1 (.int .i64 0) rfl).set_ 2 (.int .u64 0) rfl;have HG7:=hh_ (Af_ HG5.out g6 (by omega));have HO7:=hh_ (HO5.out.kept g6 (fun q hq e=>by cases e;have:=hOl.out _ hq;omega));have HR7:=hh_ (Do_ HR5.out g6 HL2.out (fun k e=>by cases e;omega));clear HG5 HO5 HR5 A5 a5 f5 g6;generalize ((w5.setCell ⟨q4,0,none⟩ (.string ⟨#[]⟩)).setCell ⟨q4,1,none⟩ (.int .i64 0)).setCell ⟨q4,2,none⟩ (.int .u64 0)=w7 at *;have A6:=A7.cell;have Hcs:=hh_ (show(#[Value.string ⟨#[]⟩,.int .i64 0,.int .u64 0,.int .i64 vv]:Array Value).toList=inpF ⟨⟨⟨#[]⟩,0,0⟩,vv⟩ from rfl);have hsz7:w.heap.size≤w7.heap.size:=HG7.out.size
      go_wp2_with (at_builtin;refine A6_ Hf_ Ho_ Ec_ HO7.out ⟨⟨⟨#[]⟩,0,0⟩,vv⟩ hb3 hb4 hsz7 Hcs.out (by rfl) _ _ (by rfl) (by rfl) (by rfl) ?_;intro v8 w8 o8 g8 l8;obtain⟨a8,c8,rfl⟩:=o8.shape)
      simp only[la_,ls_] at o8;refine⟨⟨pre.length+1,rr,pre++[⟨⟨⟨#[]⟩,0,0⟩,vv⟩],od2,rc-u2,by omega,by go_num,rfl,?_,hrcu,hrrb,HL2.out,by simp,by rw[←HT.out,HIo.out] <;> rfl,o8,Ao_ HG7.out HO7.out (le_ _) g8⟩,by simp[RowKit.intOf];omega⟩;exact Do_ HR7.out g8 HL2.out (fun q hq=>(HO7.out.lt q hq).1)
    ·have CD2:=fi_ hE CD.out
     have hE1 :(rawX r != 0)=true:=by simp[hE]
     have HT:=hh_ (show pre++List.replicate (n-pre.length) inpBad=inputsF most b by rw[←hT,hm1];unfold inpsD;rw[if_pos hE]);generalize rawX r=E at *;have CD3:=hh_ CD2;clear CD CD2 hT hE HRr hg hlow
     go_upto_region 11 with(go_at_call 82;refine CD3.out.mono ?_;rintro e w2 ⟨rfl,g2⟩)
     have g3:=ga_ w2 (.cells #[.slice none 0 0,.int .i64 0,.int .u64 0] 164) none;have G3:=hh_ (Aa_ HG.out (Aa_ g2 g3));have O3:=hh_ (HO.out.same (Aa_ g2 g3));clear HO HG g2 g3 CD3 hE1;generalize w2.alloc _=w3 at *
     go_loopw [8,10] (fun s8 s10 wk=>∃j:Nat,pre.length≤j∧j≤n∧s10=.int .u64 j∧Own inpF 4 114 w.heap.size wk s8 (pre++List.replicate (j-pre.length) inpBad)∧w.grownBy wk none) (fun _ s10 _=>n-(RowKit.intOf s10).toNat)
     case atStart=>exact⟨pre.length,le_ _,by omega,rfl,by rw[Nat.sub_self];simpa using O3.out,G3.out⟩
     case round=>
      clear O3 G3;obtain⟨j,hj0,hj,rfl,hO,hg⟩:=hrel;have HO:=hh_ hO;have HG:=hh_ hg;have hsz:=hg.size
      by_cases hjn:j<n
      ·have hjn1 :(j:Int)<(n:Int):=by omega
       have hl0 :(pre++List.replicate (j-pre.length) inpBad).length=j:=by simp;omega
       have hb3 :((pre++List.replicate (j-pre.length) inpBad).length+1)*40≤140737488355328:=by omega
       have hb4 :(pre++List.replicate (j-pre.length) inpBad).length+1≤9223372036854775807:=by omega
       have Hcs:=hh_ (show(#[Value.string ⟨#[]⟩,.int .i64 0,.int .u64 0,.int .i64 1]:Array Value).toList=inpF inpBad from rfl);have HS:=hh_ (show(pre++List.replicate (j-pre.length) inpBad)++[inpBad]=pre++List.replicate (j+1-pre.length) inpBad by rw[show j+1-pre.length =(j-pre.length)+1 by omega,List.replicate_succ',List.append_assoc]);obtain⟨qa,qc,rfl⟩:=hO.shape;clear hO hg hl0;generalize pre++List.replicate (j-pre.length) inpBad=PR at *
       go_wp2_with (at_builtin;refine A6_ Hf_ Ho_ Ec_ HO.out inpBad hb3 hb4 hsz Hcs.out (by rfl) _ _ (by rfl) (by rfl) (by rfl) ?_;intro v3 w3 o3 g3 l3;obtain⟨a3,c3,rfl⟩:=o3.shape)
       simp only[la_,ls_] at o3;exact⟨⟨j+1,by omega,by omega,by go_num,by rw[←HS.out];exact o3,Ao_ HG.out HO.out (le_ _) g3⟩,by simp[RowKit.intOf];omega⟩
      ·obtain rfl:j=n:=by omega
       clear hO hg hjn
       go_wp2_with fail
       go_ret
       exact HP.out _ HT.out.symm _ _ HO.out HG.out
   ·obtain rfl:pre.length=n:=by omega
    have hnn:¬((pre.length:Int)<(pre.length:Int)):=by omega
    obtain⟨pa,pc,rfl⟩:=hOs
    by_cases h0:r.length=0
    ·have hr0:r=[]:=List.length_eq_zero_iff.1 h0
     have HT:=hh_ (show inputsF most b=pre by rw[←hT,hr0,Nat.sub_self];simp[inpsD])
     have h00:¬(0:Int)<(r.length:Int):=by omega
     clear hT hlow hlt
     go_wp2_with fail
     go_ret
     exact HP.out _ HT.out _ _ HO.out HG.out
    ·have hr0:r≠[]:=fun e=>h0 (by rw[e];rfl)
     have HT:=hh_ (show inputsF most b=pre++[inpBad] by rw[←hT,Nat.sub_self];unfold inpsD;rw[if_pos hr0])
     have h00 :(0:Int)<(r.length:Int):=by omega
     have Hcs:=hh_ (show(#[Value.string ⟨#[]⟩,.int .i64 0,.int .u64 0,.int .i64 1]:Array Value).toList=inpF inpBad from rfl)
     have hb3 :(pre.length+1)*40≤140737488355328:=by omega
     have hb4:pre.length+1≤9223372036854775807:=by omega
     clear hT hlow hlt h0
     go_wp2_with (at_builtin;refine A6_ Hf_ Ho_ Ec_ HO.out inpBad hb3 hb4 hsz Hcs.out (by rfl) _ _ (by rfl) (by rfl) (by rfl) ?_;intro v3 w3 o3 g3 l3;obtain⟨a3,c3,rfl⟩:=o3.shape)
     go_ret
     simp only[la_,ls_] at o3;exact HP.out _ HT.out _ _ o3 (Ao_ HG.out HO.out (le_ _) g3)
end
section
open Go.RowKit Go.Sort
attribute [local go_sem ↓] Ag_
attribute [local go_sem] Ah_
def ptrF (g:Nat):List Value:=[.pointer (some ⟨g,0,none⟩)]
theorem Cb_ (g:Nat) :(ptrF g).length=1:=rfl
theorem Fj_:OneF ptrF:=by intro x u hu;simp[ptrF] at hu;subst hu;rfl
theorem L0_:Elt 153 181 (.pointer none) 1 8:=⟨underlying153,by kernel_rfl,rfl,by decide⟩
theorem Ps_:Elt 152 177 (.agg #[.int .i64 0,.string ⟨#[]⟩,.int .i64 0,.int .u64 0]) 4 40:=⟨underlying152,by kernel_rfl,rfl,by decide⟩
abbrev rshA (c:Cfg) (vq vw vt:Value):Array Value:=#[.int .i64 c.Length,.int .i64 c.Lateness,.int .i64 c.Windows,.int .i64 c.Shards,.int .i64 c.Spread,.int .i64 c.Queue,.int .i64 c.Mode,.int .i64 c.Slots,.int .i64 c.Exact,.int .u64 c.Promote,.int .i64 c.Depth,.int .i64 c.Width,.int .i64 c.Top,.int .i64 c.Key,c.Classes,c.Table,.int .u64 c.Seed,vq,vw,vt]
structure RshG where
 (g:Nat) (vq vw vt:Value) (ts:List RtG)
def RshG.F (G:RshG):Fp:=fun i=>i=G.g∨ownF G.vq i∨ownF G.vw i∨ownF G.vt i∨∃T∈G.ts,T.F i
structure RSh (w:World) (G:RshG) (c:Cfg) (t:List Int) (S:ShM):Prop where
 blk:Blk w G.g (rshA c G.vq G.vw G.vt)
 q:RdL waitF 4 w G.vq S.queue
 qc:∀a n k,G.vq=.slice a n k→n≤k
 ql:Low w (ownF G.vq)
 wn:Own intF 1 3 0 w G.vw S.ws
 tp:Own ptrF 1 181 0 w G.vt (G.ts.map (·.g))
 len:G.ts.length=S.ts.length
 tier:∀(i:Nat) T p,G.ts[i]?=some T→S.ts[i]?=some p→RTier w T c t p.2
 ap:G.ts.Pairwise fun A B=>Off A.F B.F
 n1:¬ownF G.vq G.g
 n2:¬ownF G.vw G.g
 n3:¬ownF G.vt G.g
 n4:∀T∈G.ts,¬T.F G.g
 m1:∀T∈G.ts,Off (ownF G.vq) T.F
 m2:∀T∈G.ts,Off (ownF G.vw) T.F
 m3:∀T∈G.ts,Off (ownF G.vt) T.F
section
variable {w w':World} {G:RshG} {c:Cfg} {t:List Int} {S:ShM}
theorem RSh.tierOf (h:RSh w G c t S) {T:RtG} (hT:T∈G.ts):∃(i:Nat) (p:Int×As_),G.ts[i]?=some T∧S.ts[i]?=some p∧RTier w T c t p.2:=by
 obtain⟨i,hi,e⟩:=List.getElem_of_mem hT
 have h1:G.ts[i]?=some T:=by rw[gq_ hi,e]
 have h2:i<S.ts.length:=by rw[←h.len];exact hi
 exact⟨i,S.ts[i],h1,gq_ h2,h.tier i _ _ h1 (gq_ h2)⟩
theorem RSh.low (h:RSh w G c t S):Low w G.F:=fun i hi=>by
 rcases hi with rfl|hi|hi|hi |⟨T,hT,hi⟩
 ·exact h.blk.lt
 ·exact h.ql i hi
 ·exact h.wn.low i hi
 ·exact h.tp.low i hi
 ·obtain⟨_,p,_,_,hR⟩:=h.tierOf hT
  exact hR.low i hi
theorem Bk_ {α:Type} {f:α→List Value} {s:Nat} {v:Value} {l:List α} {F:Fp} (h:RdL f s w v l) (k:GrownS F w w') (ho:Off (ownF v) F):RdL f s w' v l:=
 h.keptS k fun _ a n c e hs=>ho a.block (by rw[e];rfl) hs
theorem RSh.keptS {F:Fp} (h:RSh w G c t S) (k:GrownS F w w') (ho:Off G.F F):RSh w' G c t S:=
 ⟨h.blk.keptS k (ho G.g (.inl rfl)),Bk_ h.q k (ho.left fun _ hi=>.inr (.inl hi)),h.qc,h.ql.up k.size,h.wn.offS k (ho.left fun _ hi=>.inr (.inr (.inl hi))),h.tp.offS k (ho.left fun _ hi=>.inr (.inr (.inr (.inl hi)))),h.len,
  fun i T p h1 h2=>(h.tier i T p h1 h2).keptS k (ho.left fun _ hj=>.inr (.inr (.inr (.inr ⟨T,mo_ h1,hj⟩)))),h.ap,h.n1,h.n2,h.n3,h.n4,h.m1,h.m2,h.m3⟩
theorem RSh.same (h:RSh w G c t S) (k:w.grownBy w' none):RSh w' G c t S:=h.keptS (GrownS.none_ (S:=fun _=>False) k) fun _ _=>id
theorem RSh.setQ {w1:World} (h:RSh w G c t S) (k:w.grownBy w1 none) {v':Value} {q':List Cq_} (hq:RdL waitF 4 w1 v' q') (hc:∀a n k,v'=.slice a n k→n≤k) (hl:∀i,ownF v' i→ownF G.vq i∨(w.heap.size≤i∧i<w1.heap.size)) :
  RSh (w1.setCell ⟨G.g,17,none⟩ v') { G with vq:=v' } c t { S with queue:=q' }∧Mov G.F { G with vq:=v' }.F w (w1.setCell ⟨G.g,17,none⟩ v'):=by
 have h1:=h.same k;have hlow:=h.low
 have hg:GrownS (oneF G.g) w1 (w1.setCell ⟨G.g,17,none⟩ v'):=GrownS.of (Ac_ (Ab_ w1 (some G.g)) 17 v') fun k e=>by cases e;rfl
 have hn:¬ownF v' G.g:=fun hi=>by
  rcases hl _ hi with e|e
  ·exact h.n1 e
  ·have:=h.blk.lt;omega
 have hgt:∀T∈G.ts,Off T.F (oneF G.g):=fun T hT i hi e=>h.n4 T hT (by rw[←show i=G.g from e];exact hi)
 refine⟨⟨h1.blk.set_ 17 v' rfl,Bk_ hq hg fun i hi e=>hn (by rw[←show i=G.g from e];exact hi),hc,fun i hi=>?_,h1.wn.offS hg fun i hi e=>h.n2 (by rw[←show i=G.g from e];exact hi),h1.tp.offS hg fun i hi e=>h.n3 (by rw[←show i=G.g from e];exact hi),h.len,
  fun i T p e1 e2=>(h1.tier i T p e1 e2).keptS hg (hgt T (mo_ e1)),h.ap,hn,h.n2,h.n3,h.n4,fun T hT i hi hf=>?_,h.m2,h.m3⟩,⟨?_,fun i hi=>?_⟩⟩
 ·rcases hl i hi with e|e
  ·exact ll_ (ll_ (h.ql i e) k.size) hg.size
  ·exact ll_ e.2 hg.size
 ·rcases hl i hi with e|e
  ·exact h.m1 T hT i e hf
  ·have:=hlow i (.inr (.inr (.inr (.inr ⟨T,hT,hf⟩))));omega
 ·exact(GrownS.none_ k).trans hg fun i e _=>.inl e
 ·rcases hi with hi|hi|hi
  ·exact .inl (.inl hi)
  ·rcases hl i hi with e|e
   ·exact .inl (.inr (.inl e))
   ·exact .inr e.1
  ·exact .inl (.inr (.inr hi))
theorem RSh.setT (h:RSh w G c t S) {i:Nat} {T T':RtG} {p:Int×As_} {X':As_} (hT:G.ts[i]?=some T) (hp:S.ts[i]?=some p) (hR:RTier w' T' c t X') (m:Mov T.F T'.F w w') (hg:T'.g=T.g) :
  RSh w' { G with ts:=G.ts.set i T' } c t { S with ts:=S.ts.set i (p.1,X') }∧Mov G.F { G with ts:=G.ts.set i T' }.F w w':=by
 have hmem:=mo_ hT;have hil:=(gs_ hT).1;have hlow:=h.low
 have ho:∀F:Fp,Low w F→Off F T.F→Off F T'.F:=fun F hl ho=>m.off hl ho
 have hset:∀{U:RtG},U∈G.ts.set i T'→U=T'∨(U∈G.ts∧Off U.F T.F):=by
  intro U hU;obtain⟨j,hj,e⟩:=List.getElem_of_mem hU
  by_cases hij:i=j
  ·subst hij;left;rw[←e];simp
  ·right
   rw[List.getElem_set_ne hij] at e;rw[List.length_set] at hj;refine⟨e▸mg_ _,?_⟩;have hTi:T=G.ts[i]:=(gs_ hT).2.symm;rw[←e,hTi]
   rcases Nat.lt_or_gt_of_ne hij with hlt|hlt
   ·exact(List.pairwise_iff_getElem.1 h.ap i j hil hj hlt).symm
   ·exact List.pairwise_iff_getElem.1 h.ap j i hj hil hlt
 have hlw:∀U∈G.ts,Low w U.F:=fun U hU i hi=>hlow i (.inr (.inr (.inr (.inr ⟨U,hU,hi⟩))))
 refine⟨⟨h.blk.keptS m.grown (h.n4 T hmem),Bk_ h.q m.grown (h.m1 T hmem),h.qc,h.ql.up m.size,?_,?_,by simp[h.len],?_,?_,h.n1,h.n2,h.n3,?_,?_,?_,?_⟩,⟨m.grown.mono fun i hi _=>.inr (.inr (.inr (.inr ⟨T,hmem,hi⟩))),?_⟩⟩
 ·have :({ S with ts:=S.ts.set i (p.1,X') }:ShM).ws=S.ws:=by
   unfold ShM.ws;rw[List.map_set]
   refine List.ext_getElem? fun j=>?_
   by_cases hij:i=j
   ·subst hij
    have hl:=(gs_ hp).1;rw[List.getElem?_set_self (by simpa using hl),List.getElem?_map,hp];rfl
   ·rw[List.getElem?_set_ne hij]
  rw[this];exact h.wn.offS m.grown (h.m2 T hmem)
 ·have :(G.ts.set i T').map (·.g)=G.ts.map (·.g):=by
   rw[List.map_set]
   refine List.ext_getElem? fun j=>?_
   by_cases hij:i=j
   ·subst hij
    rw[List.getElem?_set_self (by simpa using hil),List.getElem?_map,hT];simp[hg]
   ·rw[List.getElem?_set_ne hij]
  show Own ptrF 1 _ 0 w' G.vt ((G.ts.set i T').map (·.g))
  rw[this];exact h.tp.offS m.grown (h.m3 T hmem)
 ·intro j U q e1 e2
  by_cases hij:i=j
  ·subst hij
   have hl:=(gs_ hp).1;have e1':some T'=some U:=(List.getElem?_set_self hil).symm.trans e1;have e2':some (p.1,X')=some q:=(List.getElem?_set_self hl).symm.trans e2;cases e1';cases e2';exact hR
  ·have e1':G.ts[j]?=some U:=(List.getElem?_set_ne hij).symm.trans e1
   have e2':S.ts[j]?=some q:=(List.getElem?_set_ne hij).symm.trans e2;refine(h.tier j U q e1' e2').keptS m.grown ?_
   rcases hset (mo_ e1) with e|e
   ·have hj:=(gs_ e1').1
    have hTi:T=G.ts[i]:=(gs_ hT).2.symm;have hUj:U=G.ts[j]:=(gs_ e1').2.symm;rw[hTi,hUj]
    rcases Nat.lt_or_gt_of_ne hij with hlt|hlt
    ·exact(List.pairwise_iff_getElem.1 h.ap i j hil hj hlt).symm
    ·exact List.pairwise_iff_getElem.1 h.ap j i hj hil hlt
   ·exact e.2
 ·refine List.pairwise_iff_getElem.2 fun a b ha hb hab=>?_
  rw[List.length_set] at ha hb;have hT0:T=G.ts[i]:=(gs_ hT).2.symm
  by_cases hia:i=a
  ·subst hia
   simp only[List.getElem_set_self,List.getElem_set_ne (show i≠b by omega)]
   have:=(List.pairwise_iff_getElem.1 h.ap i b ha hb hab).symm
   rw[←hT0] at this;exact(ho _ (hlw _ (mg_ _)) this).symm
  ·by_cases hib:i=b
   ·subst hib
    simp only[List.getElem_set_self,List.getElem_set_ne hia]
    have:=List.pairwise_iff_getElem.1 h.ap a i ha hb hab
    rw[←hT0] at this;exact ho _ (hlw _ (mg_ _)) this
   ·simp only[List.getElem_set_ne hia,List.getElem_set_ne hib]
    exact List.pairwise_iff_getElem.1 h.ap a b ha hb hab
 ·intro U hU
  rcases hset hU with rfl|hU
  ·intro hf
   exact ho (oneF G.g) (fun j e=>by rw[show j=G.g from e];exact h.blk.lt) (fun j e hf=>h.n4 T hmem (by rw[←show j=G.g from e];exact hf)) G.g rfl hf
  ·exact h.n4 U hU.1
 ·intro U hU
  rcases hset hU with rfl|hU
  ·exact ho _ h.ql (h.m1 T hmem)
  ·exact h.m1 U hU.1
 ·intro U hU
  rcases hset hU with rfl|hU
  ·exact ho _ h.wn.low (h.m2 T hmem)
  ·exact h.m2 U hU.1
 ·intro U hU
  rcases hset hU with rfl|hU
  ·exact ho _ h.tp.low (h.m3 T hmem)
  ·exact h.m3 U hU.1
 ·intro j hj
  rcases hj with hj|hj|hj|hj |⟨U,hU,hj⟩
  ·exact .inl (.inl hj)
  ·exact .inl (.inr (.inl hj))
  ·exact .inl (.inr (.inr (.inl hj)))
  ·exact .inl (.inr (.inr (.inr (.inl hj))))
  ·rcases hset hU with rfl|hU
   ·exact(m.new j hj).imp (fun e=>.inr (.inr (.inr (.inr ⟨T,hmem,e⟩)))) id
   ·exact .inl (.inr (.inr (.inr (.inr ⟨U,hU.1,hj⟩))))
end
end
section
open Go.RowKit Go.Sort
attribute [local go_sem ↓] Ag_
attribute [local go_sem] Ah_
theorem Xn_ (v:Value) (q:List Cq_) (win:Int) (w:World) (h:RdL waitF 4 w v q) (hl:q.length≤1000000000) :
  Calls Tryz.prog 91 #[v,.int .i64 win] w (RetInt (untilQ q win) w):=by
 obtain⟨a,c,rfl⟩:=h.shape;have H:=hh_ h;clear h
 go_enter func91,ntmps91
 go_upto_region 3 with fail
 go_loopw [5,10] (fun s5 s10 wk=>∃k:Nat,k≤q.length∧s10=.int .i64 k∧s5=.int .i64 (untilQ (q.take k) win)∧w.grownBy wk none) (fun _ s10 _=>q.length-(RowKit.intOf s10).toNat)
 case atStart=>exact⟨0,zl_ _,rfl,rfl,Ab_ _ _⟩
 case round=>
  obtain⟨k,hk,rfl,rfl,hg⟩:=hrel
  by_cases hlt:k<q.length
  ·obtain⟨g,off,cap,hv,hgl,hc⟩:=(RdL.same H.out hg).at_ Br_ hlt
   cases hv;have c0:=hc 0 _ rfl;have c1:=hc 1 _ rfl;have c2:=hc 2 _ rfl;have c3:=hc 3 _ rfl;rw[Nat.add_zero] at c0;have HS:=hh_ (Hc_ win hlt);have HG:=hh_ hg;clear hc hg;generalize q[k]=x at *;have A2:=(Blk.new wr #[.int .i64 x.win,.string x.it.key,.int .i64 x.it.time,.int .u64 x.it.weight] 177).cell;have K2:=hh_ (Aa_ HG.out (ga_ wr (.cells #[.int .i64 x.win,.string x.it.key,.int .i64 x.it.time,.int .u64 x.it.weight] 177) none));generalize untilQ (q.take k) win=U at *
   by_cases hw:x.win≤win
   ·have HS2:=hh_ (HS.out.trans (if_pos hw))
    clear HS
    go_wp2_with fail
    exact⟨⟨k+1,by omega,by go_num,by rw[HS2.out];go_num,K2.out⟩,by simp[RowKit.intOf];omega⟩
   ·have hw':win<x.win:=by omega
    have HS2:=hh_ (HS.out.trans (if_neg hw));clear HS hw
    go_wp2_with fail
    exact⟨⟨k+1,by omega,by go_num,by rw[HS2.out],K2.out⟩,by simp[RowKit.intOf];omega⟩
  ·obtain rfl:k=q.length:=by omega
   rw[List.take_length]
   go_wp2_with fail
   go_ret
   exact⟨rfl,hg⟩
theorem RSh.new {w:World} {g:Nat} {c:Cfg} {t:List Int} (h:Blk w g (rshA c (.slice none 0 0) (.slice none 0 0) (.slice none 0 0))):RSh w ⟨g,.slice none 0 0,.slice none 0 0,.slice none 0 0,[]⟩ c t ⟨[],[]⟩:=
 ⟨h,(Own.nil waitF 4 177 0 w).rd,fun a n k e=>by cases e;omega,fun i hi=>absurd hi (Ay_ i),Own.nil _ _ _ _ _,Own.nil _ _ _ _ _,rfl,by simp,by simp,Ay_ _,Ay_ _,Ay_ _,by simp,by simp,by simp,by simp⟩
theorem Y8_ (c:Cfg) (t:List Int) (w:World):Calls Tryz.prog 43 #[c.val] w (fun e w'=>∃G,e=.returned (.pointer (some ⟨G.g,0,none⟩))∧RSh w' G c t ⟨[],[]⟩∧(∀i,G.F i→w.heap.size≤i)∧w.grownBy w' none):=by
 go_enter func43,ntmps43
 go_upto_region 1 with(refine Au_ rfl _ rfl c rfl ?_;intro w1 B1 G1 z1)
 go_wp2_with (refine Al_ rfl _ rfl _ rfl c B1 ?_)
 go_ret
 have HB:=hh_ (Blk.new w1 (rshA c (.slice none 0 0) (.slice none 0 0) (.slice none 0 0)) 155);have g2:=ga_ w1 (.cells (rshA c (.slice none 0 0) (.slice none 0 0) (.slice none 0 0)) 155) none;refine⟨⟨w1.heap.size,.slice none 0 0,.slice none 0 0,.slice none 0 0,[]⟩,rfl,RSh.new HB.out,fun i hi=>?_,Aa_ G1 g2⟩
 rcases hi with hi|hi|hi|hi |⟨T,hT,_⟩
 ·exact lt_ G1.size (Nat.le_of_eq (Eq.symm hi))
 ·exact absurd hi (Ay_ i)
 ·exact absurd hi (Ay_ i)
 ·exact absurd hi (Ay_ i)
 ·simp at hT
def Hs_ (G:RshG) (S:ShM) (win:Int):Value:=match posW S.ws win with
 | some i=>.pointer ((G.ts[i]?).map fun T=>⟨T.g,0,none⟩)
 | none=>.pointer none
theorem Hl_ (G:RshG) (c:Cfg) (t:List Int) (S:ShM) (win:Int) (w:World) (h:RSh w G c t S):Calls Tryz.prog 93 #[.pointer (some ⟨G.g,0,none⟩),.int .i64 win] w (B8_ (Hs_ G S win) w):=by
 have b0:=h.blk.cell;have H:=hh_ h;obtain⟨wa,wc,hw⟩:=h.wn.shape;obtain⟨ta,tc,ht⟩:=h.tp.shape;have hm:=h.wn.rd.2.1
 have hwl :(G.ts.map (·.g)).length=S.ws.length:=by simp[h.len,ShM.ws]
 rw[hw,ht] at b0;rw[hwl] at b0;clear h
 go_enter func93,ntmps93
 go_upto_region 2 with fail
 clear b0
 go_loopw [12] (fun s12 wk=>∃k:Nat,k≤S.ws.length∧s12=.int .i64 k∧(∀j,j<k→S.ws[j]?≠some win)∧w.grownBy wk none) (fun s12 _=>S.ws.length-(RowKit.intOf s12).toNat)
 case atStart=>exact⟨0,zl_ _,rfl,fun j hj=>absurd hj (by omega),Ab_ _ _⟩
 case round=>
  obtain⟨k,hk,rfl,hn,hg⟩:=hrel;have HN:=hh_ hn;have HG:=hh_ hg
  by_cases hlt:k<S.ws.length
  ·obtain⟨g,cp,hv,_,_,_,hc,_⟩:=(H.out.wn.same hg).at_ A8_ hlt
   rw[hw] at hv;cases hv;have c0:=hc 0 _ rfl;rw[Nat.mul_one,Nat.add_zero] at c0
   have hkt:k<(G.ts.map (·.g)).length:=by omega
   obtain⟨g2,cp2,hv2,_,_,_,hc2,_⟩:=(H.out.tp.same hg).at_ Cb_ hkt;rw[ht] at hv2;cases hv2;have d0:=hc2 0 _ rfl;rw[Nat.mul_one,Nat.add_zero] at d0;clear hc hc2 hn;have b0:=(H.out.same hg).blk.cell;rw[hw,ht] at b0;rw[hwl] at b0;have HW:=hh_ (show S.ws[k]?=some S.ws[k] from gq_ hlt)
   have hkt2:k<G.ts.length:=by simpa using hkt
   have HT:G.ts[k]?=some G.ts[k]:=gq_ hkt2;have HT2:=hh_ HT;rw[List.getElem_map] at d0
   have hklt :(k:Int)<(S.ws.length:Int):=by omega
   generalize S.ws[k]=x at *;generalize G.ts[k]=T at *;clear HT hg
   by_cases hx:x=win
   ·subst hx
    have HP:=hh_ (Mv_ (fun j hj=>HN.out j hj) HW.out)
    go_wp2_with fail
    go_ret
    exact⟨by unfold Hs_;rw[HP.out];dsimp only;rw[HT2.out];rfl,HG.out⟩
   ·have hx' :(x==win)=false:=bf_ hx
    have HX:=hh_ hx;clear hx
    go_wp2_with fail
    refine⟨⟨k+1,by omega,by go_num,fun j hj=>?_,HG.out⟩,by simp[RowKit.intOf];omega⟩
    by_cases hj2:j=k
    ·subst hj2;rw[HW.out];intro e;exact HX.out (Option.some.inj e)
    ·exact HN.out j (by omega)
  ·obtain rfl:k=S.ws.length:=by omega
   have HP:=hh_ (show posW S.ws win=none by
    rw[He_];intro hm;obtain⟨j,hj,e⟩:=List.getElem_of_mem hm
    exact hn j hj (by rw[gq_ hj,e]))
   have hnn:¬(S.ws.length:Int)<(S.ws.length:Int):=by omega
   clear hn hlt
   go_wp2_with fail
   go_ret
   exact⟨by unfold Hs_;rw[HP.out];rfl,HG.out⟩
end
section
open Go.RowKit Go.Sort
def sumOf:Option As_→Int×List Ent×Int×List (List Int)
 | some X=>(X.sum,X.entries,X.T.base,X.rows)
 | none=>(0,[],0,[])
def Vv_ (o:Option As_) (w:World) (e:Ending) (w':World):Prop:=
 ∃ve vr vs,e=.returned (.agg #[.int .u64 (sumOf o).1,ve,.int .u64 (sumOf o).2.2.1,vr])∧OSum w.heap.size w' ve vr vs (sumOf o).2.1 (sumOf o).2.2.2∧w.grownBy w' none
theorem OSum.nil (B:Nat) (w:World):OSum B w (.slice none 0 0) (.slice none 0 0) [] [] []:=⟨Own.nil _ _ _ _ _,ORows.nil _,fun i hi=>by rcases hi with hi |⟨u,hu,_⟩;exact absurd hi (Ay_ i);simp at hu⟩
theorem OSum.keptS {B:Nat} {w w':World} {ve vr:Value} {vs:List SlR} {es:List Ent} {rows:List (List Int)} {S:Fp} (h:OSum B w ve vr vs es rows) (k:GrownS S w w') (hS:∀i,S i→i<B):OSum B w' ve vr vs es rows:=
 ⟨h.es.keptS k fun g hg hs=>by have:=(h.es.lt g hg).1;have:=hS g hs;omega,h.rows.keptS k fun i hi hs=>by have:=h.base i hi;have:=hS i hs;omega,h.base⟩
theorem OSum.base' {B B':Nat} {w:World} {ve vr:Value} {vs:List SlR} {es:List Ent} {rows:List (List Int)} (h:OSum B w ve vr vs es rows) (hB:B'≤B):OSum B' w ve vr vs es rows:=
 ⟨h.es.base fun k hk=>lt_ hB (h.es.lt k hk).1,h.rows,fun i hi=>lt_ hB (h.base i hi)⟩
theorem Is_ {S:ShM} {win:Int} {i:Nat} (h:posW S.ws win=some i):∃p,S.ts[i]?=some p∧p.1=win∧tierAt S.ts win=some p.2:=by
 obtain⟨h1,_⟩:=Md_ h;unfold ShM.ws at h1;rw[List.getElem?_map] at h1
 cases hp:S.ts[i]? with
 | none=>rw[hp] at h1;simp at h1
 | some p=>
  rw[hp] at h1;refine⟨p,rfl,by simpa using h1,?_⟩;unfold tierAt;rw[show posW (S.ts.map (·.1)) win=some i from h];dsimp only;rw[hp];rfl
theorem Hr_ {S:ShM} {win:Int} (h:posW S.ws win=none):tierAt S.ts win=none:=by
 unfold tierAt;rw[show posW (S.ts.map (·.1)) win=none from h]
theorem Wo_ (G:RshG) (c:Cfg) (t:List Int) (S:ShM) (win:Int) (w:World) (h:RSh w G c t S) (hok:ShOk c S) (hn:Bd_ c):Calls Tryz.prog 56 #[.pointer (some ⟨G.g,0,none⟩),.int .i64 win] w (Vv_ (tierAt S.ts win) w):=by
 have CT:=hh_ fun y (q:w.grownBy y none)=>Hl_ G c t S win y (h.same q)
 have AR:=Blk.new w #[.int .u64 0,.slice none 0 0,.int .u64 0,.slice none 0 0] 129;have gR:=ga_ w (.cells #[.int .u64 0,.slice none 0 0,.int .u64 0,.slice none 0 0] 129) none
 have hz:w.heap.size<(w.alloc (.cells #[.int .u64 0,.slice none 0 0,.int .u64 0,.slice none 0 0] 129)).heap.size:=by simp
 cases hp:posW S.ws win with
 | none=>
  have HT:=hh_ (show Hs_ G S win=.pointer none by unfold Hs_;rw[hp]);rw[HT.out] at CT;rw[Hr_ hp];clear h hp hok
  go_enter func56,ntmps56
  go_upto_region 1 with fail
  generalize w.alloc _=w1 at *;generalize hq:w.heap.size=q at *;have HQ:=hh_ hq;clear hq
  go_upto_region 3 with(go_at_call 93;refine(CT.out _ gR).mono ?_;rintro e w2 ⟨rfl,g2⟩)
  have A2:=AR.same g2;have K2:=Aa_ gR g2;have hg:w2.grownBy ((((w2.setCell ⟨q,0,none⟩ (.int .u64 0)).setCell ⟨q,1,none⟩ (.slice none 0 0)).setCell ⟨q,2,none⟩ (.int .u64 0)).setCell ⟨q,3,none⟩ (.slice none 0 0)) (some q):=Ac_ (Ac_ (Ac_ (Ac_ (Ab_ _ _) _ _) _ _) _ _) _ _;have Hrc:=hh_ ((((A2.set_ 0 (.int .u64 0) rfl).set_ 1 (.slice none 0 0) rfl).set_ 2 (.int .u64 0) rfl).set_ 3 (.slice none 0 0) rfl).cell;have hr:=A2.cell;have hf:=A2.free
  go_wp2_with fail
  have rc:=Hrc.out;refine bodyPost_ret (v:=.agg #[.int .u64 0,.slice none 0 0,.int .u64 0,.slice none 0 0]) (by simp[results,results56,go_sem,rc]) rfl ?_;exact⟨_,_,[],rfl,OSum.nil _ _,Af_ K2 hg (by have:=HQ.out;omega)⟩
 | some i=>
  obtain⟨p,hpi,hpw,hta⟩:=Is_ hp;have hlen:=h.len
  have hil:i<G.ts.length:=by have:=(gs_ hpi).1;omega
  have hTi:G.ts[i]?=some G.ts[i]:=gq_ hil;have HT:=hh_ (show Hs_ G S win=.pointer (some ⟨(G.ts[i]).g,0,none⟩) by unfold Hs_;rw[hp];dsimp only;rw[hTi];rfl);rw[HT.out] at CT;rw[hta];have hR:=h.tier i _ p hTi hpi;have hX:=(hok.tiers p (mo_ hpi)).2
  have CS:=hh_ fun y (q:w.grownBy y none)=>bq_ G.ts[i] c t p.2 y (hR.same q) hX hn
  generalize G.ts[i]=T at *;obtain⟨pw,X⟩:=p;dsimp only at *;clear h hp hok hTi HT hta hpi hlen hil hpw
  go_enter func56,ntmps56
  go_upto_region 1 with fail
  generalize w.alloc _=w1 at *;generalize hq:w.heap.size=q at *;have HQ:=hh_ hq;clear hq
  go_upto_region 4 with(go_at_call 93;refine(CT.out _ gR).mono ?_;rintro e w2 ⟨rfl,g2⟩)
  have A2:=hh_ (AR.same g2);have K2:=hh_ (Aa_ gR g2);have hz2:=g2.size;have CS2:=hh_ (CS.out _ K2.out);clear AR gR g2 CS CT
  go_wp2_with (go_at_call 94;refine CS2.out.mono ?_;rintro e w3 ⟨ve,vr,vs,rfl,O3,g3⟩;obtain⟨a1,c1,rfl⟩:=O3.es.shape;obtain⟨a2,c2,rfl⟩:=O3.rows.own.shape;have A3:=A2.out.same g3;have hr:=A3.cell;have hf:=A3.free;have HO3:=hh_ O3;have HA3:=hh_ A3;have HK3:=hh_ (Aa_ K2.out g3);clear O3 A3 g3)
  have rc:=((((HA3.out.set_ 0 (.int .u64 X.sum) rfl).set_ 1 (.slice a1 X.entries.length c1) rfl).set_ 2 (.int .u64 X.T.base) rfl).set_ 3 (.slice a2 vs.length c2) rfl).cell;have hg:w3.grownBy ((((w3.setCell ⟨q,0,none⟩ (.int .u64 X.sum)).setCell ⟨q,1,none⟩ (.slice a1 X.entries.length c1)).setCell ⟨q,2,none⟩ (.int .u64 X.T.base)).setCell ⟨q,3,none⟩ (.slice a2 vs.length c2)) (some q):=Ac_ (Ac_ (Ac_ (Ac_ (Ab_ _ _) _ _) _ _) _ _) _ _;refine bodyPost_ret (v:=.agg #[.int .u64 X.sum,.slice a1 X.entries.length c1,.int .u64 X.T.base,.slice a2 vs.length c2]) (by simp[results,results56,go_sem,rc]) rfl ?_;have hqq:=HQ.out;exact⟨_,_,vs,rfl,(HO3.out.keptS (GrownS.of (S:=oneF q) hg fun k e=>by cases e;rfl) fun i e=>by have:i=q:=e;omega).base' (by omega),Af_ HK3.out hg (by omega)⟩
theorem c4_ {α:Type} (Q:List α) (x:α):∀T:List α,(T <+: Q++[x]∨T=[x])→T.length≤Q.length∨T <+: Q++[x]∨Q++[x] <+: T:=by
 intro T h
 rcases h with h|rfl
 ·exact .inr (.inl h)
 ·cases Q with
  | nil=>exact .inr (.inl (List.prefix_refl _))
  | cons a Q=>left;simp
theorem da_ (G:RshG) (c:Cfg) (t:List Int) (S:ShM) (win:Int) (it:ItR) (w:World) (h:RSh w G c t S) (hq :(S.queue.length:Int)<c.Queue) (hQ:c.Queue≤1000) (hk:0<it.key.size∧it.key.size≤255) :
  Calls Tryz.prog 52 #[.pointer (some ⟨G.g,0,none⟩),.int .i64 win,.agg #[.string it.key,.int .i64 it.time,.int .u64 it.weight]] w (fun e w'=>e=.returned (.int .i64 0)∧∃G',RSh w' G' c t (pushS S win it)∧Mov G.F G'.F w w'∧G'.g=G.g):=by
 obtain⟨Q,ts⟩:=S;have H:=hh_ h;obtain⟨qa,qc,hqv⟩:=h.q.shape;dsimp only at hqv hq
 have b0:=hh_ fun y (q:w.grownBy y none)=>(h.same q).blk
 have hqcap:=h.qc _ _ _ hqv;have hQR:=h.q;have hQl:=h.ql;have hgl:=h.blk.lt;rw[hqv] at b0 hQR hQl
 have hk1:it.key.toList.isEmpty=false:=by rw[Bc_];exact df_ (by omega)
 have hk2 :(it.key.size:Int)≤255:=by omega
 have hnq:¬c.Queue≤(Q.length:Int):=by omega
 clear h
 go_enter func52,ntmps52
 go_upto_region 1 with fail
 have A1:=Blk.new w #[.string it.key,.int .i64 it.time,.int .u64 it.weight] 41;have g1:=ga_ w (.cells #[.string it.key,.int .i64 it.time,.int .u64 it.weight] 41) none
 have hz1:w.heap.size<(w.alloc (.cells #[.string it.key,.int .i64 it.time,.int .u64 it.weight] 41)).heap.size:=by simp
 generalize w.alloc _=w1 at *;generalize hqb:w.heap.size=bx at *;have HBX:=hh_ hqb;clear hqb;have c1:=(b0.out _ g1).cell;have a1:=A1.cell
 go_quiet (fail)
 go_upto_region 7 with fail
 have KN:w.grownBy (w1.drewN nq) none:=Aa_ g1 gw_;have AN:=A1.same (w':=w1.drewN nq) gw_;have hzN:bx<(w1.drewN nq).heap.size:=hz1;clear c1 a1 A1 g1 hz1;generalize w1.drewN nq=w2 at *;have KN2:w2.grownBy w2.drew none:=gw_;obtain⟨N,hN⟩:∃N,w2.heap.size=N:=⟨_,rfl⟩;have HN2:=hh_ (show N≤w2.drew.heap.size from Nat.le_of_eq hN.symm);have HBl:=(b0.out _ KN)
 have hbN:G.g<N:=by have:=HBl.lt;omega
 have hxN:bx<N:=by omega
 have HB:=hh_ (HBl.same KN2);have HX:=hh_ (AN.same KN2);have HO:=hh_ ((RdL.same hQR KN).same KN2);have HOb:=hh_ (show ∀a n k,Value.slice qa Q.length qc=.slice (some a) n k→a.block<N from fun a n k e=>by have:=hQl a.block (by rw[e];rfl);have:=KN.size;omega);have HNN:=hh_ hN;obtain⟨P,hP⟩:∃P:List Cq_→Prop,P=fun T=>T <+: Q++[⟨win,it⟩]∨T=[⟨win,it⟩]:=⟨_,rfl⟩;have HP0:=hh_ (show P [] by rw[hP];exact .inl List.nil_prefix);have HP1:=hh_ (show P Q by rw[hP];exact .inl (List.prefix_append _ _));have HPx:=hh_ (show P [⟨win,it⟩] by rw[hP];exact .inr rfl);have HPF:=hh_ (show P (Q++[⟨win,it⟩]) by rw[hP];exact .inl (List.prefix_refl _));have HP2:=hh_ (show ∀T,P T→T.length≤Q.length∨T <+: Q++[⟨win,it⟩]∨Q++[⟨win,it⟩] <+: T by rw[hP];exact c4_ Q ⟨win,it⟩)
 have hb2:Q.length*40≤140737488355328:=by omega
 have hb3:Q.length≤9223372036854775807:=by omega
 have hb4 :(Q.length+1)*40≤140737488355328:=by omega
 have hb5:Q.length+1≤9223372036854775807:=by omega
 clear hP hN hnq hk1 hk2 HBl AN hQR hQl KN2
 (refine Rg.wp_region_rgZ 14 #[] (Keep waitF 4 177 N P) (fun _ _ _ _ _=>False) (by kernel_rfl) (by kernel_rfl) (Keep.refl _ _ _ _ _) (fun _ _ _ h k=>h.trans k) (fun _ _ _ _ _ h=>h) ?_;simp only[List.take,List.drop])
 have HWD:=hh_ (show w2.grownBy w2.drew none from gw_);generalize w2.drew=wd at *
 (refine tq_ 1 ?_;(repeat(go_big_quiet_step (fail)));refine wn_ ?_)
 (refine to_ ?_;intro y1 my1 dy1)
 clear dy1;have z1:=lt_ HN2.out my1.grown.size
 go_wp2_with fail
 refine⟨Keep.of (ga_ _ _ _),?_⟩;have N1:=Aw_ (e:=177) waitF 4 z1;generalize y1.alloc _=e1 at *;generalize y1.heap.size=g1 at *
 (refine tq_ 3 ?_;(repeat(go_big_quiet_step (fail)));refine wn_ ?_)
 (refine to_ ?_;intro y5 my5 dy5)
 clear dy5;have ax:=(my5.blk HB.out hbN).cell
 go_wp2_with fail
 refine⟨Keep.refl _ _ _ _ _ _,?_⟩;clear ax
 (refine to_ ?_;intro y6 my6 dy6)
 have N6:=(dy6.out 1 (by omega) (by kernel_rfl)).own [] _ HP0.out N1;have R6:=my6.rd HO.out (fun _ a n c e=>HOb.out a n c e);have z6:=lt_ HN2.out my6.grown.size;clear dy6
 go_wp2_with (at_builtin;refine A2_ Ps_ Pp_ N6 R6 rfl hb2 hb3 z6 (by rfl) _ _ (by rfl) (by rfl) (by rfl) ?_;intro v6 e6 o6 g6 l6;have Hg6:=hh_ g6;clear g6 l6)
 refine⟨Keep.of Hg6.out,?_⟩;clear N6 R6 z6 N1 my5 my1 z1
 (refine tq_ 1 ?_;(repeat(go_big_quiet_step (fail)));refine wn_ ?_)
 (refine to_ ?_;intro y8 my8 dy8)
 clear dy8;have ax:=(my8.blk HX.out hxN).cell
 go_wp2_with fail
 refine⟨Keep.refl _ _ _ _ _ _,?_⟩;clear ax
 (refine tq_ 1 ?_;(repeat(go_big_quiet_step (fail)));refine wn_ ?_)
 (refine to_ ?_;intro y10 my10 dy10)
 clear dy10;have z10:=lt_ HN2.out my10.grown.size
 go_wp2_with fail
 refine⟨Keep.of (ga_ _ _ _),?_⟩;have N10:Own waitF 4 177 N (y10.alloc (.cells #[.int .i64 win,.string it.key,.int .i64 it.time,.int .u64 it.weight] 177)) (.slice (some ⟨y10.heap.size,0,none⟩) 1 1) [⟨win,it⟩]:=By_ Br_ y10 z10 ⟨win,it⟩ _ rfl;generalize y10.alloc _=e10 at *;generalize y10.heap.size=g10 at *
 (refine to_ ?_;intro y11 my11 dy11)
 have N11:=(dy11.out 6 (by omega) (by kernel_rfl)).own _ _ HP1.out o6;have R11:=((dy11.out 10 (by omega) (by kernel_rfl)).own _ _ HPx.out N10).rd;have z11:=lt_ HN2.out my11.grown.size;clear dy11
 go_wp2_with (at_builtin;refine Ba_ Ps_ Pp_ Br_ N11 R11 rfl hb4 hb5 z11 HP2.out (by rfl) _ _ (by rfl) (by rfl) (by rfl) ?_;intro v11 e11 o11 k11;have Hk11:=hh_ k11;clear k11)
 refine⟨Hk11.out,?_⟩;clear N11 R11 z11 N10 z10 my10 my11 o6 my8
 (refine tq_ 2 ?_;(repeat(go_big_quiet_step (fail)));refine wn_ ?_)
 (refine Rg.tree_nil ?_;intro z mz dz cz)
 have OZ:=(dz.out 11 (by omega)).own _ _ HPF.out o11;have AZ:=mz.blk HB.out hbN;have GZ:=mz.grown;clear dz cz o11 Hg6 Hk11 mz;obtain⟨a11,c11,rfl⟩:=OZ.shape;have KZ:w.grownBy z none:=Aa_ KN (((GrownS.none_ (S:=fun i=>N≤i) (show w2.grownBy wd none from HWD.out)).trans GZ (fun _ hi _=>hi)).back fun i hi=>by have:=HNN.out;omega);obtain⟨R,M⟩:=H.out.setQ KZ OZ.rd (fun a n k e=>by cases e;exact OZ.cap) (fun i hi=>.inr ⟨by have h1:=(OZ.lt i hi).1;have:=HNN.out;have:=KN.size;omega,(OZ.lt i hi).2⟩);simp only[la_,ls_] at R M;have HR:=hh_ R;have HM:=hh_ M;have az:=AZ.cell;have fz:=AZ.free;clear R M OZ AZ GZ KZ
 go_wp2_with fail
 go_ret
 exact⟨rfl,_,HR.out,HM.out,rfl⟩
end
end Go.Proofs.YtckmgjmeanloaaaGreat
