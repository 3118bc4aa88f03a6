/- Several texts in one file: contracts of functions of the given program, and plain laws, for the proof of a statement. -/
import Derived.Test.YtckmgjmeanloaaaGreatBsaf
import Derived.Test.YtckmgjmeanloaaaGreatBsaa
import Derived.Test.YtckmgjmeanloaaaGreatBsab
set_option maxHeartbeats 8000000
set_option maxRecDepth 100000
namespace Go.Proofs.YtckmgjmeanloaaaGreat
section
open Go.RowKit Go.Sort
def Jq_ (L:List Ent) (j m:Nat):Prop:=(j=0∧m=0)∨(0<j∧m<j∧∃e,L[m]?=some e∧minE (L.take j)=some e)
theorem Jq_.step {L:List Ent} {j m:Nat} (h:Jq_ L j m) (hj:j<L.length) (hm:m<L.length):Jq_ L (j+1) (if L[j].cnt<L[m].cnt then j else m):=by
 right
 have hs:=S0_ (L.take j) L[j];rw[←tg_ hj] at hs
 rcases h with⟨rfl,rfl⟩ |⟨h0,h1,e,h2,h3⟩
 ·rw[if_neg (by omega)]
  exact⟨by omega,by omega,L[0],gq_ hj,by rw[hs];rfl⟩
 ·rw[h3] at hs
  dsimp only at hs;rw[gq_ hm] at h2;have h2:=Option.some.inj h2;rw[←h2] at hs
  by_cases hlt:L[j].cnt<L[m].cnt
  ·rw[if_pos hlt] at hs ⊢
   exact⟨by omega,by omega,L[j],gq_ hj,hs⟩
  ·rw[if_neg hlt] at hs ⊢
   exact⟨by omega,by omega,L[m],gq_ hm,hs⟩
theorem W8_ (g:Nat) (v:Value) (T:TabM) (k:ByteArray) (x:Int) (w:World) (h:RTab w g v T) (hT:Bu_ T) (hA:Fr_ T k x) (hg:getE T.L k=none) (hm:T.mode≠2) (hl :(T.L.length:Int)=T.m):Calls Tryz.prog 159 #[.pointer (some ⟨g,0,none⟩),.string k,.int .u64 x] w (RAdd g v T k x w):=by
 have H:=hh_ h;obtain⟨q1,q2,q3⟩:=hT.w64;have hxs:=hA.sum;have hx1:=hA.x1;have hmw:mostW=9223372036854775808:=rfl;have hb:=hT.base;have hW:W64 x:=⟨by omega,by omega⟩
 have HF:=hh_ fun y=>C5_ T.sum x y q2 hW
 rw[show fitsB T.sum x=true from decide_eq_true (by omega)] at HF;have hk2:=A7_ k;rw[decide_eq_false (show ¬k.size=0 by have:=hA.key;omega)] at hk2;have h02 :(x==0)=false:=beq_eq_false_iff_ne.2 (by omega);have hm2 :(T.mode==2)=false:=beq_eq_false_iff_ne.2 hm;have hl2 :((T.L.length:Int)==T.m)=true:=beq_iff_eq.2 hl;have hlen:=hT.len;have hmm:=hT.m
 have HP:=hh_ fun y (R:RTab y g v { T with sum:=T.sum+x })=>B3_ v T.L k y R.own.rd
 rw[Gq_ hg] at HP
 obtain⟨xe,hxe⟩:∃xe,minE T.L=some xe:=by
  cases hx:minE T.L with
  | none=>rw[G6_.1 hx] at hl;simp at hl;omega
  | some xe=>exact⟨xe,rfl⟩
 have hxm:=Fv_ hxe;obtain⟨⟨x1,x2⟩,⟨x3,x4⟩,x5,x6⟩:=q3 xe hxm;have HR:=hh_ (show(if addErr T.sum k x=0 then T.add k x else T)={ T with sum:=T.sum+x,base:=xe.cnt,L:=delE T.L xe.key++[⟨k,x,xe.cnt⟩] } by rw[if_pos hA.err,I1_ hg hm hl hxe]);have HE:=hh_ hA.err
 have HD:=hh_ fun(m:Nat) (hm:m<T.L.length) (he:T.L[m]?=some xe)=>(show delE T.L xe.key=T.L.eraseIdx m by
  rw[gq_ hm] at he
  rw[←Option.some.inj he];exact Te_ hT.ents.nodup hm)
 have HQ:=hh_ q3;have HX:=hh_ hxe;have HL:=hh_ hl;have b0:=h.blk.cell;have f0:=h.blk.free;obtain⟨a,c,hv⟩:=h.own.shape;subst hv;have hgl:=h.blk.lt;have hwr:IntKind.u64.wrap (T.sum+x)=T.sum+x:=IntWalk.u64_in _ (by omega)
 have HW:=hh_ fun y m (R:Own entF 3 224 0 y (.slice a T.L.length c) T.L) (hi:m<T.L.length)=>Du_ 0 (.slice a T.L.length c) T.L m y R hi (by omega)
 clear h hT hA hg q3 q1 q2 hm hl hxe hxm
 go_enter Tryz.func159,Tryz.ntmps159
 go_upto_region 8 with(go_at_call 118;refine(HF.out _).mono ?_;rintro e w1 ⟨rfl,rfl⟩)
 obtain⟨R1,g1⟩:=H.out.setSum (T.sum+x);clear b0 f0 hwr HF;generalize w.setCell ⟨g,4,none⟩ (.int .u64 (T.sum+x))=w1 at *;have HR1:=hh_ R1;have b1:=R1.blk.cell;clear R1
 go_upto_region 9 with(go_at_call 182;refine(HP.out _ HR1.out).mono ?_;rintro e w2 ⟨rfl,g2⟩)
 have R2:=HR1.out.same g2;have b2:=R2.blk.cell;clear b1
 go_upto_region 17 with fail
 go_quiet (fail)
 have k3:w2.grownBy (w2.drewN nq) none:=Ae_ (Ab_ w2 none) _;have R3:=R2.same k3;have k3:=Aa_ g2 k3;clear R2 b2 g2;generalize w2.drewN nq=w3 at *;have HR3:=hh_ R3;have b3:=R3.blk.cell;clear R3 HP
 go_upto_region 20 with fail
 clear b3
 go_loopw [9,87] (fun s9 s87 wk=>∃j m:Nat,j≤T.L.length∧m<T.L.length∧s87=.int .i64 j∧s9=.int .i64 m∧Jq_ T.L j m∧w3.grownBy wk none) (fun _ s87 _=>T.L.length-(RowKit.intOf s87).toNat)
 case atStart=>exact⟨0,0,Nat.zero_le _,by have:=HL.out;omega,rfl,rfl,.inl ⟨rfl,rfl⟩,Ab_ _ _⟩
 case round=>
  obtain⟨j,m,hj,hm,rfl,rfl,hLe,hgk⟩:=hrel;have R4:=HR3.out.same hgk
  by_cases hjl:j<T.L.length
  ·obtain⟨g',off,cap,hv,hgl',d0,d1,d2⟩:=R4.own.rd.entr hjl
   cases hv;have hst:=hh_ (hLe.step hjl hm);have hqj:=HQ.out _ (mg_ hjl);have hqm:=HQ.out _ (mg_ hm)
   have HM:=hh_ fun y (q:w3.grownBy y none)=>(HR3.out.same q).own.rd.entr hm
   have HR4:=hh_ R4;unfold Ent.cnt at hst;unfold W64 at hqj hqm;generalize T.L[j]=ej at *;generalize T.L[m]=em at *;clear hLe R4
   go_upto_region 22 with fail
   (have A5:=Blk.new wr #[.string ej.key,.int .u64 ej.own,.int .u64 ej.slack] 224);(have G5:=ga_ wr (.cells #[.string ej.key,.int .u64 ej.own,.int .u64 ej.slack] 224) none);generalize wr.alloc (.cells #[.string ej.key,.int .u64 ej.own,.int .u64 ej.slack] 224)=w5 at *;generalize hgc:wr.heap.size=gc at *
   have K5:=Aa_ hgk G5;have R5:=HR3.out.same K5;have b5:=R5.blk.cell;have a5:=A5.cell;obtain⟨g2,off2,cap2,hv,hgl2,m0,m1,m2⟩:=HM.out _ K5;cases hv;clear d0 d1 d2 m0 R5 HR4 HM;have hw1:IntKind.u64.wrap (ej.own+ej.slack)=ej.own+ej.slack:=IntWalk.u64_in _ (by omega);have hw2:IntKind.u64.wrap (em.own+em.slack)=em.own+em.slack:=IntWalk.u64_in _ (by omega)
   have hm0 :(m:Int)<(T.L.length:Int):=by omega
   have hm1 :(0:Int)≤(m:Int):=by omega
   by_cases hlt:ej.own+ej.slack<em.own+em.slack
   ·have hs:=hst.out
    rw[if_pos hlt] at hs;have Hs:=hh_ hs;have hltd:decide (ej.own+ej.slack<em.own+em.slack)=true:=decide_eq_true hlt;clear hs hst hlt
    go_quiet (fail)
    go_wp2_with fail
    exact⟨⟨j+1,j,by omega,hjl,by go_num,rfl,Hs.out,Ae_ K5 _⟩,by simp[RowKit.intOf];omega⟩
   ·have hs:=hst.out
    rw[if_neg hlt] at hs;have Hs:=hh_ hs;have hltd:decide (ej.own+ej.slack<em.own+em.slack)=false:=decide_eq_false hlt;clear hs hst hlt
    go_quiet (fail)
    go_wp2_with fail
    exact⟨⟨j+1,m,by omega,hm,by go_num,rfl,Hs.out,Ae_ K5 _⟩,by simp[RowKit.intOf];omega⟩
  ·have hje:T.L.take j=T.L:=tk_ (by omega)
   have hme:T.L[m]?=some xe:=by
    rcases hLe with⟨h0,_⟩ |⟨_,_,e,h1,h2⟩
    ·have:=HL.out;omega
    ·rw[hje,HX.out] at h2;cases h2;exact h1
   have hdel:=HD.out m hm hme;obtain⟨g',off,cap,hv,hgl',d0,d1,d2⟩:=R4.own.rd.entr hm;cases hv;rw[gq_ hm] at hme;have hme:=Option.some.inj hme;rw[hme] at d0 d1 d2
   have hdl :(delE T.L xe.key).length+1=T.L.length:=by rw[hdel,List.length_eraseIdx,if_pos hm];omega
   have Hdl:=hh_ hdl
   have HW2:=hh_ fun y R=>HW.out y m R hm
   rw[←hdel] at HW2;clear hdel hje hLe hme HD HX HQ HW hdl;generalize delE T.L xe.key=L1 at *;have b4:=R4.blk.cell;have f4:=R4.blk.free;have hw1:IntKind.u64.wrap (xe.own+xe.slack)=xe.own+xe.slack:=IntWalk.u64_in _ (by omega)
   have hm0 :(m:Int)<(T.L.length:Int):=by omega
   have hm1 :(0:Int)≤(m:Int):=by omega
   go_upto_region 25 with fail
   (refine Tail.wp_region_tail_drawn 20 (by kernel_rfl) (by kernel_rfl) ?_;simp only[List.take,List.drop];(repeat(go_big_quiet_step (fail)));refine wpQuiet_nil ?_;rintro _ ⟨nq,rfl⟩)
   have k5:wr.grownBy (wr.drewN nq) none:=Ae_ (Ab_ wr none) _;have R5:=R4.same k5;have k5:=Aa_ hgk k5;clear b4 f4 R4 d0 d1 d2 hgk;generalize wr.drewN nq=w5 at *;have f5:=R5.blk.free;have b5:=R5.blk.cell
   go_upto_region 26 with fail
   obtain⟨R6,g6⟩:=R5.setBase (xe.own+xe.slack);have k6:=k5.size
   have M6:Mov (rtF g (.slice (some ⟨g',off,none⟩) T.L.length c)) (rtF g (.slice (some ⟨g',off,none⟩) T.L.length c)) w (w5.setCell ⟨g,3,none⟩ (.int .u64 (xe.own+xe.slack))):=by
    have M1:GrownS (rtF g (.slice (some ⟨g',off,none⟩) T.L.length c)) w w1:=GrownS.of g1 fun q e=>by cases e;exact .inl rfl
    have M2:GrownS (rtF g (.slice (some ⟨g',off,none⟩) T.L.length c)) w1 w5:=GrownS.none_ (Aa_ k3 k5);exact⟨(M1.trans M2 fun i hi _=>hi).trans (GrownS.of (S:=oneF g) g6 fun q e=>by cases e;exact rfl) fun i hi _=>.inl hi,fun i hi=>.inl hi⟩
   clear R5 f5 b5 g6 k5 k3 g1 HR3 HR1 H;generalize w5.setCell ⟨g,3,none⟩ (.int .u64 (xe.own+xe.slack))=w6 at *;have HR6:=hh_ R6;have b6:=R6.blk.cell;clear R6 k6
   go_upto_region 27 with(go_at_call 183;refine(HW2.out _ HR6.out.own).mono ?_;rintro e w7 ⟨v7,rfl,o7,g7⟩;have R7:=HR6.out.same g7;have b7:=R7.blk.cell;have f7:=R7.blk.free;obtain⟨a7,c7,rfl⟩:=o7.shape)
   have hn7:¬ownF (.slice a7 L1.length c7) g:=fun e=>by have:=(o7.lt _ e).1;have:=HR6.out.blk.lt;omega
   have hv7:=fun q (hq :(Value.slice a7 L1.length c7).ownBlock=some q)=>(o7.lt q hq).1
   obtain⟨R8,g8⟩:=RTab.setL R7.blk o7 hn7
   have M8:Mov (rtF g (.slice (some ⟨g',off,none⟩) T.L.length c)) (rtF g (.slice a7 L1.length c7)) w (w7.setCell ⟨g,2,none⟩ (.slice a7 L1.length c7)):=by
    refine⟨(M6.grown.trans (GrownS.none_ (S:=rtF g (.slice (some ⟨g',off,none⟩) T.L.length c)) g7) fun i hi _=>hi).trans (GrownS.of (S:=oneF g) g8 fun q e=>by cases e;exact rfl) fun i hi _=>.inl hi,fun i hi=>?_⟩
    rcases hi with hi|hi
    ·exact .inl (.inl hi)
    ·exact .inr (lt_ M6.size (hv7 i hi))
   clear b6 b7 f7 R7 HR6 o7 g7 g8 hn7 hv7 M6;generalize w7.setCell ⟨g,2,none⟩ (.slice a7 L1.length c7)=w8 at *;have k9:w8.grownBy w8.drew none:=Am_ (Ab_ w8 none);have R9:=R8.same k9;have HB:=hh_ R9.blk;have HO:=hh_ R9.own;have Hne:=hh_ R9.ne;obtain⟨rr,hrr⟩:∃rr,(Value.slice a7 L1.length c7).ownBlock=rr:=⟨_,rfl⟩;have Hrr:=hh_ hrr;have Hrg:=hh_ (show rr≠some g by rw[←hrr];exact R9.ne);obtain⟨P,hP⟩:∃P:List Ent→Prop,P=fun S=>S=L1∨S=[⟨k,x,xe.own+xe.slack⟩]∨S=L1++[⟨k,x,xe.own+xe.slack⟩]:=⟨_,rfl⟩;have HP1:=hh_ (show P L1 by rw[hP];exact .inl rfl);have HPx:=hh_ (show P [⟨k,x,xe.own+xe.slack⟩] by rw[hP];exact .inr (.inl rfl));have HPF:=hh_ (show P (L1++[⟨k,x,xe.own+xe.slack⟩]) by rw[hP];exact .inr (.inr rfl))
   have HP2:=hh_ (show ∀S,P S→S.length≤L1.length∨S <+: L1++[⟨k,x,xe.own+xe.slack⟩]∨L1++[⟨k,x,xe.own+xe.slack⟩] <+: S by
    intro S hS;rw[hP] at hS
    rcases hS with rfl|rfl|rfl
    ·exact .inl (Nat.le_refl _)
    ·cases L1 with
     | nil=>exact .inr (.inl (List.prefix_refl _))
     | cons _ _=>exact .inl (by simp)
    ·exact .inr (.inl (List.prefix_refl _)))
   have hdl:=Hdl.out
   have hb4 :(L1.length+[(⟨k,x,xe.own+xe.slack⟩:Ent)].length)*32≤140737488355328:=by simp;omega
   have hb5:L1.length+[(⟨k,x,xe.own+xe.slack⟩:Ent)].length≤9223372036854775807:=by simp;omega
   have HM8:=hh_ (M8.trans (Mov.same k9));clear hP hrr R9 R8 k9 M8 hdl Hdl HL hm0 hm1
   (refine Rg.wp_region_rgZ 16 #[] (KeepR entF 3 224 0 P rr) (fun _ _ _ _ _=>False) (by kernel_rfl) (by kernel_rfl) (KeepR.refl _ _ _ _ _ _) (fun _ _ _ h k=>h.trans k) (fun _ _ _ _ _ h=>h) ?_;simp only[List.take,List.drop])
   generalize w8.drew=wd at *
   (refine tq_ 4 ?_;simp only[ts_,Nat.reduceAdd];(repeat(go_big_quiet_step (fail)));refine wpQuiet_nil ?_)
   (refine Rg.tree_op rfl rfl ?_;intro y4 my4 dy4)
   clear dy4;have ax:=(my4.blk HB.out Hrg.out).cell
   go_wp2_with fail
   refine⟨KeepR.refl _ _ _ _ _ _ _,?_⟩;clear ax my4
   (refine tq_ 5 ?_;simp only[ts_,Nat.reduceAdd];(repeat(go_big_quiet_step (fail)));refine wpQuiet_nil ?_)
   (refine Rg.tree_op rfl rfl ?_;intro y10 my10 dy10)
   clear dy10;have ax:=(my10.blk HB.out Hrg.out).cell
   go_wp2_with fail
   refine⟨KeepR.refl _ _ _ _ _ _ _,?_⟩;clear ax my10
   (refine tq_ 1 ?_;simp only[ts_,Nat.reduceAdd];(repeat(go_big_quiet_step (fail)));refine wpQuiet_nil ?_)
   (refine Rg.tree_op rfl rfl ?_;intro y12 my12 dy12)
   clear dy12
   go_wp2_with fail
   refine⟨KeepR.of (ga_ _ _ _),?_⟩;have N8:Own entF 3 224 0 (y12.alloc (.cells #[.string k,.int .u64 x,.int .u64 (xe.own+xe.slack)] 224)) (.slice (some ⟨y12.heap.size,0,none⟩) 1 1) [⟨k,x,(xe.own+xe.slack)⟩]:=Bx_ Ay_ y12 (Nat.zero_le _) ⟨k,x,(xe.own+xe.slack)⟩ _ rfl;generalize y12.alloc (.cells #[.string k,.int .u64 x,.int .u64 (xe.own+xe.slack)] 224)=e8 at *;generalize y12.heap.size=g8 at *
   (refine Rg.tree_op rfl rfl ?_;intro y13 my13 dy13)
   have N9:=my13.own _ _ HP1.out HO.out;have R9:=((dy13.out 12 (by omega) (by kernel_rfl)).own _ _ HPx.out N8).rd;clear dy13
   go_wp2_with (at_builtin;refine Gj_ (P:=P) Bi_ Bh_ Ay_ N9 R9 rfl hb4 hb5 (Nat.zero_le _) HP2.out (by rfl) _ _ (by rfl) (by rfl) (by rfl) ?_;intro v9 e9 o9 k9 l9;have Hk9:=hh_ k9;clear k9;have Hl9:=hh_ (And.intro l9 my13.grown.size);clear l9)
   rw[Hrr.out] at Hk9;refine⟨Hk9.out,?_⟩;clear N9 R9 N8 my12 my13
   (refine tq_ 2 ?_;simp only[ts_,Nat.reduceAdd];(repeat(go_big_quiet_step (fail)));refine wpQuiet_nil ?_)
   (refine Rg.tree_nil ?_;intro z mz dz cz)
   have OZ:=(dz.out 13 (by omega)).own _ _ HPF.out o9;have BZ:=mz.blk HB.out Hrg.out;have GZ:=mz.grown;clear dz cz o9 Hk9 mz;have bz:=BZ.cell;have fz:=BZ.free;obtain⟨az,cz2,hvz⟩:=OZ.shape;rw[List.length_append,List.length_singleton] at hvz;subst hvz
   go_wp2_with fail
   go_ret
   have hnz:=F1_ Hl9.out.1 Hne.out (Nat.lt_of_lt_of_le HB.out.lt Hl9.out.2);obtain⟨R6,g6⟩:=RTab.setL BZ OZ hnz;refine⟨by rw[HE.out];rfl,_,by rw[HR.out];exact R6,HM8.out.trans ⟨?_,fun i hi=>?_⟩⟩
   ·have M3:GrownS (rtF g (.slice a7 L1.length c7)) wd z:=GrownS.of GZ fun q e=>.inr (Hrr.out.trans e)
    exact M3.trans (GrownS.of (S:=oneF g) g6 fun q e=>by cases e;exact rfl) fun i hi _=>.inl hi
   ·rcases hi with hi|hi
    ·exact .inl (.inl hi)
    ·rcases lies_new Hl9.out.1 i hi with hi|hi
     ·exact .inl (.inr hi)
     ·exact .inr (lt_ Hl9.out.2 hi)
theorem Hi_ (g:Nat) (v:Value) (T:TabM) (k:ByteArray) (x:Int) (w:World) (h:RTab w g v T) (hT:Bu_ T) (hk:k.size≤255) (hx:W64 x):Calls Tryz.prog 159 #[.pointer (some ⟨g,0,none⟩),.string k,.int .u64 x] w (RAdd g v T k x w):=by
 by_cases he:addErr T.sum k x=0
 ·have hA:=ev_ he hk hx.1
  cases hg:getE T.L k with
  | some en=>exact V7_ g v T k x w h hT hA en hg
  | none=>
   by_cases hm:T.mode=2
   ·exact Xi_ g v T k x w h hT hA hg hm
   ·by_cases hl :(T.L.length:Int)=T.m
    ·exact W8_ g v T k x w h hT hA hg hm hl
    ·exact S7_ g v T k x w h hT hA hg hm hl
 ·exact Xp_ g v T k x w h hT.w64.2.1 hx he
end
section
open Go.RowKit Go.Sort
theorem az_ (mode m:Int) (w:World) (hm:mode=1∨mode=2) (h1:1≤m∧m≤64):Calls Tryz.prog 153 #[.int .i64 mode,.int .i64 m] w (fun e w'=>∃g,e=.returned (.tuple #[.pointer (some ⟨g,0,none⟩),.int .i64 0])∧RTab w' g (.slice none 0 0) ⟨mode,m,[],0,0⟩∧w.heap.size≤g∧w.grownBy w' none):=by
 obtain⟨m1,m2⟩:=h1
 have fin:∀t,∃g,Ending.returned (.tuple #[.pointer (some ⟨w.heap.size,0,none⟩),.int .i64 0])=.returned (.tuple #[.pointer (some ⟨g,0,none⟩),.int .i64 0])∧RTab (w.alloc (.cells (rtA ⟨mode,m,[],0,0⟩ (.slice none 0 0)) t)) g (.slice none 0 0) ⟨mode,m,[],0,0⟩∧w.heap.size≤g∧w.grownBy (w.alloc (.cells (rtA ⟨mode,m,[],0,0⟩ (.slice none 0 0)) t)) none:=fun t=>
  ⟨_,rfl,⟨Blk.new w _ t,Own.nil _ _ _ _ _,Ax_ _⟩,Nat.le_refl _,ga_ _ _ _⟩
 rcases hm with rfl|rfl
 ·go_enter Tryz.func153,Tryz.ntmps153
  go_wp2_with fail
  go_ret2
  exact fin _
 ·go_enter Tryz.func153,Tryz.ntmps153
  go_wp2_with fail
  go_ret2
  exact fin _
theorem bs_ (g:Nat) (v:Value) (T:TabM) (k:ByteArray) (en:Ent) (w:World) (h:RTab w g v T) (hlen:T.L.length≤64) (hg:getE T.L k=some en):Calls Tryz.prog 162 #[.pointer (some ⟨g,0,none⟩),.string k] w (fun e w'=>e=.returned (optV (some (T.fix en)))∧∃v',RTab w' g v' (T.take k)∧Mov (rtF g v) (rtF g v') w w'):=by
 have H:=hh_ h;obtain⟨i1,hil,hie,hdel⟩:=Cp_ hg
 have HG:=hh_ fun y (q:w.grownBy y none)=>Ce_ g v T k _ y (h.same q) (Tj_ hg)
 have HP0:=hh_ fun y (R:Own entF 3 224 0 y v T.L)=>B3_ v T.L k y R.rd
 rw[i1] at HP0
 have HW0:=hh_ fun y (R:Own entF 3 224 0 y v T.L)=>Du_ 0 v T.L (plN T.L k) y R hil (by omega)
 rw[←hdel] at HW0;have HR:=hh_ (show T.take k={ T with L:=delE T.L k } from rfl);generalize plN T.L k=I0 at *;generalize hI :(I0:Int)=I at *;generalize delE T.L k=L1 at *;obtain⟨a,c,hv⟩:=h.own.shape;subst hv;have hgl:=h.blk.lt;have fk:=Eh_ T en;have fo:=Dt_ T en;generalize T.fix en=fe at *;clear h hg i1 hie hdel fk fo
 go_enter Tryz.func162,Tryz.ntmps162
 go_upto_region 1 with fail
 (have A1:=Blk.new w #[.string ⟨#[]⟩,.int .u64 0,.int .u64 0] 224);(have G1:=ga_ w (.cells #[.string ⟨#[]⟩,.int .u64 0,.int .u64 0] 224) none);generalize w.alloc (.cells #[.string ⟨#[]⟩,.int .u64 0,.int .u64 0] 224)=w1 at *;generalize hgb:w.heap.size=gb at *
 go_upto_region 2 with(go_at_call 160;refine(HG.out _ G1).mono ?_;rintro e w2 ⟨rfl,g2⟩)
 have K2:=Aa_ G1 g2;have A2:=A1.same g2
 (have A3:=Blk.new w2 #[.string fe.key,.int .u64 fe.own,.int .u64 fe.slack] 224);(have G3:=ga_ w2 (.cells #[.string fe.key,.int .u64 fe.own,.int .u64 fe.slack] 224) none);generalize w2.alloc (.cells #[.string fe.key,.int .u64 fe.own,.int .u64 fe.slack] 224)=w3 at *;generalize hgc:w2.heap.size=gc at *
 have K3:=Aa_ K2 G3;have A4:=A2.same G3
 go_upto_region 3 with fail
 have k5:w.grownBy w3.drew none:=Am_ K3;have R5:=H.out.same k5;have HB:=hh_ R5.blk;have HO:=hh_ R5.own;have A5:=A3.drew1;have A6:=A4.drew1;have hcN:gc<w3.drew.heap.size:=A5.lt;have hgN:g<w3.drew.heap.size:=HB.out.lt;have hbN:gb<w3.drew.heap.size:=A6.lt;obtain⟨N,hN⟩:∃N,N=w3.drew.heap.size:=⟨_,rfl⟩;have HN2:=hh_ (Nat.le_of_eq hN);rw[←hN] at hcN hgN hbN
 have hvN:∀i,ownF (.slice a T.L.length c) i→i<N:=by rw[hN];exact HO.out.low
 have HX:=hh_ A5;have HY:=hh_ A6;obtain⟨P,hP⟩:∃P:List Ent→Prop,P=fun S=>S=L1:=⟨_,rfl⟩;have HPF:=hh_ (show P L1 by rw[hP])
 have HP:=hh_ fun y (m:Keep entF 3 224 N P w3.drew y)=>HP0.out y (HO.out.keptS m.grown fun q hq hge=>by have:=hvN q hq;omega)
 have HW:=hh_ fun y (m:Keep entF 3 224 N P w3.drew y)=>HW0.out y (HO.out.keptS m.grown fun q hq hge=>by have:=hvN q hq;omega)
 have Hk:=hh_ k5;have hz5:=k5.size
 have hN0:w.heap.size≤N:=by omega
 have HI:=hh_ hI;have Hgc:=hh_ hgc
 have hbc:gb<gc:=by have:=A2.lt;omega
 have hb0:w.heap.size≤gb:=by omega
 clear HP0 HW0 hN k5 A5 A6 A1 A2 A3 A4 R5 G1 G3 K2 K3 HG g2 hP hI hz5 hgc
 (refine Rg.wp_region_rgZ 14 #[] (Keep entF 3 224 N P) (fun k _ w v w'=>match k with | 10=>v=.int .i64 I∧World.grownBy w w' none | 11=>Own entF 3 224 N w' v L1∧World.grownBy w w' none | _=>False) (by kernel_rfl) (by kernel_rfl) (Keep.refl _ _ _ _ _) (fun _ _ _ h k=>h.trans k) (fun _ _ _ _ _ h=>h) ?_;simp only[List.take,List.drop])
 generalize w3.drew=wd at *
 (refine tq_ 4 ?_;simp only[ts_,Nat.reduceAdd];(repeat(go_big_quiet_step (fail)));refine wpQuiet_nil ?_)
 (refine Rg.tree_op rfl rfl ?_;intro y4 my4 dy4)
 clear dy4;have ax:=(my4.blk HB.out hgN).cell
 go_wp2_with fail
 refine⟨Keep.refl _ _ _ _ _ _,?_⟩;clear ax my4
 (refine tq_ 3 ?_;simp only[ts_,Nat.reduceAdd];(repeat(go_big_quiet_step (fail)));refine wpQuiet_nil ?_)
 (refine Rg.tree_op rfl rfl ?_;intro y8 my8 dy8)
 clear dy8;have ax:=(my8.blk HB.out hgN).cell
 go_wp2_with fail
 refine⟨Keep.refl _ _ _ _ _ _,?_⟩;clear ax my8
 (refine tq_ 1 ?_;simp only[ts_,Nat.reduceAdd];(repeat(go_big_quiet_step (fail)));refine wpQuiet_nil ?_)
 (refine Rg.tree_call rfl rfl rfl ?_;intro y10 my10 dy10;refine⟨?_,?_⟩;· (unfold Rg.callSpec;go_simp;(refine(HP.out y10 my10).mono ?_;rintro e w' ⟨rfl,g'⟩;exact⟨_,rfl,rfl,g'⟩)))
 clear dy10;rintro v10 e10 ⟨rfl,g10⟩;refine⟨Keep.of g10,?_⟩;simp only[pt_];clear g10 my10
 (refine Rg.tree_call rfl rfl rfl ?_;intro y11 my11 dy11;refine⟨?_,?_⟩;· (unfold Rg.callSpec;go_simp;(refine(HW.out y11 my11).mono ?_;rintro e w' ⟨v',rfl,o',g'⟩;exact⟨_,rfl,o'.base (fun q hq=>lt_ (lt_ HN2.out my11.grown.size) (o'.lt q hq).1),g'⟩)))
 clear dy11;rintro v11 e11 ⟨o11,g11⟩;refine⟨Keep.of g11,?_⟩;simp only[pt_];clear g11 my11
 (refine tq_ 2 ?_;simp only[ts_,Nat.reduceAdd];(repeat(go_big_quiet_step (fail)));refine wpQuiet_nil ?_)
 (refine Rg.tree_nil ?_;intro z mz dz cz)
 have OZ:=(dz.out 11 (by omega)).own _ _ HPF.out o11;have BZ:=mz.blk HB.out hgN;have XZ:=mz.blk HX.out hcN;have YZ:=mz.blk HY.out hbN;have GZ:=mz.grown;clear dz cz o11 mz;have bz:=BZ.cell;have fz:=BZ.free;obtain⟨az,cz2,hvz⟩:=OZ.shape;subst hvz
 go_upto_region 4 with fail
 have hnz:¬ownF (.slice az L1.length cz2) g:=fun e=>by have:=(OZ.lt _ e).1;omega
 obtain⟨R6,g6⟩:=RTab.setL BZ OZ hnz;have X6:=XZ.kept g6 (by simp;omega);have Y6:=YZ.kept g6 (by simp;omega)
 have HOZ:=hh_ fun i hi=>(OZ.lt i hi).1
 clear bz fz BZ OZ XZ YZ;generalize z.setCell ⟨g,2,none⟩ (.slice az L1.length cz2)=w6 at *;have x6:=X6.cell;have y6:=Y6.cell;have f6:=Y6.free
 go_wp2_with fail
 (have g7:World.grownBy w6 (((w6.setCell ⟨gb,0,none⟩ (.string fe.key)).setCell ⟨gb,1,none⟩ (.int .u64 fe.own)).setCell ⟨gb,2,none⟩ (.int .u64 fe.slack)) (some gb):=Ac_ (Ac_ (Ac_ (Ab_ _ _) _ _) _ _) _ _);(have A7:Blk (((w6.setCell ⟨gb,0,none⟩ (.string fe.key)).setCell ⟨gb,1,none⟩ (.int .u64 fe.own)).setCell ⟨gb,2,none⟩ (.int .u64 fe.slack)) gb #[.string fe.key,.int .u64 fe.own,.int .u64 fe.slack]:=((Blk.set_ (by assumption) 0 _ rfl).set_ 1 _ rfl).set_ 2 _ rfl);generalize ((w6.setCell ⟨gb,0,none⟩ (.string fe.key)).setCell ⟨gb,1,none⟩ (.int .u64 fe.own)).setCell ⟨gb,2,none⟩ (.int .u64 fe.slack)=w7 at *
 have rc:=A7.cell;have hz6:=g6.size;refine bodyPost_ret (v:=.tuple #[.agg #[.string fe.key,.int .u64 fe.own,.int .u64 fe.slack],.bool true]) (by simp[results,Tryz.results162,go_sem,rc]) rfl ?_
 have R7:=R6.keptS (GrownS.of (S:=oneF gb) g7 fun q e=>by cases e;exact rfl) fun i hi hib=>by
  rw[show i=gb from hib] at hi
  rcases hi with hi|hi
  ·omega
  ·have:=HOZ.out gb hi;omega
 refine⟨rfl,_,by rw[HR.out];exact R7,?_,fun i hi=>?_⟩
 ·have M2:GrownS (rtF g (.slice a T.L.length c)) w wd:=GrownS.none_ Hk.out
  refine((M2.trans GZ fun i hi hlt=>absurd hi (by omega)).trans (GrownS.of (S:=oneF g) g6 fun q e=>by cases e;exact rfl) fun i hi _=>.inl hi).trans (GrownS.of (S:=oneF gb) g7 fun q e=>by cases e;exact rfl) fun i hi hlt=>?_
  have:i=gb:=hi
  omega
 ·rcases hi with hi|hi
  ·exact .inl (.inl hi)
  ·exact .inr (lt_ hN0 (HOZ.out i hi))
end
section
open Go.RowKit Go.Sort
theorem Ly_ (own slack most:Int) (w:World) (h1:W64 own) (h2:W64 slack) (h3:W64 most) (hle:own+slack≤most):Calls Tryz.prog 185 #[.int .u64 own,.int .u64 slack,.int .u64 most] w (fun e w'=>e=.returned (.bool true)∧w.grownBy w' none):=by
 unfold W64 at *;have hwr:IntKind.u64.wrap (most-own)=most-own:=IntWalk.u64_in _ (by omega);have d1:decide (own≤most)=true:=decide_eq_true (by omega);have d2:decide (slack≤most-own)=true:=decide_eq_true (by omega)
 go_enter Tryz.func185,Tryz.ntmps185
 go_wp2_with fail
 go_ret
 exact⟨rfl,Ab_ _ _⟩
theorem b3_ (g:Nat) (v:Value) (T:TabM) (k:ByteArray) (y e:Ent) (w:World) (h:RTab w g v T) (hT:Bu_ T) (hg:getE T.L k=some y) (he:0<e.key.size) (ho:1≤e.own) (hs:0≤e.slack) (hn:e.key∉keysE T.L) (hok:T.swapOk y e) :
  Calls Tryz.prog 166 #[.pointer (some ⟨g,0,none⟩),.string k,.agg #[.string e.key,.int .u64 e.own,.int .u64 e.slack]] w (fun en w'=>en=.returned (.tuple #[.agg #[.string (T.fix y).key,.int .u64 (T.fix y).own,.int .u64 (T.fix y).slack],.int .i64 0])∧∃v',RTab w' g v' (T.swap k e)∧Mov (rtF g v) (rtF g v') w w'):=by
 have H:=hh_ h;obtain⟨i1,hil,hie,hdel⟩:=Cp_ hg;obtain⟨q1,q2,q3⟩:=hT.w64;have hym:=(A4_ hg).1;obtain⟨⟨y1,y2⟩,⟨y3,y4⟩,y5,y6⟩:=q3 y hym;have hb:=hT.base;have hmw:mostW=9223372036854775808:=rfl;have hsum:=hT.sum
 have hlen:T.L.length≤64:=by have:=hT.len;have:=hT.m;omega
 have HG:=hh_ fun z (q:w.grownBy z none)=>Ce_ g v T k _ z (h.same q) (Tj_ hg)
 have HP0:=hh_ fun z (R:Own entF 3 224 0 z v T.L)=>B3_ v T.L k z R.rd
 rw[i1] at HP0
 have HPe:=hh_ fun z (q:w.grownBy z none)=>B3_ v T.L e.key z (h.same q).own.rd
 rw[Gq_ (Cs_.2 hn)] at HPe
 have HW0:=hh_ fun z (R:Own entF 3 224 0 z v T.L)=>Du_ 0 v T.L (plN T.L k) z R hil (by omega)
 rw[←hdel] at HW0;have HR:=hh_ (show T.swap k e={ T with L:=delE T.L k++[T.swapE k e] } from rfl);have Hdl:=hh_ (C7_ hg);generalize plN T.L k=I0 at *;generalize hI :(I0:Int)=I at *;generalize delE T.L k=L1 at *;have HI:=hh_ hI;clear hI;obtain⟨a,c,hv⟩:=h.own.shape;subst hv;have hgl:=h.blk.lt;have he2:=A7_ e.key;rw[decide_eq_false (show ¬e.key.size=0 by omega)] at he2;have hfo:=Dt_ T y
 have HC:=hh_ (show(T.mode=2∧e.own≤(T.fix y).own∧e.slack≤T.base∧T.swapE k e =⟨e.key,e.own,0⟩)∨(T.mode=1∧W64 ((T.fix y).own+(T.fix y).slack)∧e.own+e.slack≤(T.fix y).own+(T.fix y).slack∧T.swapE k e=if e.own<T.base then ⟨e.key,e.own,max e.slack (T.base-e.own)⟩ else ⟨e.key,e.own,e.slack⟩) by
  by_cases hm:T.mode=2
  ·unfold TabM.swapOk at hok;rw[if_pos hm] at hok
   exact .inl ⟨hm,by rw[Dt_];exact hok.2.1,hok.2.2,by unfold TabM.swapE;rw[if_pos hm]⟩
  ·unfold TabM.swapOk at hok;rw[if_neg hm] at hok
   rw[fix1 hm y]
   exact .inr ⟨hT.mode.resolve_right hm,⟨by omega,by omega⟩,hok,by unfold TabM.swapE;rw[if_neg hm]⟩)
 generalize T.fix y=fe at *;clear h hT hg i1 hie hdel hym q3 hok hn hfo y1 y2 y3 y4 y5 y6
 go_enter Tryz.func166,Tryz.ntmps166
 go_upto_region 1 with fail
 have E1:=(Blk.new w #[.string e.key,.int .u64 e.own,.int .u64 e.slack] 224).same (ga_ (w.alloc (.cells #[.string e.key,.int .u64 e.own,.int .u64 e.slack] 224)) (.cells #[.string ⟨#[]⟩,.int .u64 0,.int .u64 0] 224) none);have B1:Blk ((w.alloc (.cells #[.string e.key,.int .u64 e.own,.int .u64 e.slack] 224)).alloc (.cells #[.string ⟨#[]⟩,.int .u64 0,.int .u64 0] 224)) (w.heap.size+1) #[.string ⟨#[]⟩,.int .u64 0,.int .u64 0]:=Blk.new' _ _ _ (by simp);have K1:=Ad_ (ga_ w (.cells #[.string e.key,.int .u64 e.own,.int .u64 e.slack] 224) none) (.cells #[.string ⟨#[]⟩,.int .u64 0,.int .u64 0] 224);generalize (w.alloc (.cells #[.string e.key,.int .u64 e.own,.int .u64 e.slack] 224)).alloc (.cells #[.string ⟨#[]⟩,.int .u64 0,.int .u64 0] 224)=w1 at *;generalize hge:w.heap.size=ge at *;generalize hgb:ge+1=gb at *
 go_upto_region 2 with(go_at_call 160;refine(HG.out _ K1).mono ?_;rintro e' w2 ⟨rfl,g2⟩)
 have K2:=Aa_ K1 g2;have E2:=E1.same g2;have B2:=B1.same g2
 (have X3:=Blk.new w2 #[.string fe.key,.int .u64 fe.own,.int .u64 fe.slack] 224);(have G3:=ga_ w2 (.cells #[.string fe.key,.int .u64 fe.own,.int .u64 fe.slack] 224) none);generalize w2.alloc (.cells #[.string fe.key,.int .u64 fe.own,.int .u64 fe.slack] 224)=w3 at *;generalize hgx:w2.heap.size=gx at *
 have K3:=Aa_ K2 G3;have E3:=E2.same G3;have B3:=B2.same G3;have hz2:=B2.lt;clear E1 E2 B1 B2 G3 K1 K2 g2 HG;have e3:=E3.cell
 go_upto_region 6 with fail
 clear e3;have k4:=Am_ K3;have HE3:=hh_ E3;have HB3:=hh_ B3;have HX3:=hh_ X3;have h34:=hh_ (Am_ (Ab_ w3 none))
 (refine rn_ 8 (fun k _ w v w'=>match k with | 6=>v=.int .i64 (-1)∧World.grownBy w w' none | _=>False) ?_;simp only[ts_])
 clear E3 B3 X3;have HE3:=hh_ (HE3.out.same h34.out);have HB3:=hh_ (HB3.out.same h34.out);have HX3:=hh_ (HX3.out.same h34.out);clear h34 K3;generalize w3.drew=wq at *
 (refine tq_ 3 ?_;simp only[ts_,Nat.reduceAdd];(repeat(go_big_quiet_step (fail)));refine wpQuiet_nil ?_)
 (refine Rg.tree_op rfl rfl ?_;intro y3 my3 dy3)
 clear dy3;have ax:=(H.out.same (Aa_ k4 my3)).blk.cell
 go_wp2_with fail
 refine⟨Ab_ _ _,?_⟩;clear ax my3
 (refine tq_ 1 ?_;simp only[ts_,Nat.reduceAdd];(repeat(go_big_quiet_step (fail)));refine wpQuiet_nil ?_)
 (refine Rg.tree_op rfl rfl ?_;intro y5 my5 dy5)
 clear dy5;have ax:=(HE3.out.same my5).cell
 go_wp2_with fail
 refine⟨Ab_ _ _,?_⟩;clear ax my5
 (refine Rg.tree_call rfl rfl rfl ?_;intro y6 my6 dy6;refine⟨?_,?_⟩;· (unfold Rg.callSpec;go_simp;(refine(HPe.out y6 (Aa_ k4 my6)).mono ?_;rintro e w' ⟨rfl,g'⟩;exact⟨_,rfl,rfl,g'⟩)))
 clear dy6;rintro v6 e6 ⟨rfl,g6⟩;refine⟨g6,?_⟩;simp only[pt_];clear g6 my6
 (refine tq_ 1 ?_;simp only[ts_,Nat.reduceAdd];(repeat(go_big_quiet_step (fail)));refine wpQuiet_nil ?_)
 (refine Rg.tree_nil ?_;intro z mz dz cz)
 have KZ:=Aa_ k4 mz;have EZ:=HE3.out.same mz;have BZ:=HB3.out.same mz;have XZ:=HX3.out.same mz;clear dz cz mz k4 HE3 HB3 HX3
 go_upto_region 8 with fail
 go_cut [32,33,34,35,36] (fun _ _ _ _ s36 wx=>s36=.bool (T.mode==1)∧z=wx)
 case first=>
  have cz1:=(H.out.same KZ).blk.cell
  go_wp2_with fail
  go_meet
  exact⟨rfl,rfl⟩
 obtain⟨rfl,rfl⟩:=hcut
 rename_i hK
 refine hK _ _ ?_
 go_cut [37,38,39,40,41,42,43,44,45,46,47,48,49,50,51,52,53,54,55,56,57,58,59,60,61,62,63,64,65,66,67,68,69,70,71,72,73,74,75,76,77,78,79,80,81,82,83,84,85,86,87] (fun _ _ _ _ _ _ _ _ _ _ _ _ _ _ _ _ _ _ _ _ _ _ _ _ _ _ _ _ _ _ _ _ _ _ _ _ _ _ _ _ _ _ _ _ _ _ _ _ _ _ _ wx=>∃sl,T.swapE k e =⟨e.key,e.own,sl⟩∧Blk wx ge #[.string e.key,.int .u64 e.own,.int .u64 sl]∧Blk wx gb #[.string ⟨#[]⟩,.int .u64 0,.int .u64 0]∧Blk wx gx #[.string fe.key,.int .u64 fe.own,.int .u64 fe.slack]∧w.grownBy wx none)
 case first=>
  have ez:=EZ.cell;have xz:=XZ.cell
  rcases HC.out with⟨hm,o2,o3,hsw⟩ |⟨hm,hww,hcnt,hsw⟩
  ·have hm1 :(T.mode==1)=false:=beq_eq_false_iff_ne.2 (by omega)
   have hd1 :(e.own==0)=false:=beq_eq_false_iff_ne.2 (by omega);have hd2:decide (fe.own<e.own)=false:=decide_eq_false (by omega);have hd3:decide (T.base<e.slack)=false:=decide_eq_false (by omega);have HSW:=hh_ hsw;have cz1:=(H.out.same KZ).blk.cell;clear hm hsw
   go_upto_region 13 with fail
   go_quiet (fail)
   have k6:z.grownBy (z.drewN nq) none:=Ae_ (Ab_ z none) _;have K6:=Aa_ KZ k6;have E6:=EZ.same k6;have B6:=BZ.same k6;have X6:=XZ.same k6;clear cz1 ez xz EZ BZ XZ KZ k6 hd1 hd2 hd3;generalize z.drewN nq=w6 at *;have e6:=E6.cell;have f6:=E6.free
   go_wp2_with fail
   go_meet
   exact⟨0,HSW.out,E6.set_ 2 _ rfl,B6.off (show ge≠gb by omega) 2 _,X6.off (show ge≠gx by omega) 2 _,Aj_ (p:=⟨ge,2,none⟩) K6 (show w.heap.size≤ge by omega) _⟩
  ·have hm1 :(T.mode==1)=true:=beq_iff_eq.2 hm
   have HE:=hh_ fun z=>Ly_ e.own e.slack (fe.own+fe.slack) z ⟨by omega,by unfold W64 at hww;omega⟩ ⟨by omega,by unfold W64 at hww;omega⟩ hww hcnt
   have hwr:IntKind.u64.wrap (fe.own+fe.slack)=fe.own+fe.slack:=IntWalk.u64_in _ (by unfold W64 at hww;omega);have HSW:=hh_ hsw;unfold W64 at hww;clear hm hsw
   go_upto_region 11 with(go_at_call 185;refine(HE.out _).mono ?_;rintro e' w5 ⟨rfl,g5⟩)
   have K5:=Aa_ KZ g5;have E5:=EZ.same g5;have B5:=BZ.same g5;have X5:=XZ.same g5;clear KZ g5 EZ BZ XZ ez xz HE;have e5:=E5.cell;have c5:=(H.out.same K5).blk.cell
   by_cases hlt:e.own<T.base
   ·have hSW:=HSW.out
    rw[if_pos hlt] at hSW;have HSW2:=hh_ hSW;have hld:decide (e.own<T.base)=true:=decide_eq_true hlt;have hwr2:IntKind.u64.wrap (T.base-e.own)=T.base-e.own:=IntWalk.u64_in _ (by unfold W64 at q1;omega)
    have hwm:0≤max e.slack (T.base-e.own)∧max e.slack (T.base-e.own)≤18446744073709551615:=by unfold W64 at q1;omega
    clear hSW HSW hlt
    go_quiet (fail)
    have k6:w5.grownBy (w5.drewN nq) none:=Ae_ (Ab_ w5 none) _;have K6:=Aa_ K5 k6;have E6:=E5.same k6;have B6:=B5.same k6;have X6:=X5.same k6;clear e5 c5 E5 B5 X5 K5 k6;generalize w5.drewN nq=w6 at *;have e6:=E6.cell;have c6:=(H.out.same K6).blk.cell
    go_upto_region 12 with fail
    (refine Tail.wp_region_tail_drawn 11 (by kernel_rfl) (by kernel_rfl) ?_;simp only[List.take,List.drop];(repeat(go_big_quiet_step (fail)));refine wpQuiet_nil ?_;rintro _ ⟨nq,rfl⟩)
    have k7:w6.grownBy (w6.drewN nq) none:=Ae_ (Ab_ w6 none) _;have K7:=Aa_ K6 k7;have E7:=E6.same k7;have B7:=B6.same k7;have X7:=X6.same k7;clear e6 c6 E6 B6 X6 K6 k7;generalize w6.drewN nq=w7 at *;have e7:=E7.cell;have f7:=E7.free
    go_wp2_with fail
    go_meet
    exact⟨_,HSW2.out,E7.set_ 2 _ rfl,B7.off (show ge≠gb by omega) 2 _,X7.off (show ge≠gx by omega) 2 _,Aj_ (p:=⟨ge,2,none⟩) K7 (show w.heap.size≤ge by omega) _⟩
   ·have hSW:=HSW.out
    rw[if_neg hlt] at hSW;have HSW2:=hh_ hSW;have hld:decide (e.own<T.base)=false:=decide_eq_false hlt;clear hSW HSW hlt
    go_quiet (fail)
    have k6:w5.grownBy (w5.drewN nq) none:=Ae_ (Ab_ w5 none) _
    go_wp2_with fail
    go_meet
    exact⟨_,HSW2.out,E5.same k6,B5.same k6,X5.same k6,Aa_ K5 k6⟩
 obtain⟨sl,hsw,E8,B8,X8,K8⟩:=hcut;have HSW:=hh_ hsw;clear hsw KZ EZ BZ XZ hK
 apply_assumption
 go_upto_region 16 with fail
 have k5:w.grownBy wc.drew none:=Am_ K8;have R5:=H.out.same k5;have HB:=hh_ R5.blk;have HO:=hh_ R5.own;have A5:=E8.drew1;have A6:=B8.drew1;have A7:=X8.drew1;have hcN:ge<wc.drew.heap.size:=A5.lt;have hgN:g<wc.drew.heap.size:=HB.out.lt;have hbN:gb<wc.drew.heap.size:=A6.lt;have hxN:gx<wc.drew.heap.size:=A7.lt;obtain⟨N,hN⟩:∃N,N=wc.drew.heap.size:=⟨_,rfl⟩;have HN2:=hh_ (Nat.le_of_eq hN);rw[←hN] at hcN hgN hbN hxN
 have hvN:∀i,ownF (.slice a T.L.length c) i→i<N:=by rw[hN];exact HO.out.low
 have HX:=hh_ A5;have HY:=hh_ A6;have HZ:=hh_ A7;obtain⟨P,hP⟩:∃P:List Ent→Prop,P=fun S=>S=L1∨S=[⟨e.key,e.own,sl⟩]∨S=L1++[⟨e.key,e.own,sl⟩]:=⟨_,rfl⟩;have HP1:=hh_ (show P L1 by rw[hP];exact .inl rfl);have HPx:=hh_ (show P [⟨e.key,e.own,sl⟩] by rw[hP];exact .inr (.inl rfl));have HPF:=hh_ (show P (L1++[⟨e.key,e.own,sl⟩]) by rw[hP];exact .inr (.inr rfl))
 have HP2:=hh_ (show ∀S,P S→S.length≤L1.length∨S <+: L1++[⟨e.key,e.own,sl⟩]∨L1++[⟨e.key,e.own,sl⟩] <+: S by
  intro S hS;rw[hP] at hS
  rcases hS with rfl|rfl|rfl
  ·exact .inl (Nat.le_refl _)
  ·cases L1 with
   | nil=>exact .inr (.inl (List.prefix_refl _))
   | cons _ _=>exact .inl (by simp)
  ·exact .inr (.inl (List.prefix_refl _)))
 have hdl2:=Hdl.out
 have hb4 :(L1.length+[(⟨e.key,e.own,sl⟩:Ent)].length)*32≤140737488355328:=by simp;omega
 have hb5:L1.length+[(⟨e.key,e.own,sl⟩:Ent)].length≤9223372036854775807:=by simp;omega
 have HP:=hh_ fun y (m:Keep entF 3 224 N P wc.drew y)=>HP0.out y (HO.out.keptS m.grown fun q hq hge=>by have:=hvN q hq;omega)
 have HW:=hh_ fun y (m:Keep entF 3 224 N P wc.drew y)=>HW0.out y (HO.out.keptS m.grown fun q hq hge=>by have:=hvN q hq;omega)
 have Hk:=hh_ k5;have hz5:=k5.size
 have hN0:w.heap.size≤N:=by omega
 clear HP0 HW0 hN k5 A5 A6 A7 R5 hP hz5 hdl2 Hdl
 (refine Rg.wp_region_rgZ 17 #[] (Keep entF 3 224 N P) (fun k _ w v w'=>match k with | 10=>v=.int .i64 I∧World.grownBy w w' none | 11=>Own entF 3 224 N w' v L1∧World.grownBy w w' none | _=>False) (by kernel_rfl) (by kernel_rfl) (Keep.refl _ _ _ _ _) (fun _ _ _ h k=>h.trans k) (fun _ _ _ _ _ h=>h) ?_;simp only[List.take,List.drop])
 generalize wc.drew=wd at *
 (refine tq_ 4 ?_;simp only[ts_,Nat.reduceAdd];(repeat(go_big_quiet_step (fail)));refine wpQuiet_nil ?_)
 (refine Rg.tree_op rfl rfl ?_;intro y4 my4 dy4)
 clear dy4;have ax:=(my4.blk HB.out hgN).cell
 go_wp2_with fail
 refine⟨Keep.refl _ _ _ _ _ _,?_⟩;clear ax my4
 (refine tq_ 3 ?_;simp only[ts_,Nat.reduceAdd];(repeat(go_big_quiet_step (fail)));refine wpQuiet_nil ?_)
 (refine Rg.tree_op rfl rfl ?_;intro y8 my8 dy8)
 clear dy8;have ax:=(my8.blk HB.out hgN).cell
 go_wp2_with fail
 refine⟨Keep.refl _ _ _ _ _ _,?_⟩;clear ax my8
 (refine tq_ 1 ?_;simp only[ts_,Nat.reduceAdd];(repeat(go_big_quiet_step (fail)));refine wpQuiet_nil ?_)
 (refine Rg.tree_call rfl rfl rfl ?_;intro y10 my10 dy10;refine⟨?_,?_⟩;· (unfold Rg.callSpec;go_simp;(refine(HP.out y10 my10).mono ?_;rintro e w' ⟨rfl,g'⟩;exact⟨_,rfl,rfl,g'⟩)))
 clear dy10;rintro v10 e10 ⟨rfl,g10⟩;refine⟨Keep.of g10,?_⟩;simp only[pt_];clear g10 my10
 (refine Rg.tree_call rfl rfl rfl ?_;intro y11 my11 dy11;refine⟨?_,?_⟩;· (unfold Rg.callSpec;go_simp;(refine(HW.out y11 my11).mono ?_;rintro e w' ⟨v',rfl,o',g'⟩;exact⟨_,rfl,o'.base (fun q hq=>lt_ (lt_ HN2.out my11.grown.size) (o'.lt q hq).1),g'⟩)))
 clear dy11;rintro v11 e11 ⟨o11,g11⟩;refine⟨Keep.of g11,?_⟩;simp only[pt_];clear g11 my11
 (refine Rg.tree_op rfl rfl ?_;intro y12 my12 dy12)
 clear dy12;have ax:=(my12.blk HX.out hcN).cell
 go_wp2_with fail
 refine⟨Keep.refl _ _ _ _ _ _,?_⟩;clear ax my12
 (refine Rg.tree_op rfl rfl ?_;intro y13 my13 dy13)
 clear dy13;have z13:=lt_ HN2.out my13.grown.size
 go_wp2_with fail
 refine⟨Keep.of (ga_ _ _ _),?_⟩;have N13:Own entF 3 224 N (y13.alloc (.cells #[.string e.key,.int .u64 e.own,.int .u64 sl] 224)) (.slice (some ⟨y13.heap.size,0,none⟩) 1 1) [⟨e.key,e.own,sl⟩]:=Bx_ Ay_ y13 z13 ⟨e.key,e.own,sl⟩ _ rfl;generalize y13.alloc (.cells #[.string e.key,.int .u64 e.own,.int .u64 sl] 224)=e13 at *;generalize y13.heap.size=g13 at *
 (refine Rg.tree_op rfl rfl ?_;intro y14 my14 dy14)
 have N9:=(dy14.out 11 (by omega) (by kernel_rfl)).own _ _ HP1.out o11;have R9:=((dy14.out 13 (by omega) (by kernel_rfl)).own _ _ HPx.out N13).rd;have z9:=lt_ HN2.out my14.grown.size;clear dy14
 go_wp2_with (at_builtin;refine Bb_ Bi_ Bh_ Ay_ N9 R9 rfl hb4 hb5 z9 HP2.out (by rfl) _ _ (by rfl) (by rfl) (by rfl) ?_;intro v9 e9 o9 k9;have Hk9:=hh_ k9;clear k9)
 refine⟨Hk9.out,?_⟩;clear N9 R9 z9 N13 z13 my13 my14 o11
 (refine tq_ 2 ?_;simp only[ts_,Nat.reduceAdd];(repeat(go_big_quiet_step (fail)));refine wpQuiet_nil ?_)
 (refine Rg.tree_nil ?_;intro z mz dz cz)
 have OZ:=(dz.out 14 (by omega)).own _ _ HPF.out o9;have BZ:=mz.blk HB.out hgN;have XZ:=mz.blk HZ.out hxN;have YZ:=mz.blk HY.out hbN;have GZ:=mz.grown;clear dz cz o9 Hk9 mz;have bz:=BZ.cell;have fz:=BZ.free;obtain⟨az,cz2,hvz⟩:=OZ.shape;rw[List.length_append,List.length_singleton] at hvz;subst hvz
 go_upto_region 17 with fail
 have hnz:¬ownF (.slice az (L1.length+1) cz2) g:=fun e=>by have:=(OZ.lt _ e).1;omega
 obtain⟨R6,g6⟩:=RTab.setL BZ OZ hnz;have X6:=XZ.kept g6 (by simp;omega);have Y6:=YZ.kept g6 (by simp;omega)
 have HOZ:=hh_ fun i hi=>(OZ.lt i hi).1
 clear bz fz BZ OZ XZ YZ;generalize z.setCell ⟨g,2,none⟩ (.slice az (L1.length+1) cz2)=w6 at *;have x6:=X6.cell;have y6:=Y6.cell;have f6:=Y6.free
 go_wp2_with fail
 (have g7:World.grownBy w6 (((w6.setCell ⟨gb,0,none⟩ (.string fe.key)).setCell ⟨gb,1,none⟩ (.int .u64 fe.own)).setCell ⟨gb,2,none⟩ (.int .u64 fe.slack)) (some gb):=Ac_ (Ac_ (Ac_ (Ab_ _ _) _ _) _ _) _ _);(have A7:Blk (((w6.setCell ⟨gb,0,none⟩ (.string fe.key)).setCell ⟨gb,1,none⟩ (.int .u64 fe.own)).setCell ⟨gb,2,none⟩ (.int .u64 fe.slack)) gb #[.string fe.key,.int .u64 fe.own,.int .u64 fe.slack]:=((Blk.set_ (by assumption) 0 _ rfl).set_ 1 _ rfl).set_ 2 _ rfl);generalize ((w6.setCell ⟨gb,0,none⟩ (.string fe.key)).setCell ⟨gb,1,none⟩ (.int .u64 fe.own)).setCell ⟨gb,2,none⟩ (.int .u64 fe.slack)=w7 at *
 have rc:=A7.cell;have hz6:=g6.size;refine bodyPost_ret (v:=.tuple #[.agg #[.string fe.key,.int .u64 fe.own,.int .u64 fe.slack],.int .i64 0]) (by simp[results,Tryz.results166,go_sem,rc]) rfl ?_
 have R7:=R6.keptS (GrownS.of (S:=oneF gb) g7 fun q e=>by cases e;exact rfl) fun i hi hib=>by
  rw[show i=gb from hib] at hi
  rcases hi with hi|hi
  ·omega
  ·have:=HOZ.out gb hi;omega
 refine⟨rfl,_,by rw[HR.out,HSW.out];exact R7,?_,fun i hi=>?_⟩
 ·have M2:GrownS (rtF g (.slice a T.L.length c)) w wd:=GrownS.none_ Hk.out
  refine((M2.trans GZ fun i hi hlt=>absurd hi (by omega)).trans (GrownS.of (S:=oneF g) g6 fun q e=>by cases e;exact rfl) fun i hi _=>.inl hi).trans (GrownS.of (S:=oneF gb) g7 fun q e=>by cases e;exact rfl) fun i hi hlt=>?_
  have:i=gb:=hi
  omega
 ·rcases hi with hi|hi
  ·exact .inl (.inl hi)
  ·exact .inr (lt_ hN0 (HOZ.out i hi))
end
section
open Go.RowKit Go.Sort
def lessE (S:List Ent) (k:ByteArray):Nat:=(S.takeWhile fun x=>ltK x.key k).length
theorem Wx_ (S:List Ent) (k:ByteArray):lessE S k≤S.length:=List.Sublist.length_le (List.takeWhile_sublist _)
theorem Xn_ {S A B:List Ent} (e:A++B=S):S.take A.length=A∧S.drop A.length=B:=by subst e;simp
theorem b8_ (S:List Ent) (x:Ent):insE S x=S.take (lessE S x.key)++[x]++S.drop (lessE S x.key):=by
 unfold insE lessE;obtain⟨h1,h2⟩:=Xn_ (List.takeWhile_append_dropWhile (p:=fun y:Ent=>ltK y.key x.key) (l:=S));rw[h1,h2];simp
theorem Yf_ {S:List Ent} {k:ByteArray}:∀{i:Nat} (h:i<lessE S k) (h2:i<S.length),ltK S[i].key k=true:=by
 induction S with
 | nil=>intro i h h2;simp at h2
 | cons a S ih=>
  intro i h h2
  by_cases ha:ltK a.key k=true
  ·cases i with
   | zero=>exact ha
   | succ i=>
    have:i<lessE S k:=by simp[lessE,ha] at h;simpa [lessE] using h
    simpa using ih this (by simpa using h2)
  ·simp[lessE,ha] at h
theorem Vu_ {S:List Ent} {k:ByteArray} (h:lessE S k<S.length):ltK S[lessE S k].key k=false:=by
 induction S with
 | nil=>simp at h
 | cons a S ih=>
  by_cases ha:ltK a.key k=true
  ·have e:lessE (a::S) k=lessE S k+1:=by simp[lessE,ha]
   have:=ih (by rw[e] at h;simpa using h)
   simpa [e] using this
  ·have e:lessE (a::S) k=0:=by simp[lessE,ha]
   simpa [e] using ha
theorem Fb_ (L:List Ent) :(sortEn L).length=L.length:=by
 have:∀(L A:List Ent),(L.foldl insE A).length=A.length+L.length:=by
  intro L
  induction L with
  | nil=>intro A;simp
  | cons e L ih=>intro A;rw[List.foldl_cons,ih,Ez_,List.length_cons];omega
 simpa [sortEn] using this L []
theorem ds_ (a b:ByteArray):Op.bytesLess a.toList b.toList=ltK a b:=by
 rw[ByteArray.toList_eq,ByteArray.toList_eq,bytesLess_eq];rfl
theorem Hf_ (v:Value) (l:List Ent) (w:World) (h:RdL entF 3 w v l) (hl:l.length≤1000000):Calls Tryz.prog 125 #[v] w (RetOwn entF 3 224 (sortEn l) w):=by
 obtain⟨a,c,rfl⟩:=h.shape;have hm:=h.2.1;have H:=hh_ h
 have hll :(l.length:Int)≤1000000:=by omega
 clear h
 go_enter Tryz.func125,Tryz.ntmps125
 go_wp2_with fail
 go_loopw [3,9] (fun s3 s9 wk=>∃(j:Nat),j≤l.length∧s9=.int .i64 j∧Own entF 3 224 w.heap.size wk s3 (sortEn (l.take j))∧w.grownBy wk none) (fun _ s9 _=>l.length-(RowKit.intOf s9).toNat)
 case atStart=>exact⟨0,Nat.zero_le _,rfl,Own.nil _ _ _ _ _,Ab_ _ _⟩
 case round=>
  obtain⟨j,hj,rfl,hO,hg⟩:=hrel
  by_cases hjl:j<l.length
  ·obtain⟨gx,ox,cx,hv,hgx,c0,c1,c2⟩:=(RdL.same H.out hg).entr hjl
   cases hv;have HT:=hh_ (show sortEn (l.take (j+1))=insE (sortEn (l.take j)) l[j] by rw[tg_ hjl,G1_])
   have hsl :(sortEn (l.take j)).length≤1000000:=by rw[Fb_,List.length_take];omega
   generalize sortEn (l.take j)=S at *;generalize l[j]=x at *;obtain⟨oa,oc,rfl⟩:=hO.shape
   go_upto_region 5 with fail
   have O2:=hO.same (ga_ wr (.cells #[.string x.key,.int .u64 x.own,.int .u64 x.slack] 224) none);have G2:=Ad_ hg (.cells #[.string x.key,.int .u64 x.own,.int .u64 x.slack] 224);have A2:=Blk.new wr #[.string x.key,.int .u64 x.own,.int .u64 x.slack] 224;generalize wr.alloc (.cells #[.string x.key,.int .u64 x.own,.int .u64 x.slack] 224)=w2 at *;generalize wr.heap.size=gk at *;clear hO hg c0 c1 c2 hgx;have HK:=hh_ (b8_ S x);have hKl:=Wx_ S x.key
   have HN2:=hh_ fun i (h:i<lessE S x.key) h2=>Yf_ (k:=x.key) h h2
   have HN3:=hh_ fun h=>Vu_ (S:=S) (k:=x.key) h
   generalize lessE S x.key=P at *;have hsm:=O2.len
   go_cut [6] (fun s6 wx=>s6=.int .i64 0∧w2=wx)
   case first=>
    go_wp2_with fail
    go_meet
    exact⟨rfl,rfl⟩
   obtain⟨rfl,rfl⟩:=hcut
   rename_i hK
   refine hK _ _ ?_
   apply wp_seq_k
   intro K1 hK1
   go_cut [6,13,14,15,16,17,18,19,20,21,22,23,24,25,26,27,28] (fun s6 _ _ _ _ _ _ _ _ _ _ _ _ _ _ _ _ wx=>s6=.int .i64 P∧w2.grownBy wx none)
   case first=>
    go_wp2_with fail
    go_loopw [6] (fun s6 wk=>∃k:Nat,k≤P∧s6=.int .i64 k∧w2.grownBy wk none) (fun s6 _=>P-(RowKit.intOf s6).toNat)
    case atStart=>exact⟨0,Nat.zero_le _,rfl,Ab_ _ _⟩
    case round=>
     obtain⟨k,hk,rfl,hgk⟩:=hrel;have a3:=(A2.same hgk).cell
     by_cases hkl:k<S.length
     ·obtain⟨gs,os,cs,hvs,hgs,d0,d1,d2⟩:=(O2.same hgk).rd.entr hkl
      cases hvs
      have hkl2 :(k:Int)<(S.length:Int):=by omega
      have hbl:=ds_ S[k].key x.key
      by_cases hkP:k<P
      ·rw[HN2.out k hkP hkl] at hbl
       generalize S[k]=y at *
       go_wp2_with fail
       go_quiet (fail)
       go_wp2_with fail
       exact⟨⟨k+1,by omega,by go_num,Ae_ hgk _⟩,by simp[RowKit.intOf];omega⟩
      ·obtain rfl:k=P:=by omega
       rw[HN3.out hkl] at hbl;generalize S[k]=y at *
       go_wp2_with fail
       go_quiet (fail)
       go_wp2_with fail
       go_meet
       exact⟨rfl,Ae_ hgk _⟩
     ·obtain rfl:k=P:=by omega
      have hkl2:decide ((k:Int)<(S.length:Int))=false:=decide_eq_false (by omega)
      go_wp2_with fail
      go_quiet (fail)
      go_wp2_with fail
      go_meet
      exact⟨rfl,Ae_ hgk _⟩
   obtain⟨rfl,h3⟩:=hcut;have O3:=O2.same h3;have A3:=A2.same h3;have G3:=Aa_ G2 h3;clear O2 A2 hK;refine hK1 _ _ ?_;clear hK1;have hcap:=O3.cap
   have hP0 :(0:Int)≤(P:Int):=by omega
   have hP1 :(P:Int)≤(S.length:Int):=by omega
   have hP2 :(P:Int)≤(oc:Int):=by omega
   have hP3 :(S.length:Int)≤(oc:Int):=by omega
   have hsz:=G3.size;refine wp_region_any (by kernel_rfl) ?_
   (refine Tail.take_put 8 37 (.slice oa S.length oc) rfl rfl (by kernel_rfl) (by kernel_rfl) (by kernel_rfl) (fun _ _ _ h=>h) (Or.inl ⟨by rfl,fun w=>?_⟩) ?_;· go_simp);simp only[List.setIfInBounds_toArray,List.set_cons_zero,List.set_cons_succ]
   (refine Tail.take_put 9 38 (.int .i64 P) rfl rfl (by kernel_rfl) (by kernel_rfl) (by kernel_rfl) (fun _ _ _ h=>h) (Or.inl ⟨by rfl,fun w=>?_⟩) ?_;· go_simp);simp only[List.setIfInBounds_toArray,List.set_cons_zero,List.set_cons_succ]
   (refine Tail.take_put 10 39 (.slice (if oc=P then oa else oa.map (·.add (P*3))) (S.length-P) (oc-P)) rfl rfl (by kernel_rfl) (by kernel_rfl) (by kernel_rfl) (fun _ _ _ h=>h) (Or.inl ⟨by rfl,fun w=>?_⟩) ?_;· go_simp);simp only[List.setIfInBounds_toArray,List.set_cons_zero,List.set_cons_succ]
   have RD:=hh_ fun w' (h:Own entF 3 224 w.heap.size w' (.slice oa S.length oc) S)=>h.rd.drop Ay_ hKl hcap (oc-P)
   generalize (if oc=P then oa else oa.map (·.add (P*3)))=od at *
   (refine Rg.wpAny_rg 7 #[] #[false,false,false,false,false,false,false,false,true,true,true,false,false] (fun w w'=>World.grownBy w w' none) (fun _ _ _ _ _=>False) (by kernel_rfl) (by kernel_rfl) rfl (by kernel_rfl) (by simp only[Rg.tailL,List.drop];decide) (fun w=>Ab_ w none) (fun _ _ _ h k=>Aa_ h k) (fun _ _ _ _ _ h=>h) ?_;simp only[List.take,List.drop,Rg.tailL];simp (decide:=true) only[if_true,if_false])
   have Gd:wc.grownBy wc.drew none:=gw_;have Kd:=Aa_ G3 Gd
   have hb1 :(S.take P).length=P:=by simp;omega
   have hb2 :(S.take P).length*32≤140737488355328:=by rw[hb1];omega
   have hb3 :(S.take P).length≤9223372036854775807:=by rw[hb1];omega
   have hb4 :((S.take P).length+1)*32≤140737488355328:=by rw[hb1];omega
   have hb5 :(S.take P).length+1≤9223372036854775807:=by rw[hb1];omega
   have hb6 :(S.take P++[x]).length=P+1:=by rw[List.length_append,hb1];rfl
   have hb7 :(S.drop P).length=S.length-P:=by simp
   have hb8 :((S.take P++[x]).length+(S.drop P).length)*32≤140737488355328:=by rw[hb6,hb7];omega
   have hb9 :(S.take P++[x]).length+(S.drop P).length≤9223372036854775807:=by rw[hb6,hb7];omega
   have Hb1:=hh_ hb1.symm;have Hb7:=hh_ hb7.symm;clear hb1 hb6 hb7
   (refine Rg.tree_op rfl rfl ?_;intro y0 my0 dy0)
   clear dy0;have zy0:w.heap.size≤y0.heap.size:=(Aa_ Kd my0).size
   go_wp2_with fail
   refine⟨ga_ _ _ _,?_⟩;have N0:=Aw_ (e:=224) entF 3 zy0;have hg0:wc.heap.size≤y0.heap.size:=(Aa_ Gd my0).size;generalize y0.alloc (.cells #[] 224)=e0 at *;generalize y0.heap.size=g0 at *
   (refine tq_ 3 ?_;simp only[ts_,Nat.reduceAdd];(repeat(go_big_quiet_step (fail)));refine wpQuiet_nil ?_)
   (refine Rg.tree_op rfl rfl ?_;intro y4 my4 dy4)
   have N4:=N0.same (dy4.out 0 (by omega) (by kernel_rfl));have K4:=Aa_ Gd my4;have R4:=(O3.rd.take Ay_ hKl oc).same K4;have z4:=(Aa_ Kd my4).size
   go_wp2_with (at_builtin;refine A2_ Bi_ Bh_ N4 R4 Hb1.out hb2 hb3 z4 (by rfl) _ _ (by rfl) (by rfl) (by rfl) ?_;intro v4 e4 o4 g4 l4;have Hg4:=hh_ g4;clear g4)
   refine⟨Hg4.out,?_⟩;have hv4:=Lies.ge l4 (fun k hk=>lt_ hg0 (N6_ _ _ _ k hk)) K4.size;clear R4 N0 N4 K4 z4 dy4 l4
   (refine Rg.tree_op rfl rfl ?_;intro y5 my5 dy5)
   clear dy5;have a5:=(A3.same (Aa_ Gd my5)).cell
   go_wp2_with fail
   refine⟨Ab_ _ _,?_⟩;clear a5
   (refine Rg.tree_op rfl rfl ?_;intro y6 my6 dy6)
   clear dy6
   go_wp2_with fail
   refine⟨ga_ _ _ _,?_⟩;have N6:=Blk.new y6 #[.string x.key,.int .u64 x.own,.int .u64 x.slack] 224;generalize y6.alloc (.cells #[.string x.key,.int .u64 x.own,.int .u64 x.slack] 224)=e6 at *;generalize y6.heap.size=g6 at *
   (refine Rg.tree_nil ?_;intro z mz dz cz)
   have o5:=o4.same (dz.out 4 (by omega));have N7:=(N6.same (dz.out 6 (by omega))).one Ay_ x rfl;have Kz:=Aa_ Gd mz;have KK:=Aa_ Kd mz;have z7:=KK.size;have O7:=O3.same Kz
   have hlo:∀k,Value.ownBlock (.slice oa S.length oc)=some k→k<wc.heap.size:=fun k hk=>(O3.lt k hk).2
   have tok:=hh_ hP0;clear dz cz my0 my4 my5 my6 mz Hg4 Kz N6 o4 O3 A3 hg0 zy0 Gd Kd
   go_wp2_with (first
    |(at_builtin;have _t:=tok;refine app Bi_ Bh_ o5 N7 rfl hb4 hb5 z7 (by rfl) _ _ (by rfl) (by rfl) (by rfl) ?_;intro v7 w7 o7 g7 l7;clear tok;have K7:=Ao_ KK o5 (Nat.le_refl _) g7;have R8:=RD.out _ (O7.kept g7 (fun k hk e=>by have:=hlo k hk;have:=hv4 k e;omega));have z8:=K7.size)
    |(at_builtin;refine app Bi_ Bh_ o7 R8 Hb7.out hb8 hb9 z8 (by rfl) _ _ (by rfl) (by rfl) (by rfl) ?_;intro v8 w8 o8 g8 l8;have K8:=Ao_ K7 o7 (Nat.le_refl _) g8))
   exact⟨⟨j+1,by omega,by go_num,by rw[HT.out,HK.out];exact o8,K8⟩,by simp[RowKit.intOf];omega⟩
  ·have hke:l.take j=l:=tk_ (by omega)
   rw[hke] at hO
   go_wp2_with fail
   go_ret
   exact⟨_,rfl,hO,hg⟩
theorem P9_ (g:Nat) (v:Value) (T:TabM) (w:World) (h:RTab w g v T) (hT:Bu_ T):Calls Tryz.prog 126 #[.pointer (some ⟨g,0,none⟩)] w (RetOwn entF 3 224 T.entries w):=by
 have H:=hh_ h
 have hlen:T.L.length≤64:=by have:=hT.len;have:=hT.m;omega
 have HG:=hh_ fun j (hj:j<T.L.length) y (q:w.grownBy y none)=>Ce_ g v T T.L[j].key _ y (h.same q) (Tj_ (Ga_ hT.ents.nodup (mg_ hj)))
 obtain⟨a,c,hv⟩:=h.own.shape;subst hv;have b0:=h.blk.cell;have HS:=hh_ (show T.entries=sortEn (T.L.map T.fix) from rfl);clear h hT
 go_enter Tryz.func126,Tryz.ntmps126
 go_upto_region 3 with fail
 clear b0
 go_loopw [3,13] (fun s3 s13 wk=>∃j:Nat,j≤T.L.length∧s13=.int .i64 j∧Own entF 3 224 w.heap.size wk s3 ((T.L.take j).map T.fix)∧w.grownBy wk none) (fun _ s13 _=>T.L.length-(RowKit.intOf s13).toNat)
 case atStart=>exact⟨0,Nat.zero_le _,rfl,Own.nil _ _ _ _ _,Ab_ _ _⟩
 case round=>
  obtain⟨j,hj,rfl,hO,hg⟩:=hrel
  by_cases hjl:j<T.L.length
  ·obtain⟨g',off,cap,hv,hgl,d0,d1,d2⟩:=(H.out.same hg).own.rd.entr hjl
   cases hv;have HT:=hh_ (show(T.L.take (j+1)).map T.fix =(T.L.take j).map T.fix++[T.fix T.L[j]] by rw[tg_ hjl,List.map_append];rfl);have HGj:=hh_ (HG.out j hjl)
   have hcl :((T.L.take j).map T.fix).length≤64:=by rw[List.length_map,List.length_take];omega
   have hfk:=Eh_ T T.L[j];generalize (T.L.take j).map T.fix=C at *;generalize T.fix T.L[j]=fe at *;generalize T.L[j]=e at *
   go_upto_region 5 with fail
   (have A1:=Blk.new wr #[.string e.key,.int .u64 e.own,.int .u64 e.slack] 224);(have G1:=ga_ wr (.cells #[.string e.key,.int .u64 e.own,.int .u64 e.slack] 224) none);generalize wr.alloc (.cells #[.string e.key,.int .u64 e.own,.int .u64 e.slack] 224)=w1 at *;generalize hgb:wr.heap.size=gb at *
   have K1:=Aa_ hg G1;have O1:=hO.same G1;have a1:=A1.cell;clear d0 d1 d2 hgl hO hfk
   go_upto_region 6 with(go_at_call 160;refine(HGj.out _ K1).mono ?_;rintro e' w2 ⟨rfl,g2⟩)
   have O2:=O1.same g2;have K2:=Aa_ K1 g2
   (have A3:=Blk.new w2 #[.string fe.key,.int .u64 fe.own,.int .u64 fe.slack] 224);(have G3:=ga_ w2 (.cells #[.string fe.key,.int .u64 fe.own,.int .u64 fe.slack] 224) none);generalize w2.alloc (.cells #[.string fe.key,.int .u64 fe.own,.int .u64 fe.slack] 224)=w3 at *;generalize hgc:w2.heap.size=gc at *
   have O3:=O2.same G3;have K3:=Aa_ K2 G3;have a3:=A3.cell;obtain⟨oa,oc,rfl⟩:=O3.shape
   have hb1 :(C.length+1)*32≤140737488355328:=by omega
   have hb2:C.length+1≤9223372036854775807:=by omega
   have hz3:=K3.size;clear a1 O1 O2
   go_wp2_with (at_builtin;refine A5_ (l:=C) Bi_ Bh_ Ay_ O3 fe hb1 hb2 hz3 (by rfl) rfl _ _ rfl rfl rfl ?_;intro v5 w5 o5 g5 l5)
   refine⟨⟨j+1,by omega,by go_num,by rw[HT.out];exact o5,Ao_ K3 O3 (Nat.le_refl _) g5⟩,by simp[RowKit.intOf];omega⟩
  ·have hje:T.L.take j=T.L:=tk_ (by omega)
   rw[hje] at hO
   have hcl :(T.L.map T.fix).length≤64:=by rw[List.length_map];omega
   generalize T.L.map T.fix=C at *;obtain⟨oa,oc,rfl⟩:=hO.shape;have HC:=hh_ (Hf_ _ _ wr hO.rd (by omega));rw[←HS.out] at HC
   go_wp2_with (go_at_call 125;refine HC.out.mono ?_;rintro e' w2 ⟨v2,rfl,o2,g2⟩)
   go_ret
   exact⟨_,rfl,o2.base fun q hq=>lt_ hg.size (o2.lt q hq).1,Aa_ hg g2⟩
end
section
open Go.RowKit Go.Sort
structure RSto (w:World) (g:Nat) (v:Value) (n:Int) (S:List Ent):Prop where
 blk:Blk w g #[.int .i64 n,v]
 own:Own entF 3 224 0 w v S
 ne:¬ownF v g
theorem RSto.low {w:World} {g:Nat} {v:Value} {n:Int} {S:List Ent} (h:RSto w g v n S):Low w (rtF g v):=fun i hi=>hi.elim (fun e=>e▸h.blk.lt) (h.own.low i)
theorem RSto.keptS {w w':World} {g:Nat} {v:Value} {n:Int} {S:List Ent} {F:Fp} (h:RSto w g v n S) (k:GrownS F w w') (ho:Off (rtF g v) F):RSto w' g v n S:=
 ⟨h.blk.keptS k (ho g (.inl rfl)),h.own.offS k (ho.left fun i hi=>.inr hi),h.ne⟩
theorem RSto.same {w w':World} {g:Nat} {v:Value} {n:Int} {S:List Ent} (h:RSto w g v n S) (k:w.grownBy w' none):RSto w' g v n S:=h.keptS (GrownS.none_ (S:=fun _=>False) k) fun _ _=>id
theorem RSto.setL {w:World} {g:Nat} {v v':Value} {n:Int} (h:Blk w g #[.int .i64 n,v]) {B:Nat} {S:List Ent} (ho:Own entF 3 224 B w v' S) (hn:¬ownF v' g):RSto (w.setCell ⟨g,1,none⟩ v') g v' n S∧w.grownBy (w.setCell ⟨g,1,none⟩ v') (some g):=
 ⟨⟨h.set_ 1 _ rfl,(ho.kept (Ac_ (Ab_ w (some g)) _ _) fun q hq e=>hn (by cases e;exact hq)).zero,hn⟩,Ac_ (Ab_ w (some g)) _ _⟩
theorem ak_ (n:Int) (w:World) (h1:0≤n∧n≤32):Calls Tryz.prog 154 #[.int .i64 n] w (fun e w'=>∃g,e=.returned (.tuple #[.pointer (some ⟨g,0,none⟩),.int .i64 0])∧RSto w' g (.slice none 0 0) n []∧w.heap.size≤g∧w.grownBy w' none):=by
 obtain⟨m1,m2⟩:=h1
 go_enter Tryz.func154,Tryz.ntmps154
 go_wp2_with fail
 go_ret2
 exact⟨_,rfl,⟨Blk.new w _ _,Own.nil _ _ _ _ _,Ax_ _⟩,Nat.le_refl _,ga_ _ _ _⟩
theorem F3_ (g:Nat) (v:Value) (n:Int) (S:List Ent) (w:World) (h:RSto w g v n S):Calls Tryz.prog 161 #[.pointer (some ⟨g,0,none⟩)] w (B4_ (decide ((S.length:Int)=n)) w):=by
 obtain⟨a,c,hv⟩:=h.own.shape;subst hv;have b0:=h.blk.cell;have hb:=hh_ (show((S.length:Int)==n)=decide ((S.length:Int)=n) by rw[Bool.eq_iff_iff];simp);clear h
 go_enter Tryz.func161,Tryz.ntmps161
 go_wp2_with fail
 go_quiet (fail)
 go_wp2_with fail
 go_ret
 exact Ba_ hb.out.symm (Ae_ (Ab_ w none) _)
theorem Tl_ (g:Nat) (v:Value) (n:Int) (S:List Ent) (k:ByteArray) (w:World) (h:RSto w g v n S):Calls Tryz.prog 157 #[.pointer (some ⟨g,0,none⟩),.string k] w (B6_ (optV (getE S k)) w):=by
 have H:=hh_ h
 have HP:=hh_ fun y (q:w.grownBy y none)=>B3_ v S k y (h.same q).own.rd
 have hglt:=h.blk.lt
 cases hg:getE S k with
 | none=>
  rw[Gq_ hg] at HP;clear h hg
  go_enter Tryz.func157,Tryz.ntmps157
  go_upto_region 1 with fail
  (have A1:=Blk.new w #[.string ⟨#[]⟩,.int .u64 0,.int .u64 0] 224);(have G1:=ga_ w (.cells #[.string ⟨#[]⟩,.int .u64 0,.int .u64 0] 224) none);generalize w.alloc (.cells #[.string ⟨#[]⟩,.int .u64 0,.int .u64 0] 224)=w1 at *;generalize hgb:w.heap.size=gb at *
  have b1:=(H.out.same G1).blk.cell
  go_upto_region 2 with(go_at_call 182;refine(HP.out _ G1).mono ?_;rintro e w2 ⟨rfl,g2⟩)
  have A2:=A1.same g2;have K2:=Aa_ G1 g2;have f2:=A2.free;have a2:=A2.cell
  go_wp2_with fail
  (have g3:World.grownBy w2 (((w2.setCell ⟨gb,0,none⟩ (.string ⟨#[]⟩)).setCell ⟨gb,1,none⟩ (.int .u64 0)).setCell ⟨gb,2,none⟩ (.int .u64 0)) (some gb):=Ac_ (Ac_ (Ac_ (Ab_ _ _) _ _) _ _) _ _);(have A3:Blk (((w2.setCell ⟨gb,0,none⟩ (.string ⟨#[]⟩)).setCell ⟨gb,1,none⟩ (.int .u64 0)).setCell ⟨gb,2,none⟩ (.int .u64 0)) gb #[.string ⟨#[]⟩,.int .u64 0,.int .u64 0]:=((Blk.set_ (by assumption) 0 _ rfl).set_ 1 _ rfl).set_ 2 _ rfl);generalize ((w2.setCell ⟨gb,0,none⟩ (.string ⟨#[]⟩)).setCell ⟨gb,1,none⟩ (.int .u64 0)).setCell ⟨gb,2,none⟩ (.int .u64 0)=w3 at *
  have rc:=A3.cell;refine bodyPost_ret (v:=.tuple #[eV ent0,.bool false]) (by simp[results,Tryz.results157,go_sem,rc]) rfl ?_;exact Bf_ rfl (Af_ K2 g3 (by omega))
 | some e=>
  obtain⟨i1,hil,_,_⟩:=Cp_ hg;rw[i1] at HP
  have HC:=hh_ fun y (q:w.grownBy y none)=>Mz_ hg (h.same q).own.rd
  generalize plN S k=N at *;obtain⟨a,c,hv⟩:=h.own.shape;subst hv;clear h hg
  go_enter Tryz.func157,Tryz.ntmps157
  go_upto_region 1 with fail
  (have A1:=Blk.new w #[.string ⟨#[]⟩,.int .u64 0,.int .u64 0] 224);(have G1:=ga_ w (.cells #[.string ⟨#[]⟩,.int .u64 0,.int .u64 0] 224) none);generalize w.alloc (.cells #[.string ⟨#[]⟩,.int .u64 0,.int .u64 0] 224)=w1 at *;generalize hgb:w.heap.size=gb at *
  have b1:=(H.out.same G1).blk.cell
  go_upto_region 2 with(go_at_call 182;refine(HP.out _ G1).mono ?_;rintro e w2 ⟨rfl,g2⟩)
  have A2:=A1.same g2;have K2:=Aa_ G1 g2;have b2:=(H.out.same K2).blk.cell;obtain⟨g',off,cap,hv,hgl,d0,d1,d2⟩:=HC.out _ K2;cases hv;have a2:=A2.cell;have f2:=A2.free
  go_wp2_with fail
  (have g7:World.grownBy w2 (((w2.setCell ⟨gb,0,none⟩ (.string e.key)).setCell ⟨gb,1,none⟩ (.int .u64 e.own)).setCell ⟨gb,2,none⟩ (.int .u64 e.slack)) (some gb):=Ac_ (Ac_ (Ac_ (Ab_ _ _) _ _) _ _) _ _);(have A7:Blk (((w2.setCell ⟨gb,0,none⟩ (.string e.key)).setCell ⟨gb,1,none⟩ (.int .u64 e.own)).setCell ⟨gb,2,none⟩ (.int .u64 e.slack)) gb #[.string e.key,.int .u64 e.own,.int .u64 e.slack]:=((Blk.set_ (by assumption) 0 _ rfl).set_ 1 _ rfl).set_ 2 _ rfl);generalize ((w2.setCell ⟨gb,0,none⟩ (.string e.key)).setCell ⟨gb,1,none⟩ (.int .u64 e.own)).setCell ⟨gb,2,none⟩ (.int .u64 e.slack)=w7 at *
  have rc:=A7.cell;refine bodyPost_ret (v:=.tuple #[.agg #[.string e.key,.int .u64 e.own,.int .u64 e.slack],.bool true]) (by simp[results,Tryz.results157,go_sem,rc]) rfl ?_;exact Bf_ rfl (Af_ K2 g7 (by omega))
theorem Im_ (g:Nat) (v:Value) (n:Int) (S:List Ent) (k:ByteArray) (en:Ent) (w:World) (h:RSto w g v n S) (hg:getE S k=some en):Calls Tryz.prog 157 #[.pointer (some ⟨g,0,none⟩),.string k] w (B6_ (.tuple #[.agg #[.string en.key,.int .u64 en.own,.int .u64 en.slack],.bool true]) w):=by
 have:=Tl_ g v n S k w h
 rw[hg] at this;exact this
theorem Cv_ (g:Nat) (v:Value) (n:Int) (S:List Ent) (k:ByteArray) (w:World) (h:RSto w g v n S) (hg:getE S k=none):Calls Tryz.prog 157 #[.pointer (some ⟨g,0,none⟩),.string k] w (B6_ (.tuple #[.agg #[.string ⟨#[]⟩,.int .u64 0,.int .u64 0],.bool false]) w):=by
 have:=Tl_ g v n S k w h
 rw[hg] at this;exact this
theorem Wj_ {S:List Ent} (hn :(keysE S).Nodup) {k:ByteArray} {en:Ent} (hg:getE S k=some en) (x:Int):G0_ S k x=S.set (plN S k) ⟨en.key,en.own+x,en.slack⟩:=by
 obtain⟨_,hl,he,_⟩:=Cp_ hg;obtain⟨_,hek⟩:=A4_ hg
 refine List.ext_getElem? fun i=>?_
 unfold G0_;rw[List.getElem?_map]
 by_cases hi:plN S k=i
 ·subst hi
  rw[he,List.getElem?_set_self hl]
  simp[hek]
 ·rw[List.getElem?_set_ne hi]
  cases hx:S[i]? with
  | none=>rfl
  | some y=>
   simp only[Option.map_some,Option.some.injEq];rw[if_neg];intro hk;refine hi ?_
   have h1 :(keysE S)[i]?=some k:=by unfold keysE;rw[List.getElem?_map,hx];simp[hk]
   have h2 :(keysE S)[plN S k]?=some k:=by unfold keysE;rw[List.getElem?_map,he];simp[hek]
   exact(List.getElem?_inj (by rw[keysE,List.length_map];exact hl) hn).1 (h2.trans h1.symm)
theorem ag_ (g:Nat) (v:Value) (n:Int) (S:List Ent) (k:ByteArray) (x:Int) (en:Ent) (w:World) (h:RSto w g v n S) (hE:Ents S) (hg:getE S k=some en) (hx:1≤x) (hs:en.own+en.slack+x≤mostW) :
  Calls Tryz.prog 158 #[.pointer (some ⟨g,0,none⟩),.string k,.int .u64 x] w (fun e w'=>e=.returned (.int .i64 0)∧RSto w' g v n (G0_ S k x)∧Mov (rtF g v) (rtF g v) w w'):=by
 have H:=hh_ h;have hmw:mostW=9223372036854775808:=rfl;obtain⟨hem,_⟩:=A4_ hg;have e1:=hE.own en hem;have e2:=hE.slack en hem
 have HP:=hh_ fun y (q:w.grownBy y none)=>B3_ v S k y (h.same q).own.rd
 obtain⟨i1,hil,hie,_⟩:=Cp_ hg;rw[i1] at HP;have HB:=hh_ (Wj_ hE.nodup hg x);rw[gq_ hil] at hie;have hie:=Option.some.inj hie
 have HF:=hh_ fun y=>C5_ (en.own+en.slack) x y ⟨by omega,by omega⟩ ⟨by omega,by omega⟩
 rw[show fitsB (en.own+en.slack) x=true from decide_eq_true (by omega)] at HF;have b0:=h.blk.cell;obtain⟨g',cap,hv,_,hgl,_,hc,hfz⟩:=h.own.at_ Ay_ hil;have hne:=h.ne;generalize plN S k=N at *;subst hv;rw[hie] at hc;have HI:=hh_ hie
 have hgN :(N:Int)<(S.length:Int):=by omega
 have hgN0 :(0:Int)≤(N:Int):=by omega
 clear h hg i1 hie hem hE
 go_enter Tryz.func158,Tryz.ntmps158
 go_upto_region 2 with(go_at_call 182;refine(HP.out _ (Ab_ _ _)).mono ?_;rintro e w2 ⟨rfl,g2⟩)
 have R2:=H.out.same g2;have b2:=R2.blk.cell;obtain⟨g'',cap',hv',_,hgl',_,hc',hfz'⟩:=R2.own.at_ Ay_ hil;cases hv';rw[HI.out] at hc';have d0:=hc' 0 _ rfl;have d1:=hc' 1 _ rfl;have d2:=hc' 2 _ rfl;have hw1:IntKind.u64.wrap (en.own+en.slack)=en.own+en.slack:=IntWalk.u64_in _ (by omega);rw[Nat.add_zero] at d0;have HO:=hh_ hfz';clear hc hfz hc' hfz' b0 HP
 go_upto_region 4 with fail
 go_quiet ((go_at_call 118;exact Calls.quiet_of_same ((HF.out _).mono fun _ _ ⟨he,hw⟩=>⟨he,hw.symm⟩)))
 have k3:w2.grownBy (w2.drewN nq) none:=Ae_ (Ab_ w2 none) _;have R3:=R2.same k3;have c1 :(w2.drewN nq).cell? ⟨g',N*3+1,none⟩=some (.int .u64 en.own):=d1;have f1 :(w2.drewN nq).frozen? ⟨g',N*3+1,none⟩=false:=HO.out _;have K3:=Aa_ g2 k3;clear b2 d0 d1 d2 R2 k3;generalize w2.drewN nq=w3 at *;have b3:=R3.blk.cell;have hw2:IntKind.u64.wrap (en.own+x)=en.own+x:=IntWalk.u64_in _ (by omega)
 go_wp2_with fail
 go_ret
 obtain⟨O4,g4⟩:=Own.stored (f:=entF) R3.own Ay_ hil (j:=1) (by omega) (.int .u64 (en.own+x)) ⟨en.key,en.own+x,en.slack⟩ (by rw[HI.out];rfl);rw[←HB.out] at O4;refine⟨rfl,⟨R3.blk.kept g4 (fun e=>hne (by cases e;exact rfl)),?_,hne⟩,?_,fun i hi=>.inl hi⟩
 ·have:=Li_ S k x
  exact O4
 ·exact(GrownS.none_ (S:=rtF g (.slice (some ⟨g',0,none⟩) S.length cap)) K3).trans (GrownS.of (S:=oneF g') g4 fun q e=>by cases e;exact rfl) fun i hi _=>.inr (by rw[show i=g' from hi];exact rfl)
end
section
open Go.RowKit Go.Sort
theorem Ki_ (L:List Ent) (e:Ent):lastMin (L++[e])=match lastMin L with|none=>some e|some x=>if e.cnt≤x.cnt then some e else some x:=by
 induction L with
 | nil=>rfl
 | cons a L ih=>
  rw[List.cons_append];simp only[lastMin];rw[ih]
  cases hm:lastMin L with
  | none=>rfl
  | some x=>
   dsimp only
   by_cases h1:e.cnt≤x.cnt
   ·rw[if_pos h1]
    by_cases h2:x.cnt≤a.cnt
    ·rw[if_pos h2];dsimp only;rw[if_pos (by omega),if_pos h1]
    ·rw[if_neg h2]
   ·rw[if_neg h1]
    by_cases h2:x.cnt≤a.cnt
    ·rw[if_pos h2];dsimp only;rw[if_neg h1,if_pos h2]
    ·simp only[if_neg h2];rw[if_neg (by omega)]
theorem K3_ (g:Nat) (v:Value) (n:Int) (S:List Ent) (x:Ent) (w:World) (h:RSto w g v n S) (hl:S.length≤64) (hx:lastMin S=some x) (hS:∀e∈S,W64 e.own∧W64 e.slack∧e.own+e.slack≤mostW) :
  Calls Tryz.prog 164 #[.pointer (some ⟨g,0,none⟩)] w (B6_ (.tuple #[.agg #[.string x.key,.int .u64 x.own,.int .u64 x.slack],.bool true]) w):=by
 have H:=hh_ h;have hmw:mostW=9223372036854775808:=rfl
 obtain⟨a0,L0,rfl⟩:∃a L,S=a::L:=by
  cases S with
  | nil=>simp[lastMin] at hx
  | cons a L=>exact⟨a,L,rfl⟩
 have HX:=hh_ hx;have HS:=hh_ hS
 have hSl:0<(a0::L0).length:=by simp
 have HA:=hh_ (show(a0::L0)[0]'hSl=a0 from rfl);have HM0:=hh_ (show lastMin ((a0::L0).take 1)=some a0 from rfl)
 have HM1:=hh_ fun(j:Nat) (hj:j<(a0::L0).length) (y:Ent) (hy:lastMin ((a0::L0).take j)=some y)=>(show lastMin ((a0::L0).take (j+1))=some (if ((a0::L0)[j]).cnt≤y.cnt then (a0::L0)[j] else y) by
  rw[tg_ hj,Ki_,hy];dsimp only;split <;> rfl)
 have HM2:=hh_ (show ∀y,lastMin ((a0::L0).take 0)=some y→False by intro y hy;simp[lastMin] at hy);clear hx hS;generalize hSS:a0::L0=S at *;clear hSS;have hglt:=h.blk.lt;obtain⟨g',off,cap,hv,hgl,d0,d1,d2⟩:=h.own.rd.entr hSl
 have HD:=hh_ fun y (q:w.grownBy y none)=>(h.same q).own.rd.entr hSl
 subst hv;have b0:=h.blk.cell;have hz :((S.length:Int)==0)=false:=beq_eq_false_iff_ne.2 (by omega)
 have hz0 :(0:Int)<(S.length:Int):=by omega
 rw[HA.out] at HD;clear h d0 d1 d2 hgl
 go_enter Tryz.func164,Tryz.ntmps164
 go_upto_region 1 with fail
 (have A1:=Blk.new w #[.string ⟨#[]⟩,.int .u64 0,.int .u64 0] 224);(have G1:=ga_ w (.cells #[.string ⟨#[]⟩,.int .u64 0,.int .u64 0] 224) none);generalize w.alloc (.cells #[.string ⟨#[]⟩,.int .u64 0,.int .u64 0] 224)=w1 at *;generalize hgb:w.heap.size=gb at *
 have b1:=(H.out.same G1).blk.cell;obtain⟨g'',off'',cap'',hv,hgl,d0,d1,d2⟩:=HD.out _ G1;cases hv;simp only[Nat.zero_mul,Nat.add_zero] at d0 d1 d2
 go_upto_region 4 with fail
 (have A3:=Blk.new w1 #[.string a0.key,.int .u64 a0.own,.int .u64 a0.slack] 224);(have G3:=ga_ w1 (.cells #[.string a0.key,.int .u64 a0.own,.int .u64 a0.slack] 224) none);generalize w1.alloc (.cells #[.string a0.key,.int .u64 a0.own,.int .u64 a0.slack] 224)=w3 at *;generalize hgc:w1.heap.size=gc at *
 have K3:=Aa_ G1 G3;have b3:=(H.out.same K3).blk.cell;have A4:=A1.same G3
 have hcb:gb<gc:=by have:=A1.lt;omega
 have hwb:w.heap.size≤gb:=by omega
 clear d0 d1 d2 b0 b1 HD A1 G1 G3
 go_upto_region 5 with fail
 clear b3
 go_loopw [25] (fun s25 wk=>∃(j:Nat) (y:Ent),j≤S.length∧s25=.int .i64 j∧(if j=0 then y=a0 else lastMin (S.take j)=some y)∧W64 y.own∧W64 y.slack∧y.own+y.slack≤mostW∧Blk wk gc #[.string y.key,.int .u64 y.own,.int .u64 y.slack]∧Blk wk gb #[.string ⟨#[]⟩,.int .u64 0,.int .u64 0]∧w.grownBy wk none) (fun s25 _=>S.length-(RowKit.intOf s25).toNat)
 case atStart=>
  have h0:=HS.out a0 (HA.out▸mg_ hSl);exact⟨0,a0,Nat.zero_le _,rfl,rfl,h0.1,h0.2.1,h0.2.2,A3,A4,K3⟩
 case round=>
  obtain⟨j,y,hj,rfl,hy,⟨y1,y2⟩,⟨y3,y4⟩,y5,Ac,Ab,hg⟩:=hrel
  by_cases hjl:j<S.length
  ·obtain⟨gs,os,cs,hvs,hgs,d0,d1,d2⟩:=(H.out.same hg).own.rd.entr hjl
   cases hvs;obtain⟨⟨e1,e2⟩,⟨e3,e4⟩,e5⟩:=HS.out _ (mg_ hjl)
   have hst:=hh_ (show lastMin (S.take (j+1))=some (if S[j].cnt≤y.cnt then S[j] else y) by
    by_cases h0:j=0
    ·subst h0
     rw[if_pos rfl] at hy;rw[hy,HM0.out,HA.out];rw[if_pos (Int.le_refl _)]
    ·rw[if_neg h0] at hy
     exact HM1.out j hjl y hy)
   clear hy;unfold Ent.cnt at hst;generalize S[j]=e at *
   go_upto_region 7 with fail
   (have A5:=Blk.new wr #[.string e.key,.int .u64 e.own,.int .u64 e.slack] 224);(have G5:=ga_ wr (.cells #[.string e.key,.int .u64 e.own,.int .u64 e.slack] 224) none);generalize wr.alloc (.cells #[.string e.key,.int .u64 e.own,.int .u64 e.slack] 224)=w5 at *;generalize hgd:wr.heap.size=gd at *
   have K5:=Aa_ hg G5;have Ac5:=Ac.same G5;have Ab5:=Ab.same G5
   have hcd:gc<gd:=by have:=Ac.lt;omega
   have a5:=A5.cell;have ac5:=Ac5.cell;have fc5:=Ac5.free;have hw1:IntKind.u64.wrap (e.own+e.slack)=e.own+e.slack:=IntWalk.u64_in _ (by omega);have hw2:IntKind.u64.wrap (y.own+y.slack)=y.own+y.slack:=IntWalk.u64_in _ (by omega);clear d0 d1 d2 Ac Ab
   by_cases hle:e.own+e.slack≤y.own+y.slack
   ·have hs:=hst.out
    rw[if_pos hle] at hs;have Hs:=hh_ hs;have hld:decide (e.own+e.slack≤y.own+y.slack)=true:=decide_eq_true hle;clear hs hst hle
    go_wp2_with fail
    (have g7:World.grownBy w5 (((w5.setCell ⟨gc,0,none⟩ (.string e.key)).setCell ⟨gc,1,none⟩ (.int .u64 e.own)).setCell ⟨gc,2,none⟩ (.int .u64 e.slack)) (some gc):=Ac_ (Ac_ (Ac_ (Ab_ _ _) _ _) _ _) _ _);(have A7:Blk (((w5.setCell ⟨gc,0,none⟩ (.string e.key)).setCell ⟨gc,1,none⟩ (.int .u64 e.own)).setCell ⟨gc,2,none⟩ (.int .u64 e.slack)) gc #[.string e.key,.int .u64 e.own,.int .u64 e.slack]:=((Blk.set_ (by assumption) 0 _ rfl).set_ 1 _ rfl).set_ 2 _ rfl);generalize ((w5.setCell ⟨gc,0,none⟩ (.string e.key)).setCell ⟨gc,1,none⟩ (.int .u64 e.own)).setCell ⟨gc,2,none⟩ (.int .u64 e.slack)=w7 at *
    have Ab7:=Ab5.kept g7 (by simp;omega);exact⟨⟨j+1,e,by omega,by go_num,by rw[if_neg (by omega)];exact Hs.out,⟨e1,e2⟩,⟨e3,e4⟩,e5,A7,Ab7,Af_ K5 g7 (by omega)⟩,by simp[RowKit.intOf];omega⟩
   ·have hs:=hst.out
    rw[if_neg hle] at hs;have Hs:=hh_ hs;have hld:decide (e.own+e.slack≤y.own+y.slack)=false:=decide_eq_false hle;clear hs hst hle
    go_wp2_with fail
    exact⟨⟨j+1,y,by omega,by go_num,by rw[if_neg (by omega)];exact Hs.out,⟨y1,y2⟩,⟨y3,y4⟩,y5,Ac5,Ab5,K5⟩,by simp[RowKit.intOf];omega⟩
  ·have hje:S.take j=S:=tk_ (by omega)
   rw[if_neg (by omega),hje,HX.out] at hy;have hy:=Option.some.inj hy;subst hy;have ac:=Ac.cell;have ab:=Ab.cell;have fb:=Ab.free
   go_wp2_with fail
   (have g7:World.grownBy wr (((wr.setCell ⟨gb,0,none⟩ (.string x.key)).setCell ⟨gb,1,none⟩ (.int .u64 x.own)).setCell ⟨gb,2,none⟩ (.int .u64 x.slack)) (some gb):=Ac_ (Ac_ (Ac_ (Ab_ _ _) _ _) _ _) _ _);(have A7:Blk (((wr.setCell ⟨gb,0,none⟩ (.string x.key)).setCell ⟨gb,1,none⟩ (.int .u64 x.own)).setCell ⟨gb,2,none⟩ (.int .u64 x.slack)) gb #[.string x.key,.int .u64 x.own,.int .u64 x.slack]:=((Blk.set_ (by assumption) 0 _ rfl).set_ 1 _ rfl).set_ 2 _ rfl);generalize ((wr.setCell ⟨gb,0,none⟩ (.string x.key)).setCell ⟨gb,1,none⟩ (.int .u64 x.own)).setCell ⟨gb,2,none⟩ (.int .u64 x.slack)=w7 at *
   have rc:=A7.cell;refine bodyPost_ret (v:=.tuple #[.agg #[.string x.key,.int .u64 x.own,.int .u64 x.slack],.bool true]) (by simp[results,Tryz.results164,go_sem,rc]) rfl ?_;exact Bf_ rfl (Af_ hg g7 hwb)
theorem Ya_ (g:Nat) (v:Value) (n:Int) (S:List Ent) (k:ByteArray) (fe:Ent) (w:World) (h:RSto w g v n S) (hlen:S.length≤64) (hg:getE S k=some fe):Calls Tryz.prog 165 #[.pointer (some ⟨g,0,none⟩),.string k] w (fun e w'=>e=.returned (.tuple #[.agg #[.string fe.key,.int .u64 fe.own,.int .u64 fe.slack],.bool true])∧∃v',RSto w' g v' n (delE S k)∧Mov (rtF g v) (rtF g v') w w'):=by
 have H:=hh_ h;obtain⟨i1,hil,hie,hdel⟩:=Cp_ hg
 have HG:=hh_ fun y (q:w.grownBy y none)=>Im_ g v n S k fe y (h.same q) hg
 have HP0:=hh_ fun y (R:Own entF 3 224 0 y v S)=>B3_ v S k y R.rd
 rw[i1] at HP0
 have HW0:=hh_ fun y (R:Own entF 3 224 0 y v S)=>Du_ 0 v S (plN S k) y R hil (by omega)
 rw[←hdel] at HW0;generalize plN S k=I0 at *;generalize hI :(I0:Int)=I at *;generalize delE S k=L1 at *;obtain⟨a,c,hv⟩:=h.own.shape;subst hv;have hgl:=h.blk.lt;clear h hg i1 hie hdel
 go_enter Tryz.func165,Tryz.ntmps165
 go_upto_region 1 with fail
 (have A1:=Blk.new w #[.string ⟨#[]⟩,.int .u64 0,.int .u64 0] 224);(have G1:=ga_ w (.cells #[.string ⟨#[]⟩,.int .u64 0,.int .u64 0] 224) none);generalize w.alloc (.cells #[.string ⟨#[]⟩,.int .u64 0,.int .u64 0] 224)=w1 at *;generalize hgb:w.heap.size=gb at *
 go_upto_region 2 with(go_at_call 157;refine(HG.out _ G1).mono ?_;rintro e w2 ⟨rfl,g2⟩)
 have K2:=Aa_ G1 g2;have A2:=A1.same g2
 (have A3:=Blk.new w2 #[.string fe.key,.int .u64 fe.own,.int .u64 fe.slack] 224);(have G3:=ga_ w2 (.cells #[.string fe.key,.int .u64 fe.own,.int .u64 fe.slack] 224) none);generalize w2.alloc (.cells #[.string fe.key,.int .u64 fe.own,.int .u64 fe.slack] 224)=w3 at *;generalize hgc:w2.heap.size=gc at *
 have K3:=Aa_ K2 G3;have A4:=A2.same G3
 go_upto_region 3 with fail
 have k5:w.grownBy w3.drew none:=Am_ K3;have R5:=H.out.same k5;have HB:=hh_ R5.blk;have HO:=hh_ R5.own;have A5:=A3.drew1;have A6:=A4.drew1;have hcN:gc<w3.drew.heap.size:=A5.lt;have hgN:g<w3.drew.heap.size:=HB.out.lt;have hbN:gb<w3.drew.heap.size:=A6.lt;obtain⟨N,hN⟩:∃N,N=w3.drew.heap.size:=⟨_,rfl⟩;have HN2:=hh_ (Nat.le_of_eq hN);rw[←hN] at hcN hgN hbN
 have hvN:∀i,ownF (.slice a S.length c) i→i<N:=by rw[hN];exact HO.out.low
 have HX:=hh_ A5;have HY:=hh_ A6;obtain⟨P,hP⟩:∃P:List Ent→Prop,P=fun Q=>Q=L1:=⟨_,rfl⟩;have HPF:=hh_ (show P L1 by rw[hP])
 have HP:=hh_ fun y (m:Keep entF 3 224 N P w3.drew y)=>HP0.out y (HO.out.keptS m.grown fun q hq hge=>by have:=hvN q hq;omega)
 have HW:=hh_ fun y (m:Keep entF 3 224 N P w3.drew y)=>HW0.out y (HO.out.keptS m.grown fun q hq hge=>by have:=hvN q hq;omega)
 have Hk:=hh_ k5;have hz5:=k5.size
 have hN0:w.heap.size≤N:=by omega
 have HI:=hh_ hI;have Hgc:=hh_ hgc
 have hbc:gb<gc:=by have:=A2.lt;omega
 have hb0:w.heap.size≤gb:=by omega
 clear HP0 HW0 hN k5 A5 A6 A1 A2 A3 A4 R5 G1 G3 K2 K3 HG g2 hP hI hz5 hgc
 (refine Rg.wp_region_rgZ 14 #[] (Keep entF 3 224 N P) (fun k _ w v w'=>match k with | 10=>v=.int .i64 I∧World.grownBy w w' none | 11=>Own entF 3 224 N w' v L1∧World.grownBy w w' none | _=>False) (by kernel_rfl) (by kernel_rfl) (Keep.refl _ _ _ _ _) (fun _ _ _ h k=>h.trans k) (fun _ _ _ _ _ h=>h) ?_;simp only[List.take,List.drop])
 generalize w3.drew=wd at *
 (refine tq_ 4 ?_;simp only[ts_,Nat.reduceAdd];(repeat(go_big_quiet_step (fail)));refine wpQuiet_nil ?_)
 (refine Rg.tree_op rfl rfl ?_;intro y4 my4 dy4)
 clear dy4;have ax:=(my4.blk HB.out hgN).cell
 go_wp2_with fail
 refine⟨Keep.refl _ _ _ _ _ _,?_⟩;clear ax my4
 (refine tq_ 3 ?_;simp only[ts_,Nat.reduceAdd];(repeat(go_big_quiet_step (fail)));refine wpQuiet_nil ?_)
 (refine Rg.tree_op rfl rfl ?_;intro y8 my8 dy8)
 clear dy8;have ax:=(my8.blk HB.out hgN).cell
 go_wp2_with fail
 refine⟨Keep.refl _ _ _ _ _ _,?_⟩;clear ax my8
 (refine tq_ 1 ?_;simp only[ts_,Nat.reduceAdd];(repeat(go_big_quiet_step (fail)));refine wpQuiet_nil ?_)
 (refine Rg.tree_call rfl rfl rfl ?_;intro y10 my10 dy10;refine⟨?_,?_⟩;· (unfold Rg.callSpec;go_simp;(refine(HP.out y10 my10).mono ?_;rintro e w' ⟨rfl,g'⟩;exact⟨_,rfl,rfl,g'⟩)))
 clear dy10;rintro v10 e10 ⟨rfl,g10⟩;refine⟨Keep.of g10,?_⟩;simp only[pt_];clear g10 my10
 (refine Rg.tree_call rfl rfl rfl ?_;intro y11 my11 dy11;refine⟨?_,?_⟩;· (unfold Rg.callSpec;go_simp;(refine(HW.out y11 my11).mono ?_;rintro e w' ⟨v',rfl,o',g'⟩;exact⟨_,rfl,o'.base (fun q hq=>lt_ (lt_ HN2.out my11.grown.size) (o'.lt q hq).1),g'⟩)))
 clear dy11;rintro v11 e11 ⟨o11,g11⟩;refine⟨Keep.of g11,?_⟩;simp only[pt_];clear g11 my11
 (refine tq_ 2 ?_;simp only[ts_,Nat.reduceAdd];(repeat(go_big_quiet_step (fail)));refine wpQuiet_nil ?_)
 (refine Rg.tree_nil ?_;intro z mz dz cz)
 have OZ:=(dz.out 11 (by omega)).own _ _ HPF.out o11;have BZ:=mz.blk HB.out hgN;have XZ:=mz.blk HX.out hcN;have YZ:=mz.blk HY.out hbN;have GZ:=mz.grown;clear dz cz o11 mz;have bz:=BZ.cell;have fz:=BZ.free;obtain⟨az,cz2,hvz⟩:=OZ.shape;subst hvz
 go_upto_region 4 with fail
 have hnz:¬ownF (.slice az L1.length cz2) g:=fun e=>by have:=(OZ.lt _ e).1;omega
 obtain⟨R6,g6⟩:=RSto.setL BZ OZ hnz;have X6:=XZ.kept g6 (by simp;omega);have Y6:=YZ.kept g6 (by simp;omega)
 have HOZ:=hh_ fun i hi=>(OZ.lt i hi).1
 clear bz fz BZ OZ XZ YZ;generalize z.setCell ⟨g,1,none⟩ (.slice az L1.length cz2)=w6 at *;have x6:=X6.cell;have y6:=Y6.cell;have f6:=Y6.free
 go_wp2_with fail
 (have g7:World.grownBy w6 (((w6.setCell ⟨gb,0,none⟩ (.string fe.key)).setCell ⟨gb,1,none⟩ (.int .u64 fe.own)).setCell ⟨gb,2,none⟩ (.int .u64 fe.slack)) (some gb):=Ac_ (Ac_ (Ac_ (Ab_ _ _) _ _) _ _) _ _);(have A7:Blk (((w6.setCell ⟨gb,0,none⟩ (.string fe.key)).setCell ⟨gb,1,none⟩ (.int .u64 fe.own)).setCell ⟨gb,2,none⟩ (.int .u64 fe.slack)) gb #[.string fe.key,.int .u64 fe.own,.int .u64 fe.slack]:=((Blk.set_ (by assumption) 0 _ rfl).set_ 1 _ rfl).set_ 2 _ rfl);generalize ((w6.setCell ⟨gb,0,none⟩ (.string fe.key)).setCell ⟨gb,1,none⟩ (.int .u64 fe.own)).setCell ⟨gb,2,none⟩ (.int .u64 fe.slack)=w7 at *
 have rc:=A7.cell;have hz6:=g6.size;refine bodyPost_ret (v:=.tuple #[.agg #[.string fe.key,.int .u64 fe.own,.int .u64 fe.slack],.bool true]) (by simp[results,Tryz.results165,go_sem,rc]) rfl ?_
 have R7:=R6.keptS (GrownS.of (S:=oneF gb) g7 fun q e=>by cases e;exact rfl) fun i hi hib=>by
  rw[show i=gb from hib] at hi
  rcases hi with hi|hi
  ·omega
  ·have:=HOZ.out gb hi;omega
 refine⟨rfl,_,R7,?_,fun i hi=>?_⟩
 ·have M2:GrownS (rtF g (.slice a S.length c)) w wd:=GrownS.none_ Hk.out
  refine((M2.trans GZ fun i hi hlt=>absurd hi (by omega)).trans (GrownS.of (S:=oneF g) g6 fun q e=>by cases e;exact rfl) fun i hi _=>.inl hi).trans (GrownS.of (S:=oneF gb) g7 fun q e=>by cases e;exact rfl) fun i hi hlt=>?_
  have:i=gb:=hi
  omega
 ·rcases hi with hi|hi
  ·exact .inl (.inl hi)
  ·exact .inr (lt_ hN0 (HOZ.out i hi))
end
section
open Go.RowKit
section
variable {α:Type} {f:α→List Value} {st e:TypeId} {z:Value} {size bytes:Nat} {N:Nat} {P:List α→Prop} {w w':World}
theorem P8_ {u v:Value} {l T:List α} (hf:∀x,(f x).length=size) (ho:Own f size e N w v l) (hu:Own f size e N w u T) (hle:l.length≤T.length) {g:Nat} (h1:v.ownBlock=some g) (h2:u.ownBlock=some g):cellsOf f (T.take l.length)=cellsOf f l:=by
 rcases ho.2 with⟨rfl,_⟩ |⟨g1,cap1,cur1,rfl,_,hg1,_,_,_,ht1⟩
 ·simp[Value.ownBlock] at h1
 ·rcases hu.2 with⟨rfl,_⟩ |⟨g2,cap2,cur2,rfl,_,hg2,_,_,_,ht2⟩
  ·simp[Value.ownBlock] at h2
  ·have e1:g1=g:=by simpa [Value.ownBlock] using h1
   have e2:g2=g:=by simpa [Value.ownBlock] using h2
   subst e1 e2;rw[hg1] at hg2;cases hg2
   have h3 :(cellsOf f T).take (l.length*size)=cellsOf f l:=by
    rw[←ht2,←ht1,List.take_take,Nat.min_eq_left (Nat.mul_le_mul_right _ hle)]
   rw[←h3]
   have h4:cellsOf f T=cellsOf f (T.take l.length)++cellsOf f (T.drop l.length):=by rw[←Ap_,List.take_append_drop]
   rw[h4,List.take_left' (by rw[Au_ f size hf,List.length_take,Nat.min_eq_left hle])]
variable {v:Value} {l l2:List α} {A:Option Addr} {m c:Nat}
variable {o:Oper} {a:Act} {ops:Array Oper} {rest:List Oper} {Q:Exit→Act→World→Prop}
theorem Lm_ (E:Elt st e z size bytes) (h1:OneF f) (hf:∀x,(f x).length=size) (hown:Own f size e N w v l) (hr:RdL f size w (.slice A m c) l2) (hm:m=l2.length) (hb :(l.length+l2.length)*bytes≤140737488355328) (h63:l.length+l2.length≤9223372036854775807) (hbase:N≤w.heap.size)
  (hP:∀T,P T→(T.length≤l.length∨T <+: l++l2∨l++l2 <+: T)∨(l.length≤T.length∧cellsOf f (T.take l.length)≠cellsOf f l))
  (hgd:o.guard=none) (s x:Operand) (ho:o.op=.call { callee:=.builtin .append,args:=#[s,x],argTypes:=#[st,st] }) (hs:a.eval s=v) (hx:a.eval x=.slice A m c)
  (h:∀v' w',Own f size e N w' v' (l++l2)→Keep f size e N P w w'→wpList Tryz.prog ops Q rest (a.put o.dst v') w'):wpList Tryz.prog ops Q (o::rest) a w:=by
 refine wpList_plain hgd fun _ hK=>?_
 subst hm;obtain⟨v',w',hrun,h2,h3,h4⟩:=F5_ (ty:=o.type) E hown hr (h1.cells l2) (by unfold maxLen;exact h63) hb hbase
 have h2':Own f size e N w' v' (l++l2):=by unfold Own;rw[Ap_,List.length_append];exact h2
 unfold Oper.wp execOp;simp only[ho,resolve,invoke,builtin,Sem.run_bind,Sem.run_pure,Result.andThen_ok,List.map_toArray,List.map_cons,List.map_nil,hs,hx,hrun];refine hK _ _ (h v' w' h2' ⟨GrownS.of h3 (fun k hk=>(hown.lt k hk).1),fun T u hp hu=>?_⟩)
 rcases hP T hp with hT |⟨hle,hne⟩
 ·exact Em_ hf E.pos hown h2' h3 h4 hT hu
 ·refine hu.kept h3 fun k hk e=>hne ?_
  exact P8_ hf hown hu hle e hk
end
end
section
open Go.RowKit Go.Sort
theorem I2_:∀{L M:List Ent},L.length=M.length→cellsOf entF L=cellsOf entF M→L=M
 | [],[],_,_=>rfl
 | [],_::_,h,_=>by simp at h
 | _::_,[],h,_=>by simp at h
 | a::L,b::M,h,hc=>by
  simp only[cellsOf,List.flatMap_cons,entF,List.cons_append,List.nil_append] at hc
  injection hc with h1 hc
  injection hc with h2 hc
  injection hc with h3 hc
  have:=I2_ (L:=L) (M:=M) (by simpa using h) hc
  obtain⟨k1,o1,s1⟩:=a;obtain⟨k2,o2,s2⟩:=b
  injection h1 with h1;injection h2 with _ h2;injection h3 with _ h3
  simp at h1 h2 h3
  subst h1 h2 h3 this
  rfl
theorem Qq_ {y e:Ent} {S:List Ent} (h :(y::S).Perm (e::S)):y=e:=by
 classical
 have h1:=h.count_eq y;rw[List.count_cons_self] at h1
 refine Decidable.byContradiction fun hne=>?_
 rw[List.count_cons_of_ne (Ne.symm hne)] at h1
 omega
theorem Si_ (g:Nat) (v:Value) (n:Int) (S:List Ent) (e:Ent) (w:World) (h:RSto w g v n S) (hA:AscE S) (hlen:S.length≤64) (hl :(S.length:Int)≠n) (hn:e.key∉keysE S) (he:0<e.key.size) (ho:0≤e.own) (hs:0≤e.slack) (hc:e.own+e.slack≤mostW) :
  Calls Tryz.prog 163 #[.pointer (some ⟨g,0,none⟩),.agg #[.string e.key,.int .u64 e.own,.int .u64 e.slack]] w (fun en w'=>en=.returned (.int .i64 0)∧∃v',RSto w' g v' n (insE S e)∧Mov (rtF g v) (rtF g v') w w'):=by
 have H:=hh_ h;have hmw:mostW=9223372036854775808:=rfl
 have HPe:=hh_ fun z (q:w.grownBy z none)=>B3_ v S e.key z (h.same q).own.rd
 rw[Gq_ (Cs_.2 hn)] at HPe
 have HF:=hh_ fun z (q:w.grownBy z none)=>F3_ g v n S z (h.same q)
 rw[decide_eq_false hl] at HF
 have HE:=hh_ fun z=>Ly_ e.own e.slack 9223372036854775808 z ⟨by omega,by omega⟩ ⟨by omega,by omega⟩ ⟨by omega,by omega⟩ (by omega)
 have HR:=hh_ (show sortEn (S++[e])=insE S e by rw[G1_,Qi_ hA]);have he2:=A7_ e.key;rw[decide_eq_false (show ¬e.key.size=0 by omega)] at he2;obtain⟨a,c,hv⟩:=h.own.shape;subst hv;have hgl:=h.blk.lt;clear h hA hn hl
 go_enter Tryz.func163,Tryz.ntmps163
 go_upto_region 1 with fail
 (have E3:=Blk.new w #[.string e.key,.int .u64 e.own,.int .u64 e.slack] 224);(have K3:=ga_ w (.cells #[.string e.key,.int .u64 e.own,.int .u64 e.slack] 224) none);generalize w.alloc (.cells #[.string e.key,.int .u64 e.own,.int .u64 e.slack] 224)=w3 at *;generalize hge:w.heap.size=ge at *
 have e3:=E3.cell
 go_upto_region 3 with fail
 clear e3;have k4:=Am_ K3;have HE3:=hh_ E3.drew1
 (refine rn_ 9 (fun k _ w v w'=>match k with | 6=>v=.int .i64 (-1)∧World.grownBy w w' none | _=>False) ?_;simp only[ts_])
 clear E3 K3;generalize w3.drew=wq at *
 (refine tq_ 3 ?_;simp only[ts_,Nat.reduceAdd];(repeat(go_big_quiet_step (fail)));refine wpQuiet_nil ?_)
 (refine Rg.tree_op rfl rfl ?_;intro y3 my3 dy3)
 clear dy3;have ax:=(H.out.same (Aa_ k4 my3)).blk.cell
 go_wp2_with fail
 refine⟨Ab_ _ _,?_⟩;clear ax my3
 (refine tq_ 1 ?_;simp only[ts_,Nat.reduceAdd];(repeat(go_big_quiet_step (fail)));refine wpQuiet_nil ?_)
 (refine Rg.tree_op rfl rfl ?_;intro y5 my5 dy5)
 clear dy5;have ax:=(HE3.out.same my5).cell
 go_wp2_with fail
 refine⟨Ab_ _ _,?_⟩;clear ax my5
 (refine Rg.tree_call rfl rfl rfl ?_;intro y6 my6 dy6;refine⟨?_,?_⟩;· (unfold Rg.callSpec;go_simp;(refine(HPe.out y6 (Aa_ k4 my6)).mono ?_;rintro e w' ⟨rfl,g'⟩;exact⟨_,rfl,rfl,g'⟩)))
 clear dy6;rintro v6 e6 ⟨rfl,g6⟩;refine⟨g6,?_⟩;simp only[pt_];clear g6 my6
 (refine tq_ 2 ?_;simp only[ts_,Nat.reduceAdd];(repeat(go_big_quiet_step (fail)));refine wpQuiet_nil ?_)
 (refine Rg.tree_nil ?_;intro z mz dz cz)
 have KZ:=Aa_ k4 mz;have EZ:=HE3.out.same mz;clear dz cz mz k4 HE3
 go_upto_region 7 with(go_at_call 161;refine(HF.out _ KZ).mono ?_;rintro e' w5 ⟨rfl,g5⟩)
 have K5:=Aa_ KZ g5;have E5:=EZ.same g5;have e5:=E5.cell;clear KZ EZ g5
 go_upto_region 9 with(go_at_call 185;refine(HE.out _).mono ?_;rintro e' w6 ⟨rfl,g6⟩)
 have K6:=Aa_ K5 g6;have E6:=E5.same g6;clear e5 E5 g6 K5;have k7:w.grownBy w6.drew none:=Am_ K6;have R7:=H.out.same k7;have HB:=hh_ R7.blk;have HO:=hh_ R7.own;have A7:=E6.drew1;have hcN:ge<w6.drew.heap.size:=A7.lt;have hgN:g<w6.drew.heap.size:=HB.out.lt;obtain⟨N,hN⟩:∃N,N=w6.drew.heap.size:=⟨_,rfl⟩;have HN2:=hh_ (Nat.le_of_eq hN);rw[←hN] at hcN hgN
 have hvN:∀i,ownF (.slice a S.length c) i→i<N:=by rw[hN];exact HO.out.low
 have HX:=hh_ A7;obtain⟨P,hP⟩:∃P:List Ent→Prop,P=fun Q=>Q=[]∨Q=S∨Q=[⟨e.key,e.own,e.slack⟩]∨Q=S++[⟨e.key,e.own,e.slack⟩]∨Q=insE S e:=⟨_,rfl⟩;have HP0:=hh_ (show P [] by rw[hP];exact .inl rfl);have HP1:=hh_ (show P S by rw[hP];exact .inr (.inl rfl));have HPx:=hh_ (show P [⟨e.key,e.own,e.slack⟩] by rw[hP];exact .inr (.inr (.inl rfl)));have HPF:=hh_ (show P (S++[⟨e.key,e.own,e.slack⟩]) by rw[hP];exact .inr (.inr (.inr (.inl rfl))));have HPZ:=hh_ (show P (insE S e) by rw[hP];exact .inr (.inr (.inr (.inr rfl))))
 have HP2:=hh_ (show ∀Q,P Q→(Q.length≤S.length∨Q <+: S++[⟨e.key,e.own,e.slack⟩]∨S++[⟨e.key,e.own,e.slack⟩] <+: Q)∨(S.length≤Q.length∧cellsOf entF (Q.take S.length)≠cellsOf entF S) by
  intro Q hQ;rw[hP] at hQ
  rcases hQ with rfl|rfl|rfl|rfl|rfl
  ·exact .inl (.inl (Nat.zero_le _))
  ·exact .inl (.inl (Nat.le_refl _))
  ·cases S with
   | nil=>exact .inl (.inr (.inl (List.prefix_refl _)))
   | cons _ _=>exact .inl (.inl (by simp))
  ·exact .inl (.inr (.inl (List.prefix_refl _)))
  ·have hil:=Ez_ S e
   by_cases hc:cellsOf entF ((insE S e).take S.length)=cellsOf entF S
   ·left;right;left
    have h1:=I2_ (by rw[List.length_take,hil];omega) hc
    have h2:insE S e=S++(insE S e).drop S.length:=by conv=>lhs;rw[←List.take_append_drop S.length (insE S e),h1]
    obtain⟨y,hy⟩:∃y,(insE S e).drop S.length=[y]:=by
     have :((insE S e).drop S.length).length=1:=by rw[List.length_drop,hil];omega
     exact List.length_eq_one_iff.1 this
    rw[hy] at h2;have hp:=Bj_ S e;rw[h2] at hp;have hp2 :(y::S).Perm (e::S):=(List.perm_append_singleton y S).symm.trans hp
    have:y=e:=by
     exact Qq_ hp2
    rw[h2,this];exact List.prefix_refl _
   ·exact .inr ⟨by omega,hc⟩)
 have hb2:S.length*32≤140737488355328:=by omega
 have hb3:S.length≤9223372036854775807:=by omega
 have hb4 :(S.length+[(⟨e.key,e.own,e.slack⟩:Ent)].length)*32≤140737488355328:=by simp;omega
 have hb5:S.length+[(⟨e.key,e.own,e.slack⟩:Ent)].length≤9223372036854775807:=by simp;omega
 have Hk:=hh_ k7;have hz7:=k7.size
 have hN0:w.heap.size≤N:=by omega
 clear hN k7 A7 R7 hP hz7 K6 E6
 (refine Rg.wp_region_rgZ 13 #[] (Keep entF 3 224 N P) (fun k _ w v w'=>match k with | 10=>Own entF 3 224 N w' v (insE S e)∧World.grownBy w w' none | _=>False) (by kernel_rfl) (by kernel_rfl) (Keep.refl _ _ _ _ _) (fun _ _ _ h k=>h.trans k) (fun _ _ _ _ _ h=>h) ?_;simp only[List.take,List.drop])
 generalize w6.drew=wd at *
 (refine tq_ 1 ?_;simp only[ts_,Nat.reduceAdd];(repeat(go_big_quiet_step (fail)));refine wpQuiet_nil ?_)
 (refine Rg.tree_op rfl rfl ?_;intro y1 my1 dy1)
 clear dy1;have z1:=lt_ HN2.out my1.grown.size
 go_wp2_with fail
 refine⟨Keep.of (ga_ _ _ _),?_⟩;have N1:=Aw_ (e:=224) entF 3 z1;generalize y1.alloc (.cells #[] 224)=e1 at *;generalize y1.heap.size=g1 at *
 (refine tq_ 3 ?_;simp only[ts_,Nat.reduceAdd];(repeat(go_big_quiet_step (fail)));refine wpQuiet_nil ?_)
 (refine Rg.tree_op rfl rfl ?_;intro y5 my5 dy5)
 clear dy5;have ax:=(my5.blk HB.out hgN).cell
 go_wp2_with fail
 refine⟨Keep.refl _ _ _ _ _ _,?_⟩;clear ax my5
 (refine Rg.tree_op rfl rfl ?_;intro y6 my6 dy6)
 have N6:=(dy6.out 1 (by omega) (by kernel_rfl)).own [] _ HP0.out N1;have R6:=my6.rd HO.out.rd (fun _ a n c e=>by cases e;exact hvN _ rfl);have z6:=lt_ HN2.out my6.grown.size;clear dy6
 go_wp2_with (at_builtin;refine A2_ Bi_ Bh_ N6 R6 rfl hb2 hb3 z6 (by rfl) _ _ (by rfl) (by rfl) (by rfl) ?_;intro v8 e8 o8 g8 l8;have Hg8:=hh_ g8;clear g8 l8)
 refine⟨Keep.of Hg8.out,?_⟩;clear N6 R6 z6 N1 my6 my1 z1
 (refine Rg.tree_op rfl rfl ?_;intro y7 my7 dy7)
 clear dy7;have ax:=(my7.blk HX.out hcN).cell
 go_wp2_with fail
 refine⟨Keep.refl _ _ _ _ _ _,?_⟩;clear ax my7
 (refine Rg.tree_op rfl rfl ?_;intro y8 my8 dy8)
 clear dy8;have z8:=lt_ HN2.out my8.grown.size
 go_wp2_with fail
 refine⟨Keep.of (ga_ _ _ _),?_⟩;have N8:Own entF 3 224 N (y8.alloc (.cells #[.string e.key,.int .u64 e.own,.int .u64 e.slack] 224)) (.slice (some ⟨y8.heap.size,0,none⟩) 1 1) [⟨e.key,e.own,e.slack⟩]:=Bx_ Ay_ y8 z8 ⟨e.key,e.own,e.slack⟩ _ rfl;generalize y8.alloc (.cells #[.string e.key,.int .u64 e.own,.int .u64 e.slack] 224)=e9 at *;generalize y8.heap.size=g9 at *
 (refine Rg.tree_op rfl rfl ?_;intro y9 my9 dy9)
 have N9:=(dy9.out 6 (by omega) (by kernel_rfl)).own _ _ HP1.out o8;have R9:=((dy9.out 8 (by omega) (by kernel_rfl)).own _ _ HPx.out N8).rd;have z9:=lt_ HN2.out my9.grown.size;clear dy9
 go_wp2_with (at_builtin;refine Lm_ Bi_ Bh_ Ay_ N9 R9 rfl hb4 hb5 z9 HP2.out (by rfl) _ _ (by rfl) (by rfl) (by rfl) ?_;intro v10 e10 o10 k10;have Hk10:=hh_ k10;clear k10)
 refine⟨Hk10.out,?_⟩;clear N9 R9 z9 N8 z8 my8 my9 o8;obtain⟨a9,c9,hv9⟩:=o10.shape;rw[List.length_append,List.length_singleton] at hv9;subst hv9
 have HSo:=hh_ fun y (R:Own entF 3 224 N y (.slice a9 (S.length+1) c9) (S++[⟨e.key,e.own,e.slack⟩]))=>Hf_ _ _ y R.rd (by rw[List.length_append,List.length_singleton];omega)
 rw[HR.out] at HSo
 (refine Rg.tree_call rfl rfl rfl ?_;intro y10 my10 dy10;refine⟨?_,?_⟩;· (unfold Rg.callSpec;go_simp;(refine(HSo.out y10 ((dy10.out 9 (by omega) (by kernel_rfl)).own _ _ HPF.out o10)).mono ?_;rintro e w' ⟨v',rfl,o',g'⟩;exact⟨_,rfl,o'.base (fun q hq=>lt_ (lt_ HN2.out my10.grown.size) (o'.lt q hq).1),g'⟩)))
 clear dy10;rintro v11 e11 ⟨o11,g11⟩;refine⟨Keep.of g11,?_⟩;simp only[pt_];clear g11 my10
 (refine tq_ 2 ?_;simp only[ts_,Nat.reduceAdd];(repeat(go_big_quiet_step (fail)));refine wpQuiet_nil ?_)
 (refine Rg.tree_nil ?_;intro z mz dz cz)
 have oz:=(dz.out 10 (by omega)).own _ _ HPZ.out o11;have BZ:=mz.blk HB.out hgN;have GZ:=mz.grown;clear dz cz o10 o11 mz Hg8 Hk10 HSo;obtain⟨az,cz2,hvz⟩:=oz.shape;rw[Ez_] at hvz;subst hvz;have b9:=BZ.cell;have f9:=BZ.free
 go_wp2_with fail
 go_ret
 have hnz:¬ownF (.slice az (S.length+1) cz2) g:=fun e=>by have:=(oz.lt _ e).1;omega
 obtain⟨R6,g6⟩:=RSto.setL BZ oz hnz;refine⟨rfl,_,R6,?_,fun i hi=>?_⟩
 ·have M2:GrownS (rtF g (.slice a S.length c)) w wd:=GrownS.none_ Hk.out
  exact(M2.trans GZ fun i hi hlt=>absurd hi (by omega)).trans (GrownS.of (S:=oneF g) g6 fun q e=>by cases e;exact rfl) fun i hi _=>.inl hi
 ·rcases hi with hi|hi
  ·exact .inl (.inl hi)
  ·exact .inr (by have:=(oz.lt i hi).1;omega)
end
section
open Go.RowKit
def B1_ (l:List Int):Array Value:=(l.map (fun x=>Value.int .u64 x)).toArray
theorem T8_ :(Tryz.prog.info? 22).map (fun i=>(i.zero,i.size,i.bytes))=some (some (.int .u64 0),1,8):=by kernel_rfl
theorem Pk_ (n:Nat):madeCells #[Value.int .u64 0] n=B1_ (List.replicate n 0):=by
 unfold madeCells B1_
 apply Array.ext
 ·simp
 ·intro i h1 h2
  simp[Nat.mod_one]
theorem Pu_ (n:Nat) (hn:n≤1000000) (w:World) :
  (Instr.makeSlice 24 (.int .i64 n) (.int .i64 n)).run Tryz.prog w=.ok (.slice (some ⟨w.heap.size,0,none⟩) n n) (w.alloc (.cells (B1_ (List.replicate n 0)) 22)):=by
 obtain⟨i0,hi,hz0,hz1,hz2⟩:=info_parts T8_
 have:=run_make (P:=Tryz.prog) w 24 22 i0 (.int .u64 0) Tryz.underlying24 hi hz0 .i64 .i64 n n (by omega) (by omega) (by rw[hz2];omega) (by omega)
 rw[this,hz1];simp only[Int.toNat_natCast,Nat.mul_one,Value.cells,Pk_]
end
section
open Go.RowKit Go.Sort
structure SlR where
 (a:Option Addr) (n c:Nat)
def slF (x:SlR):List Value:=[.slice x.a x.n x.c]
def SlR.v (x:SlR):Value:=.slice x.a x.n x.c
theorem Nm_ (x:SlR) :(slF x).length=1:=rfl
theorem dm_ (x:SlR):slF x=[x.v]:=rfl
theorem Y7_:OneF slF:=by intro x u hu;simp[slF] at hu;subst hu;rfl
theorem Oz_:Elt 127 24 (.slice none 0 0) 1 24:=⟨Tryz.underlying127,by kernel_rfl,rfl,by decide⟩
theorem Xh_ (l:List SlR):cellsOf slF l=cellsOf valF (l.map SlR.v):=by
 induction l with
 | nil=>rfl
 | cons x l ih=>
  have h1:cellsOf slF (x::l)=x.v::cellsOf slF l:=rfl;have h2:cellsOf valF ((x::l).map SlR.v)=x.v::cellsOf valF (l.map SlR.v):=rfl;rw[h1,h2,ih]
structure ORows (w:World) (v:Value) (vs:List SlR) (rows:List (List Int)):Prop where
 own:Own slF 1 24 0 w v vs
 len:vs.length=rows.length
 all:∀(i:Nat) u row,vs[i]?=some u→rows[i]?=some row→Own wordF 1 22 0 w u.v row
 ne:∀u∈vs,Off (ownF u.v) (ownF v)
 apart:∀(i j:Nat) u u',vs[i]?=some u→vs[j]?=some u'→i≠j→Off (ownF u.v) (ownF u'.v)
def rowsF (v:Value) (vs:List SlR):Fp:=fun i=>ownF v i∨∃u∈vs,ownF u.v i
theorem ORows.row {w:World} {v:Value} {vs:List SlR} {rows:List (List Int)} (h:ORows w v vs rows) {u:SlR} (hu:u∈vs):∃row,Own wordF 1 22 0 w u.v row:=by
 obtain⟨i,hi,rfl⟩:=List.mem_iff_getElem.1 hu;have hi2:i<rows.length:=h.len▸hi;exact⟨_,h.all i _ rows[i] (gq_ hi) (gq_ hi2)⟩
theorem ORows.low {w:World} {v:Value} {vs:List SlR} {rows:List (List Int)} (h:ORows w v vs rows):Low w (rowsF v vs):=fun i hi=>by
 rcases hi with hi |⟨u,hu,hi⟩
 ·exact h.own.low i hi
 ·obtain⟨row,hr⟩:=h.row hu
  exact hr.low i hi
theorem ORows.keptS {w w':World} {v:Value} {vs:List SlR} {rows:List (List Int)} {S:Fp} (h:ORows w v vs rows) (k:GrownS S w w') (ho:Off (rowsF v vs) S):ORows w' v vs rows:=
 ⟨h.own.offS k (ho.left fun i hi=>.inl hi),h.len,fun i u row hu hr=>(h.all i u row hu hr).offS k (ho.left fun q hq=>.inr ⟨u,mo_ hu,hq⟩),h.ne,h.apart⟩
theorem ORows.rd {w:World} {v:Value} {vs:List SlR} {rows:List (List Int)} (h:ORows w v vs rows):In_ w v (vs.map SlR.v) rows:=by
 refine⟨?_,by rw[List.length_map];exact h.len,fun i u row hu hr=>?_⟩
 ·have:=h.own.rd
  unfold RdL at this ⊢;rw[←Xh_,List.length_map];exact this
 ·rw[List.getElem?_map] at hu
  cases hx:vs[i]? with
  | none=>rw[hx] at hu;simp at hu
  | some x=>
   rw[hx] at hu;simp only[Option.map_some,Option.some.injEq] at hu;subst hu;exact(h.all i x row hx hr).rd
theorem ORows.nil (w:World):ORows w (.slice none 0 0) [] []:=⟨Own.nil _ _ _ _ _,rfl,by simp,by simp,by simp⟩
theorem ORows.snoc {w w':World} {v v':Value} {vs:List SlR} {rows:List (List Int)} (h:ORows w v vs rows) (hg:w.grownBy w' v.ownBlock) {x:SlR} {row:List Int} (ho:Own slF 1 24 0 w' v' (vs++[x])) (hl:Lies v v' w.heap.size) (hx:Own wordF 1 22 w.heap.size w' x.v row) (hne:Off (ownF x.v) (ownF v')):ORows w' v' (vs++[x]) (rows++[row]):=by
 have hS:GrownS (ownF v) w w':=GrownS.of hg fun q e=>e
 have hlow:=h.low;refine⟨ho,by simp[h.len],fun i u r hu hr=>?_,fun u hu q hq hq'=>?_,fun i j u u' hu hu' hij q hq hq'=>?_⟩
 ·rw[List.getElem?_append] at hu hr
  by_cases hi:i<vs.length
  ·rw[if_pos hi] at hu
   rw[if_pos (h.len▸hi)] at hr;exact(h.all i u r hu hr).offS hS (h.ne u (mo_ hu))
  ·rw[if_neg hi] at hu
   rw[if_neg (h.len▸hi)] at hr;rw[List.getElem?_singleton] at hu hr
   split at hu
   ·rename_i h0
    rw[if_pos (by have:=h.len;omega)] at hr;cases hu;cases hr;exact hx.zero
   ·cases hu
 ·rcases ma_ hu with hu|hu
  ·have h1:=hlow q (.inr ⟨u,hu,hq⟩)
   rcases lies_new hl q hq' with h2|h2
   ·exact h.ne u hu q hq h2
   ·omega
  ·rw[ms_ hu] at hq
   exact hne q hq hq'
 ·have key:∀(i:Nat) u,(vs++[x])[i]?=some u→(i<vs.length∧vs[i]?=some u)∨(i=vs.length∧u=x):=fun i u hu=>by
   rw[List.getElem?_append] at hu
   by_cases hi:i<vs.length
   ·rw[if_pos hi] at hu;exact .inl ⟨hi,hu⟩
   ·rw[if_neg hi,List.getElem?_singleton] at hu
    split at hu
    ·cases hu;exact .inr ⟨by omega,rfl⟩
    ·cases hu
  rcases key i u hu with⟨h1,h2⟩ |⟨h1,rfl⟩ <;> rcases key j u' hu' with⟨h3,h4⟩ |⟨h3,rfl⟩
  ·exact h.apart i j u u' h2 h4 hij q hq hq'
  ·have:=hlow q (.inr ⟨u,mo_ h2,hq⟩)
   have:=(hx.lt q hq').1;omega
  ·have:=hlow q (.inr ⟨u',mo_ h4,hq'⟩)
   have:=(hx.lt q hq).1;omega
  ·omega
structure RSk (w:World) (g:Nat) (v:Value) (vs:List SlR) (vt:Value) (t:List Int) (seed:Int) (rows:List (List Int)) (sum:Int):Prop where
 blk:Blk w g #[v,vt,.int .u64 seed,.int .u64 sum]
 rows:ORows w v vs rows
 tab:Own wordF 1 22 0 w vt t
 ne:¬rowsF v vs g∧¬ownF vt g
 off:Off (ownF vt) (rowsF v vs)
def rskF (g:Nat) (v:Value) (vs:List SlR) (vt:Value):Fp:=fun i=>i=g∨rowsF v vs i∨ownF vt i
theorem RSk.low {w:World} {g:Nat} {v:Value} {vs:List SlR} {vt:Value} {t:List Int} {seed:Int} {rows:List (List Int)} {sum:Int} (h:RSk w g v vs vt t seed rows sum):Low w (rskF g v vs vt):=fun i hi=>by
 rcases hi with rfl|hi|hi
 ·exact h.blk.lt
 ·exact h.rows.low i hi
 ·exact h.tab.low i hi
theorem RSk.keptS {w w':World} {g:Nat} {v:Value} {vs:List SlR} {vt:Value} {t:List Int} {seed:Int} {rows:List (List Int)} {sum:Int} {S:Fp} (h:RSk w g v vs vt t seed rows sum) (k:GrownS S w w') (ho:Off (rskF g v vs vt) S):RSk w' g v vs vt t seed rows sum:=
 ⟨h.blk.keptS k (ho g (.inl rfl)),h.rows.keptS k (ho.left fun i hi=>.inr (.inl hi)),h.tab.offS k (ho.left fun i hi=>.inr (.inr hi)),h.ne,h.off⟩
theorem RSk.same {w w':World} {g:Nat} {v:Value} {vs:List SlR} {vt:Value} {t:List Int} {seed:Int} {rows:List (List Int)} {sum:Int} (h:RSk w g v vs vt t seed rows sum) (k:w.grownBy w' none):RSk w' g v vs vt t seed rows sum:=h.keptS (GrownS.none_ (S:=fun _=>False) k) fun _ _=>id
end
section
open Go.RowKit Go.Sort
theorem Y6_:Elt 24 22 (.int .u64 0) 1 8:=⟨Tryz.underlying24,by kernel_rfl,rfl,by decide⟩
theorem Zj_:OneF wordF:=by intro x u hu;simp[wordF] at hu;subst hu;rfl
theorem Sb_ (w:World) (n:Nat) (hn:n≤1000000):Own wordF 1 22 w.heap.size (w.alloc (.cells (B1_ (List.replicate n 0)) 22)) (.slice (some ⟨w.heap.size,0,none⟩) n n) (List.replicate n 0):=by
 have hl :(B1_ (List.replicate n 0)).size=n:=by simp[B1_]
 refine⟨by rw[Au_ _ 1 A9_],.inr ⟨w.heap.size,n,_,by rw[List.length_replicate],Nat.le_refl _,heap_alloc_new w _,by simp,by unfold maxLen;omega,by rw[hl];omega,?_⟩⟩;rw[Ib_]
 simp[B1_]
theorem Pw_ (k n:Nat):List.replicate (k+1) (List.replicate n (0:Int))=List.replicate k (List.replicate n 0)++[List.replicate n 0]:=List.replicate_succ'
theorem a3_ (d n:Int) (tv:Value) (t:List Int) (seed:Int) (w:World) (hd:1≤d∧d≤4) (hn:1≤n∧n≤256) (ht:RdL wordF 1 w tv t) (htl:t.length=16) :
  Calls Tryz.prog 155 #[.int .i64 d,.int .i64 n,tv,.int .u64 seed] w (fun e w'=>∃g v vs vt,e=.returned (.tuple #[.pointer (some ⟨g,0,none⟩),.int .i64 0])∧RSk w' g v vs vt t seed (rows0 d.toNat n.toNat) 0∧(∀i,rskF g v vs vt i→w.heap.size≤i)∧w.grownBy w' none):=by
 obtain⟨d1,d2⟩:=hd;obtain⟨n1,n2⟩:=hn;obtain⟨ta,tc,htv⟩:=ht.shape;subst htv;rw[htl] at ht ⊢;have HT:=hh_ ht;have Htl:=hh_ htl
 have HC:=hh_ fun y=>Fw_ ta tc y
 obtain⟨N,hN⟩:∃N:Nat,n=N:=⟨n.toNat,by omega⟩;subst hN;obtain⟨D,hD⟩:∃D:Nat,d=D:=⟨d.toNat,by omega⟩;subst hD;have hmk:=Pu_ N (by omega)
 have HOW:=hh_ fun y=>Sb_ y N (by omega)
 have hb2:16*8≤140737488355328:=by omega
 have HR:=hh_ (show rows0 (D:Int).toNat (N:Int).toNat=List.replicate D (List.replicate N 0) by simp[rows0]);clear ht htl
 go_enter Tryz.func155,Tryz.ntmps155
 have hlit:Own wordF 1 22 w.heap.size (w.alloc (.cells #[] 22)) (.slice (some ⟨w.heap.size,0,none⟩) 0 0) []:=Aw_ wordF 1 (Nat.le_refl _);have hlr:RdL wordF 1 (w.alloc (.cells #[] 22)) (.slice ta 16 tc) t:=HT.out.same (ga_ w _ none)
 have hl1:t.length*8≤140737488355328:=by rw[Htl.out];omega
 have hl2:t.length≤9223372036854775807:=by rw[Htl.out];omega
 have hl3:w.heap.size≤(w.alloc (.cells #[] 22)).heap.size:=by simp
 go_upto_region 7 with(first
  |(go_at_call 147;refine(HC.out _).mono ?_;rintro e w1 ⟨rfl,rfl⟩)
  |(at_builtin;refine A2_ Y6_ Zj_ hlit hlr Htl.out.symm hl1 hl2 hl3 (by rfl) _ _ (by rfl) (by rfl) (by rfl) ?_;intro v2 w2 o2 g2 l2;(obtain⟨va,vc,hv2⟩:=o2.shape);rw[Htl.out] at hv2;subst hv2))
 have G2:=Aa_ (ga_ w _ none) g2
 have hvt:=hh_ fun i (hi:ownF (.slice va 16 vc) i)=>o2.lt i hi
 have B3:=Blk.new w2 #[.slice none 0 0,.slice va 16 vc,.int .u64 seed,.int .u64 0] 211;have o3:=(o2.same (ga_ w2 (.cells #[.slice none 0 0,.slice va 16 vc,.int .u64 seed,.int .u64 0] 211) none)).zero;have G3:=Ad_ G2 (.cells #[.slice none 0 0,.slice va 16 vc,.int .u64 seed,.int .u64 0] 211)
 have hz3:w2.heap.size+1≤(w2.alloc (.cells #[.slice none 0 0,.slice va 16 vc,.int .u64 seed,.int .u64 0] 211)).heap.size:=by simp
 have hwg:=G2.size;clear o2 g2 l2 hlit hlr G2 HC HT;generalize w2.alloc (.cells #[.slice none 0 0,.slice va 16 vc,.int .u64 seed,.int .u64 0] 211)=w3 at *;generalize w2.heap.size=g at *
 go_upto_region 8 with fail
 go_loopw [12] (fun s12 wk=>∃(k:Nat) (v:Value) (vs:List SlR),k≤D∧s12=.int .i64 k∧Blk wk g #[v,.slice va 16 vc,.int .u64 seed,.int .u64 0]∧ORows wk v vs (List.replicate k (List.replicate N 0))∧(∀i,rowsF v vs i→g<i)∧Own wordF 1 22 0 wk (.slice va 16 vc) t∧w.grownBy wk none∧g<wk.heap.size) (fun s12 _=>D-(RowKit.intOf s12).toNat)
 case atStart=>exact⟨0,_,[],Nat.zero_le _,rfl,B3,ORows.nil _,fun i hi=>by rcases hi with hi |⟨u,hu,_⟩;exact absurd hi (Ax_ i);simp at hu,o3,G3,hz3⟩
 case round=>
  obtain⟨k,v,vs,hk,rfl,B,R,hF,hT,hg,hgz⟩:=hrel;clear B3 o3 G3 hz3
  by_cases hkD:k<D
  ·have hkd :(k:Int)<(D:Int):=by omega
   obtain⟨oa,oc,rfl⟩:=R.own.shape
   have hvl:vs.length=k:=by have:=R.len;simpa using this
   have hb1 :(vs.length+[(⟨some ⟨wr.heap.size,0,none⟩,N,N⟩:SlR)].length)*24≤140737488355328:=by simp;omega
   have hb3:vs.length+[(⟨some ⟨wr.heap.size,0,none⟩,N,N⟩:SlR)].length≤9223372036854775807:=by simp;omega
   have HR1:=hh_ R;have O6:=HOW.out wr.drew;obtain⟨A6,hA6⟩:∃A6:Obj,A6=.cells (B1_ (List.replicate N 0)) 22:=⟨_,rfl⟩;rw[←hA6] at hmk O6;have k5:wr.grownBy wr.drew none:=Am_ (Ab_ wr none);have K6:=ga_ wr.drew A6 none;have K7:=ga_ (wr.drew.alloc A6) (.cells #[.slice (some ⟨wr.heap.size,0,none⟩) N N] 24) none;have K57:=Aa_ (Aa_ k5 K6) K7;have O7:=R.own.same K57
   have hr7:RdL slF 1 ((wr.drew.alloc A6).alloc (.cells #[.slice (some ⟨wr.heap.size,0,none⟩) N N] 24)) (.slice (some ⟨wr.heap.size+1,0,none⟩) 1 1) [⟨some ⟨wr.heap.size,0,none⟩,N,N⟩]:=by
    have:=Gi_ (size:=1) Nm_ (wr.drew.alloc A6) ⟨some ⟨wr.heap.size,0,none⟩,N,N⟩ #[.slice (some ⟨wr.heap.size,0,none⟩) N N] 24 rfl
    simpa using this
   have B7:=B.same K57;have hZ6:=O6.same K7;have b6:=(B.same k5).cell;have b61:=((B.same (ga_ wr A6 none)).drew1).cell;have b62:=(((B.same (ga_ wr A6 none)).same (ga_ (wr.alloc A6) (.cells #[.slice (some ⟨wr.heap.size,0,none⟩) N N] 24) none)).drew1).cell;have HK57:=hh_ K57;clear hvl O6 K6 K7 hA6
   go_upto_region 9 with fail
   go_region_law ((first
    |(refine F0_ (l:=vs) Oz_ Y7_ O7 hr7 rfl hb1 hb3 (Nat.zero_le _) (by rfl) _ _ (by rfl) (by rfl) (by rfl) ?_;intro v8 w8 o8 g8 l8;have B8:=B7.kept g8 (fun e=>by have:=hF g (.inl e);omega);have b8:=B8.cell;have f8:=B8.free;(obtain⟨va8,vc8,hv8⟩:=o8.shape);rw[List.length_append,List.length_singleton] at hv8;subst hv8)))
   all_goals
    have Gw:wr.grownBy w8 (Value.slice oa vs.length oc).ownBlock:=Aa_ (Eu_ HK57.out) g8
    have hz7:wr.heap.size+2≤((wr.drew.alloc A6).alloc (.cells #[.slice (some ⟨wr.heap.size,0,none⟩) N N] 24)).heap.size:=by rw[World.size_alloc,World.size_alloc];exact Nat.le_refl _
    have hq6:∀q,(Value.slice (some ⟨wr.heap.size,0,none⟩) N N).ownBlock=some q→q=wr.heap.size:=fun q hq=>by simpa [Value.ownBlock] using hq.symm
    have hvlo:=fun q hq=>(HR1.out.own.lt q hq).2
    have hx8:=(hZ6.base (B':=wr.heap.size) (fun q hq=>Nat.le_of_eq (hq6 q hq).symm)).kept g8 (fun q hq e=>by have h1:=hvlo q e;have h2:=hq6 q hq;omega)
    have hl8:Lies (.slice oa vs.length oc) (.slice va8 (vs.length+1) vc8) wr.heap.size:=l8.imp id fun⟨q,h1,h2⟩=>⟨q,h1,lt_ (show wr.heap.size≤((wr.drew.alloc A6).alloc (.cells #[.slice (some ⟨wr.heap.size,0,none⟩) N N] 24)).heap.size by omega) h2⟩
    have hne8:Off (ownF (SlR.v ⟨some ⟨wr.heap.size,0,none⟩,N,N⟩)) (ownF (.slice va8 (vs.length+1) vc8)):=fun q hq hq'=>by
     have hq2:q=wr.heap.size:=by simpa [ownF,SlR.v,Value.ownBlock] using hq.symm
     rcases l8 with l8 |⟨y,h1,h2⟩
     ·have:=hvlo q (l8.symm.trans hq');omega
     ·rw[show Value.ownBlock _=some q from hq'] at h1
      cases h1;omega
    have R8:=HR1.out.snoc Gw o8 hl8 (x:=⟨some ⟨wr.heap.size,0,none⟩,N,N⟩) hx8 hne8;have T8:=(hT.same HK57.out).kept g8 (fun q hq e=>by have h1:=(hvt.out q hq).2;have h2:=hF q (.inl e);omega)
    have hF8:∀i,rowsF (.slice va8 (vs.length+1) vc8) (vs++[⟨some ⟨wr.heap.size,0,none⟩,N,N⟩]) i→g<i:=fun i hi=>by
     rcases hi with hi |⟨u,hu,hi⟩
     ·rcases lies_new hl8 i hi with h1|h1
      ·exact hF i (.inl h1)
      ·omega
     ·rcases ma_ hu with hu|hu
      ·exact hF i (.inr ⟨u,hu,hi⟩)
      ·rw[ms_ hu] at hi
       have hq2:i=wr.heap.size:=by simpa [ownF,SlR.v,Value.ownBlock] using hi.symm
       omega
    have hg9:w8.grownBy (w8.setCell ⟨g,0,none⟩ (.slice va8 (vs.length+1) vc8)) (some g):=Ac_ (Ab_ _ _) _ _;have B9:=B8.set_ 0 (.slice va8 (vs.length+1) vc8) (cs':=#[.slice va8 (vs.length+1) vc8,.slice va 16 vc,.int .u64 seed,.int .u64 0]) rfl
    have R9:=R8.keptS (GrownS.of (S:=oneF g) hg9 fun q e=>by cases e;exact rfl) fun i hi hig=>by have:=hF8 i hi;have:i=g:=hig;omega
    have T9:=T8.kept hg9 (fun q hq e=>by cases e;have:=(hvt.out g hq).2;omega)
    have hgw:w.grownBy w8 none:=by
     cases hv :(Value.slice oa vs.length oc).ownBlock with
     | none=>rw[hv] at Gw;exact Aa_ hg Gw
     | some q=>rw[hv] at Gw;exact Af_ hg Gw (by have:=hF q (.inl hv);omega)
    have hsz8:=Gw.size;have hF9:=hh_ (And.intro B9 (And.intro R9 (And.intro T9 (And.intro hF8 (And.intro (Af_ hgw hg9 (by omega)) (show g<(w8.setCell ⟨g,0,none⟩ (.slice va8 (vs.length+1) vc8)).heap.size from Nat.lt_of_lt_of_le (by omega) hg9.size))))));clear B9 R9 T9 hF8 hgw hg9 R8 T8 hne8 hx8 hl8 Gw hr7 O7 B7 B8 b8 f8 b6 b61 b62 hZ6;generalize w8.setCell ⟨g,0,none⟩ (.slice va8 (vs.length+1) vc8)=w9 at *;have HRK:=hh_ (Pw_ k N)
    go_wp2_with fail
    exact⟨⟨k+1,_,_,by omega,by go_num,hF9.out.1,by rw[HRK.out];exact hF9.out.2.1,hF9.out.2.2.2.1,hF9.out.2.2.1,hF9.out.2.2.2.2.1,hF9.out.2.2.2.2.2⟩,by simp[RowKit.intOf];omega⟩
  ·obtain rfl:k=D:=by omega
   go_wp2_with fail
   go_ret2
   refine⟨g,v,vs,_,rfl,⟨B,by rw[HR.out];exact R,hT,⟨fun h=>by have:=hF g h;omega,fun h=>by have:=(hvt.out g h).2;omega⟩,fun i hi hi'=>by have h1:=(hvt.out i hi).2;have h2:=hF i hi';omega⟩,fun i hi=>?_,hg⟩
   rcases hi with rfl|hi|hi
   ·exact hwg
   ·have:=hF i hi;omega
   ·exact(hvt.out i hi).1
end
end Go.Proofs.YtckmgjmeanloaaaGreat
