/- Several texts in one file: contracts of functions of the given program, and plain laws, for the proof of a statement. -/
import Derived.Test.YtckmgjmeanloaaaGreatBsai
import Derived.Test.YtckmgjmeanloaaaGreatBsad
import Derived.Test.YtckmgjmeanloaaaGreatBsab
import Derived.Test.YtckmgjmeanloaaaGreatBsaf
import Derived.Test.YtckmgjmeanloaaaGreatBsac
import Derived.Test.YtckmgjmeanloaaaGreatBsaa
import Derived.Test.YtckmgjmeanloaaaGreatBsae
import Derived.StillTailTactics
import Derived.Deep.CutBlock
import Derived.Deep.RegionLaw
set_option maxHeartbeats 8000000
set_option maxRecDepth 100000
namespace Go.Proofs.YtckmgjmeanloaaaGreat
section
open Go.RowKit Go.Sort
theorem S6_ (c:Cfg) (t:List Int) (L:List (Int×Aq_)) (x:Co_) :(tsAdd c t L x).length≤L.length+1:=by
 unfold tsAdd
 split
 ·simp
 ·simp only[List.length_append,List.length_take,List.length_drop,List.length_singleton];omega
theorem Qw_ {c:Cfg} {t:List Int} {S:ShM} {n:Nat} (h:S.ts.length+S.queue.length≤n) :(stepS c t S).ts.length+(stepS c t S).queue.length≤n:=by
 unfold stepS
 split
 ·exact h
 ·rename_i x q hq
  have:=S6_ c t S.ts x
  rw[hq] at h;simp only[List.length_cons] at h;dsimp only
  omega
theorem Fc_ {c:Cfg} {t:List Int} {S:ShM} {n:Nat} (h:S.ts.length+S.queue.length≤n):∀k,(stepsS c t k S).ts.length+(stepsS c t k S).queue.length≤n
 | 0=>h
 | k+1=>Qw_ (Fc_ h k)
theorem bv_ (G:RshG) (c:Cfg) (t:List Int) (S:ShM) (w:World) (h:RSh w G c t S) (hok:ShOk c S) (hn:A8_ c) (ht:RdL wordF 1 w c.Table t) (hto:Off (ownF c.Table) G.F) (htl:t.length=16) (hb:S.ts.length+S.queue.length≤1000000000) :
  Calls Tryz.prog 92 #[.pointer (some ⟨G.g,0,none⟩)] w (Ix_ G c t S w):=by
 obtain⟨q,ts⟩:=S
 cases q with
 | cons x q=>
  cases hi:posW (ts.map (·.1)) x.win with
  | some i=>exact U5_ G c t x q ts w h hok hn htl i hi
  | none=>exact Yb_ G c t x q ts w h hok hn ht hto htl hi (by simp at hb;omega)
 | nil=>
  obtain⟨qa,qc,hqv⟩:=h.q.shape;have b0:=h.blk.cell;rw[hqv] at b0;have H:=hh_ h;clear h
  go_enter Tryz.func92,Tryz.ntmps92
  go_wp2_with fail
  go_ret2
  exact⟨rfl,G,H.out,Mov.refl _ _,rfl⟩
def firstS (c:Cfg) (t:List Int):Nat→ShM→Int
 | 0,_=>0
 | n+1,S=>if stepE (stepsS c t n S) c≠0∧firstS c t n S=0 then stepE (stepsS c t n S) c else firstS c t n S
theorem Ye_ (G:RshG) (c:Cfg) (t:List Int) (S:ShM) (win:Int) (w:World) (h:RSh w G c t S) (hok:ShOk c S) (hn:A8_ c) (ht:RdL wordF 1 w c.Table t) (hto:Off (ownF c.Table) G.F) (htlow:Low w (ownF c.Table)) (htl:t.length=16) (hb:S.ts.length+S.queue.length≤1000000000) :
  Calls Tryz.prog 55 #[.pointer (some ⟨G.g,0,none⟩),.int .i64 win] w (fun e w'=>e=.returned (.tuple #[.int .i64 (untilQ S.queue win),.int .i64 (firstS c t (untilQ S.queue win) S)])∧∃G',RSh w' G' c t (drainS c t S win)∧Mov G.F G'.F w w'∧G'.g=G.g):=by
 have hqr:=h.q;obtain⟨qa,qc,hqv⟩:=h.q.shape;rw[hqv] at hqr;have b0:=h.blk.cell;rw[hqv] at b0;have hul:=Rr_ S.queue win S.queue.length (Nat.le_refl _);rw[List.take_length] at hul;have CU:=hh_ (V1_ _ S.queue win w hqr (by omega));have H:=hh_ h;have HT:=hh_ ht;have HD:=hh_ (show drainS c t S win=stepsS c t (untilQ S.queue win) S from rfl);have HOK:=hh_ hok;have HB:=hh_ hb;clear h hqr ht hb;obtain⟨n,hnn⟩:∃n,untilQ S.queue win=n:=⟨_,rfl⟩;rw[hnn] at CU HD hul ⊢
 have hn1:n≤1000000000:=by have:=HB.out;omega
 have HUL:=hh_ hul;clear hnn hul
 go_enter Tryz.func55,Tryz.ntmps55
 go_upto_region 4 with(go_at_call 91;refine CU.out.mono ?_;rintro e w1 ⟨rfl,g1⟩)
 have H1:=hh_ (H.out.same g1);have HT1:=hh_ (RdL.same HT.out g1);have HG1:=hh_ g1;have HL1:=hh_ (htlow.up g1.size);clear b0 CU g1 H HT
 go_loopw [7,8] (fun s7 s8 wk=>∃(k:Nat) (G':RshG),k≤n∧s8=.int .i64 k∧s7=.int .i64 (firstS c t k S)∧RSh wk G' c t (stepsS c t k S)∧Mov G.F G'.F w1 wk∧G'.g=G.g) (fun _ s8 _=>n-(RowKit.intOf s8).toNat)
 case atStart=>exact⟨0,G,Nat.zero_le _,rfl,rfl,H1.out,Mov.refl _ _,rfl⟩
 case round=>
  obtain⟨k,G',hk,rfl,rfl,hR,hM,hg'⟩:=hrel;have HR:=hh_ hR;have HM:=hh_ hM
  by_cases hlt:k<n
  ·have hlt2 :(k:Int)<(n:Int):=by omega
   have HS:=hh_ (show stepS c t (stepsS c t k S)=stepsS c t (k+1) S from rfl);have HF:=hh_ (show firstS c t (k+1) S=if stepE (stepsS c t k S) c≠0∧firstS c t k S=0 then stepE (stepsS c t k S) c else firstS c t k S from rfl);have CS:=bv_ G' c t (stepsS c t k S) wr hR (Gr_ hn.cfg HOK.out k) hn (Bk_ HT1.out hM.grown hto) (hM.off HL1.out hto) htl (Fc_ HB.out k);rw[hg'] at CS;have CS:=hh_ CS;unfold Ix_ at CS;obtain⟨bb,hbb⟩:∃bb,stepB (stepsS c t k S)=bb:=⟨_,rfl⟩;obtain⟨er,her⟩:∃er,stepE (stepsS c t k S) c=er:=⟨_,rfl⟩;obtain⟨fi,hfi⟩:∃fi,firstS c t k S=fi:=⟨_,rfl⟩;rw[hbb,her] at CS;rw[her,hfi] at HF;rw[hfi];clear hbb her hfi hR hM
   by_cases he:er=0
   ·have he1 :(er != 0)=false:=by simp[he]
    have he2 :(er==0)=true:=by simp[he]
    have HF2:=hh_ (HF.out.trans (if_neg (by omega)));clear HF he
    go_wp2_with (go_at_call 92;refine CS.out.mono ?_;rintro e w3 ⟨rfl,G3,R3,M3,h3⟩)
    exact⟨⟨k+1,G3,by omega,by go_num,by rw[HF2.out],by rw[←HS.out];exact R3,HM.out.trans M3,h3.trans hg'⟩,by simp[RowKit.intOf];omega⟩
   ·have he1 :(er != 0)=true:=by simp[he]
    have he2 :(er==0)=false:=by simp[he]
    by_cases hf:fi=0
    ·subst hf
     have HF2:=hh_ (HF.out.trans (if_pos ⟨he,rfl⟩));clear HF he
     go_wp2_with (go_at_call 92;refine CS.out.mono ?_;rintro e w3 ⟨rfl,G3,R3,M3,h3⟩)
     exact⟨⟨k+1,G3,by omega,by go_num,by rw[HF2.out],by rw[←HS.out];exact R3,HM.out.trans M3,h3.trans hg'⟩,by simp[RowKit.intOf];omega⟩
    ·have hf1 :(fi==0)=false:=by simp[hf]
     have HF2:=hh_ (HF.out.trans (if_neg (fun h=>hf h.2)));clear HF he hf
     go_wp2_with (go_at_call 92;refine CS.out.mono ?_;rintro e w3 ⟨rfl,G3,R3,M3,h3⟩)
     exact⟨⟨k+1,G3,by omega,by go_num,by rw[HF2.out],by rw[←HS.out];exact R3,HM.out.trans M3,h3.trans hg'⟩,by simp[RowKit.intOf];omega⟩
  ·obtain rfl:k=n:=by omega
   have hnn:¬((k:Int)<(k:Int)):=by omega
   clear hlt
   go_wp2_with fail
   go_ret2
   exact⟨rfl,G',by rw[HD.out];exact HR.out,(Mov.same HG1.out).trans HM.out,hg'⟩
end
section
open Go.RowKit Go.Sort
theorem Vi_ {K:Nat} :(fun x:Addr=>x.add (K+1))=fun x=>⟨x.block,x.off+(K+1),none⟩:=by
 funext x;unfold Addr.add;simp
theorem M9_ (S:Nat→Prop) (b:Nat) (L:List (Int×Int)) (acc:Int) (R:List Int) (win:Int) (w:World) (h:RLed S w b L acc R) (hS:∀i,w.heap.size≤i→S i) (hl:L.length<1000000000) :
  Calls Tryz.prog 60 #[.pointer (some ⟨b,0,none⟩),.int .i64 win] w (fun e w'=>e=.returned (.tuple #[.int .u64 (ldAt L win),.bool (ldHas L win)])∧RLed S w' b (ldDel L win) acc R∧GrownS S w w'):=by
 have H:=hh_ h;have CAt:=hh_ (J6_ S b L acc R win w h);obtain⟨F,hF⟩:∃F,ldHas L win=F:=⟨_,rfl⟩;rw[hF] at CAt ⊢;cases F
 ·have h0:=hh_ (J7_ hF)
  rw[Pe_ hF];clear h hF
  go_enter Tryz.func60,Tryz.ntmps60
  go_wp2_with (go_at_call 90;refine CAt.out.mono ?_;rintro e w1 ⟨rfl,g1⟩)
  go_ret2
  exact⟨by rw[h0.out];rfl,H.out.same g1,GrownS.none_ g1⟩
 ·obtain⟨h1,h2⟩:=Jy_ h.asc hF
  have HP:=hh_ (Lb_ h.asc hF);have HAL:=hh_ (Js_ (w:=win) h.asc);have HKL:=hh_ (show ∀p∈ldDel L win,I64 p.1 from fun p hp=>h.keys p (Eo_ hp));have HVL:=hh_ (show ∀p∈ldDel L win,W64 p.2 from fun p hp=>h.vals p (Eo_ hp));obtain⟨vw,vt,vr,H0⟩:=h.rl;have hm1:=hh_ (show(L.take (ldK L win)++L.drop (ldK L win+1)).map (·.1) =(L.map (·.1)).take (ldK L win)++(L.map (·.1)).drop (ldK L win+1) by simp[List.map_take,List.map_drop]);have hm2:=hh_ (show(L.take (ldK L win)++L.drop (ldK L win+1)).map (·.2) =(L.map (·.2)).take (ldK L win)++(L.map (·.2)).drop (ldK L win+1) by simp[List.map_take,List.map_drop])
  have hlen1 :(L.map (·.1)).length=L.length:=by simp
  have hlen2 :(L.map (·.2)).length=L.length:=by simp
  obtain⟨oa,oc,rfl⟩:=H0.ow.shape;obtain⟨ta,tc,rfl⟩:=H0.ot.shape;rw[hlen1,hlen2] at H0;obtain⟨g,off,cap,hv,hgl,ck⟩:=H0.ot.rd.one B7_ (k:=ldK L win) (by rw[hlen2];exact h1)
  have e1 :(L.map (·.2))[ldK L win]'(by rw[hlen2];exact h1)=ldAt L win:=by
   rw[List.getElem_map]
   have:=(gs_ h2).2
   rw[this]
  rw[e1] at ck;rw[hlen2] at hv;cases hv;have H0h:=hh_ H0
  have HCk:=hh_ fun w' (k:World.grownBy w w' none)=>((An_ k).1 g (off+ldK L win) hgl (by simp)).trans ck
  have hS0:=hh_ hS;clear h hF h2 e1 ck hS H0;generalize ldAt L win=X at *;generalize ldK L win=K at *;generalize L.map (·.1)=W at *;generalize L.map (·.2)=T at *
  have hk0 :(0:Int)≤(K:Int):=by omega
  have hk1 :(K:Int)<(L.length:Int):=by omega
  go_enter Tryz.func60,Tryz.ntmps60
  go_upto_region 4 with(go_at_call 90;refine CAt.out.mono ?_;rintro e w3 ⟨rfl,g3⟩)
  have H3:=hh_ (H0h.out.same g3);have G3h:=hh_ (GrownS.none_ (S:=S) g3);have hS3:=hh_ (show ∀i,w3.heap.size≤i→S i from fun i hi=>hS0.out i (lt_ g3.size hi));have cx:=HCk.out _ g3;have ax:=H3.out.blk.cell;unfold Bm_ at ax
  go_upto_region 5 with fail
  clear cx ax HCk H0h hS0 CAt g3 hgl
  have hKl:K≤W.length:=by omega
  have hKl1:K+1≤W.length:=by omega
  have KN:World.grownBy w3 w3.drew none:=gw_;obtain⟨N,hN⟩:∃N,w3.heap.size=N:=⟨_,rfl⟩;have HN2:=hh_ (show N≤w3.drew.heap.size from Nat.le_of_eq hN.symm)
  have hbN:b<N:=by have:=H3.out.blk.lt;omega
  have HB:=hh_ (H3.out.blk.same KN);have HO:=hh_ (H3.out.ow.same KN);have HOb:=hh_ (show ∀k,Value.ownBlock (.slice oa L.length oc)=some k→k<N from fun k hk=>by have:=(H3.out.ow.lt k hk).2;omega);obtain⟨P,hP⟩:∃P:List Int→Prop,P=fun U=>U <+: W.take K++W.drop (K+1):=⟨_,rfl⟩;have HP0:=hh_ (show P [] by rw[hP];exact List.nil_prefix);have HP1:=hh_ (show P (W.take K) by rw[hP];exact List.prefix_append _ _);have HPF:=hh_ (show P (W.take K++W.drop (K+1)) by rw[hP];exact List.prefix_refl _);have HP2:=hh_ (show ∀U,P U→U.length≤(W.take K).length∨U <+: W.take K++W.drop (K+1)∨W.take K++W.drop (K+1) <+: U by rw[hP];exact fun U h=>.inr (.inl h));clear hP;have Hb1:=hh_ (show K =(W.take K).length by rw[List.length_take];omega);have Hb7:=hh_ (show L.length-(K+1) =(W.drop (K+1)).length by rw[List.length_drop];omega)
  have hb2 :(W.take K).length*8≤140737488355328:=by rw[←Hb1.out];omega
  have hb3 :(W.take K).length≤9223372036854775807:=by rw[←Hb1.out];omega
  have hb8 :((W.take K).length+(W.drop (K+1)).length)*8≤140737488355328:=by rw[←Hb1.out,←Hb7.out];omega
  have hb9 :(W.take K).length+(W.drop (K+1)).length≤9223372036854775807:=by rw[←Hb1.out,←Hb7.out];omega
  have hcap:=H3.out.ow.cap
  have hKc :(K:Int)≤(oc:Int):=by omega
  have hKc1 :(K:Int)+1≤(oc:Int):=by omega
  have hLc :(L.length:Int)≤(oc:Int):=by omega
  have HRD:=HO.out.rd.drop A6_ hKl1 hcap (oc-(K+1));rw[hlen1] at HRD;simp only[Nat.mul_one] at HRD;rw[Vi_] at HRD;replace HRD:=hh_ HRD;have HRb:=Cb_ (K:=K+1) (s:=1) (m:=L.length-(K+1)) (q:=oc-(K+1)) HOb.out;simp only[Nat.mul_one] at HRb;rw[Vi_] at HRb;replace HRb:=hh_ HRb
  (refine Rg.wp_region_rgZ 19 #[] (Keep intF 1 3 N P) (fun _ _ _ _ _=>False) (by kernel_rfl) (by kernel_rfl) (Keep.refl _ _ _ _ _) (fun _ _ _ h k=>h.trans k) (fun _ _ _ _ _ h=>h) ?_;simp only[List.take,List.drop])
  generalize w3.drew=wd at *
  (refine tq_ 1 ?_;simp only[ts_,Nat.reduceAdd];(repeat(go_big_quiet_step (fail)));refine wpQuiet_nil ?_)
  (refine Rg.tree_op rfl rfl ?_;intro y1 my1 dy1)
  clear dy1;have z1:=lt_ HN2.out my1.grown.size
  go_wp2_with fail
  refine⟨Keep.of (ga_ _ _ _),?_⟩;have N1:=Aw_ (e:=3) intF 1 z1;generalize y1.alloc (.cells #[] 3)=e1 at *;generalize y1.heap.size=g1 at *
  (refine tq_ 3 ?_;simp only[ts_,Nat.reduceAdd];(repeat(go_big_quiet_step (fail)));refine wpQuiet_nil ?_)
  (refine Rg.tree_op rfl rfl ?_;intro y5 my5 dy5)
  clear dy5;have ax:=(my5.blk HB.out hbN).cell
  (try unfold Bm_ at ax)
  go_wp2_with fail
  refine⟨Keep.refl _ _ _ _ _ _,?_⟩;clear ax
  (refine tq_ 2 ?_;simp only[ts_,Nat.reduceAdd];(repeat(go_big_quiet_step (fail)));refine wpQuiet_nil ?_)
  (refine Rg.tree_op rfl rfl ?_;intro y8 my8 dy8)
  have N8:=(dy8.out 1 (by omega) (by kernel_rfl)).own [] _ HP0.out N1;have R8:=my8.rd (HO.out.rd.take A6_ hKl oc) (fun _ a n c e=>by cases e;exact HOb.out _ rfl);have z8:=lt_ HN2.out my8.grown.size;clear dy8
  go_wp2_with (at_builtin;refine A2_ Bv_ Bt_ N8 R8 Hb1.out hb2 hb3 z8 (by rfl) _ _ (by rfl) (by rfl) (by rfl) ?_;intro v8 e8 o8 g8 l8;have Hg8:=hh_ g8;clear g8 l8)
  refine⟨Keep.of Hg8.out,?_⟩;clear N8 R8 z8 N1 my5 my1 z1
  (refine tq_ 3 ?_;simp only[ts_,Nat.reduceAdd];(repeat(go_big_quiet_step (fail)));refine wpQuiet_nil ?_)
  (refine Rg.tree_op rfl rfl ?_;intro y12 my12 dy12)
  clear dy12;have ax:=(my12.blk HB.out hbN).cell
  (try unfold Bm_ at ax)
  go_wp2_with fail
  refine⟨Keep.refl _ _ _ _ _ _,?_⟩;clear ax
  (refine tq_ 3 ?_;simp only[ts_,Nat.reduceAdd];(repeat(go_big_quiet_step (fail)));refine wpQuiet_nil ?_)
  generalize (if oc=K+1 then oa else Option.map (fun x=>(⟨x.block,x.off+(K+1),none⟩:Addr)) oa)=od at *
  (refine Rg.tree_op rfl rfl ?_;intro y16 my16 dy16)
  have N16:=(dy16.out 8 (by omega) (by kernel_rfl)).own _ _ HP1.out o8;have R16:=my16.rd HRD.out (fun _ a n c e=>HRb.out a n c e);have z16:=lt_ HN2.out my16.grown.size;clear dy16
  go_wp2_with (at_builtin;refine Bb_ Bv_ Bt_ (fun _=>rfl) N16 R16 Hb7.out hb8 hb9 z16 HP2.out (by rfl) _ _ (by rfl) (by rfl) (by rfl) ?_;intro v16 e16 o16 k16;have Hk16:=hh_ k16;clear k16)
  refine⟨Hk16.out,?_⟩;clear N16 R16 z16 o8 my12 my16
  (refine tq_ 2 ?_;simp only[ts_,Nat.reduceAdd];(repeat(go_big_quiet_step (fail)));refine wpQuiet_nil ?_)
  (refine Rg.tree_nil ?_;intro z mz dz cz)
  have OZ:=(dz.out 16 (by omega)).own _ _ HPF.out o16;have AZ:=mz.blk HB.out hbN;have GZ:=mz.grown;clear dz cz o16 Hg8 Hk16 mz;generalize W.take K++W.drop (K+1)=LF at *;obtain⟨a18,c18,rfl⟩:=OZ.shape;generalize LF.length=nF at *;have az:=AZ.cell;unfold Bm_ at az;have fz:=AZ.free;obtain⟨H4,G4⟩:=H3.out.setW hN.symm (fun i hi=>hS3.out i (by omega)) ((GrownS.none_ KN).trans GZ (fun _ hi _=>hi)) OZ;replace H4:=hh_ H4;have G4h:=hh_ (G3h.out.trans G4 (fun _ hi _=>hi));have hS4:=hh_ (show ∀i,(z.setCell ⟨b,0,none⟩ (.slice a18 nF c18)).heap.size≤i→S i from fun i hi=>hS3.out i (lt_ G4.size hi))
  go_upto_region 6 with fail
  generalize z.setCell ⟨b,0,none⟩ (.slice a18 nF c18)=w4 at *;clear az fz AZ GZ OZ G4 H3 G3h hS3 KN hN HN2 hbN HB HO HOb HP0 HP1 HPF HP2 Hb1 Hb7 hb2 hb3 hb8 hb9 hcap hKc hKc1 hLc HRD HRb;clear hKl hKl1 my8
  have hKl:K≤T.length:=by omega
  have hKl1:K+1≤T.length:=by omega
  have KN:World.grownBy w4 w4.drew none:=gw_;obtain⟨N,hN⟩:∃N,w4.heap.size=N:=⟨_,rfl⟩;have HN2:=hh_ (show N≤w4.drew.heap.size from Nat.le_of_eq hN.symm)
  have hbN:b<N:=by have:=H4.out.blk.lt;omega
  have HB:=hh_ (H4.out.blk.same KN);have HO:=hh_ (H4.out.ot.same KN);have HOb:=hh_ (show ∀k,Value.ownBlock (.slice (some ⟨g,off,none⟩) L.length tc)=some k→k<N from fun k hk=>by have:=(H4.out.ot.lt k hk).2;omega);obtain⟨P,hP⟩:∃P:List Int→Prop,P=fun U=>U <+: T.take K++T.drop (K+1):=⟨_,rfl⟩;have HP0:=hh_ (show P [] by rw[hP];exact List.nil_prefix);have HP1:=hh_ (show P (T.take K) by rw[hP];exact List.prefix_append _ _);have HPF:=hh_ (show P (T.take K++T.drop (K+1)) by rw[hP];exact List.prefix_refl _);have HP2:=hh_ (show ∀U,P U→U.length≤(T.take K).length∨U <+: T.take K++T.drop (K+1)∨T.take K++T.drop (K+1) <+: U by rw[hP];exact fun U h=>.inr (.inl h));clear hP;have Hb1:=hh_ (show K =(T.take K).length by rw[List.length_take];omega);have Hb7:=hh_ (show L.length-(K+1) =(T.drop (K+1)).length by rw[List.length_drop];omega)
  have hb2 :(T.take K).length*8≤140737488355328:=by rw[←Hb1.out];omega
  have hb3 :(T.take K).length≤9223372036854775807:=by rw[←Hb1.out];omega
  have hb8 :((T.take K).length+(T.drop (K+1)).length)*8≤140737488355328:=by rw[←Hb1.out,←Hb7.out];omega
  have hb9 :(T.take K).length+(T.drop (K+1)).length≤9223372036854775807:=by rw[←Hb1.out,←Hb7.out];omega
  have hcap:=H4.out.ot.cap
  have hKc :(K:Int)≤(tc:Int):=by omega
  have hKc1 :(K:Int)+1≤(tc:Int):=by omega
  have hLc :(L.length:Int)≤(tc:Int):=by omega
  have HRD:=HO.out.rd.drop1 A9_ hKl1 hcap (tc-(K+1));rw[hlen2] at HRD;replace HRD:=hh_ HRD;have hgN:=HOb.out g rfl;have HRb:=hh_ (show ∀(a:Addr) (n' c':Nat),Value.slice (if tc=K+1 then (some ⟨g,off,none⟩:Option Addr) else some ⟨g,off+(K+1),none⟩) (L.length-(K+1)) (tc-(K+1))=.slice (some a) n' c'→a.block<N from fun a n' c' e=>by split at e <;> (cases e;exact hgN))
  (refine Rg.wp_region_rgZ 19 #[] (Keep wordF 1 22 N P) (fun _ _ _ _ _=>False) (by kernel_rfl) (by kernel_rfl) (Keep.refl _ _ _ _ _) (fun _ _ _ h k=>h.trans k) (fun _ _ _ _ _ h=>h) ?_;simp only[List.take,List.drop])
  generalize w4.drew=wd at *
  (refine tq_ 1 ?_;simp only[ts_,Nat.reduceAdd];(repeat(go_big_quiet_step (fail)));refine wpQuiet_nil ?_)
  (refine Rg.tree_op rfl rfl ?_;intro y1 my1 dy1)
  clear dy1;have z1:=lt_ HN2.out my1.grown.size
  go_wp2_with fail
  refine⟨Keep.of (ga_ _ _ _),?_⟩;have N1:=Aw_ (e:=22) wordF 1 z1;generalize y1.alloc (.cells #[] 22)=e1 at *;generalize y1.heap.size=g1 at *
  (refine tq_ 3 ?_;simp only[ts_,Nat.reduceAdd];(repeat(go_big_quiet_step (fail)));refine wpQuiet_nil ?_)
  (refine Rg.tree_op rfl rfl ?_;intro y5 my5 dy5)
  clear dy5;have ax:=(my5.blk HB.out hbN).cell
  (try unfold Bm_ at ax)
  go_wp2_with fail
  refine⟨Keep.refl _ _ _ _ _ _,?_⟩;clear ax
  (refine tq_ 2 ?_;simp only[ts_,Nat.reduceAdd];(repeat(go_big_quiet_step (fail)));refine wpQuiet_nil ?_)
  (refine Rg.tree_op rfl rfl ?_;intro y8 my8 dy8)
  have N8:=(dy8.out 1 (by omega) (by kernel_rfl)).own [] _ HP0.out N1;have R8:=my8.rd (HO.out.rd.take A9_ hKl tc) (fun _ a n c e=>by cases e;exact HOb.out _ rfl);have z8:=lt_ HN2.out my8.grown.size;clear dy8
  go_wp2_with (at_builtin;refine A2_ C2_ Cz_ N8 R8 Hb1.out hb2 hb3 z8 (by rfl) _ _ (by rfl) (by rfl) (by rfl) ?_;intro v8 e8 o8 g8 l8;have Hg8:=hh_ g8;clear g8 l8)
  refine⟨Keep.of Hg8.out,?_⟩;clear N8 R8 z8 N1 my5 my1 z1
  (refine tq_ 3 ?_;simp only[ts_,Nat.reduceAdd];(repeat(go_big_quiet_step (fail)));refine wpQuiet_nil ?_)
  (refine Rg.tree_op rfl rfl ?_;intro y12 my12 dy12)
  clear dy12;have ax:=(my12.blk HB.out hbN).cell
  (try unfold Bm_ at ax)
  go_wp2_with fail
  refine⟨Keep.refl _ _ _ _ _ _,?_⟩;clear ax
  (refine tq_ 3 ?_;simp only[ts_,Nat.reduceAdd];(repeat(go_big_quiet_step (fail)));refine wpQuiet_nil ?_)
  generalize (if tc=K+1 then (some ⟨g,off,none⟩:Option Addr) else some ⟨g,off+(K+1),none⟩)=od at *
  (refine Rg.tree_op rfl rfl ?_;intro y16 my16 dy16)
  have N16:=(dy16.out 8 (by omega) (by kernel_rfl)).own _ _ HP1.out o8;have R16:=my16.rd HRD.out (fun _ a n c e=>HRb.out a n c e);have z16:=lt_ HN2.out my16.grown.size;clear dy16
  go_wp2_with (at_builtin;refine Bb_ C2_ Cz_ (fun _=>rfl) N16 R16 Hb7.out hb8 hb9 z16 HP2.out (by rfl) _ _ (by rfl) (by rfl) (by rfl) ?_;intro v16 e16 o16 k16;have Hk16:=hh_ k16;clear k16)
  refine⟨Hk16.out,?_⟩;clear N16 R16 z16 o8 my12 my16
  (refine tq_ 2 ?_;simp only[ts_,Nat.reduceAdd];(repeat(go_big_quiet_step (fail)));refine wpQuiet_nil ?_)
  (refine Rg.tree_nil ?_;intro z mz dz cz)
  have OZ:=(dz.out 16 (by omega)).own _ _ HPF.out o16;have AZ:=mz.blk HB.out hbN;have GZ:=mz.grown;clear dz cz o16 Hg8 Hk16 mz;generalize T.take K++T.drop (K+1)=LF at *;obtain⟨a18,c18,rfl⟩:=OZ.shape;generalize LF.length=nF at *;have az:=AZ.cell;unfold Bm_ at az;have fz:=AZ.free;obtain⟨H5,G5⟩:=H4.out.setT hN.symm (fun i hi=>hS4.out i (by omega)) ((GrownS.none_ KN).trans GZ (fun _ hi _=>hi)) OZ;rw[←hm1.out,←hm2.out,←HP.out] at H5;replace H5:=hh_ H5;have G5h:=hh_ (G4h.out.trans G5 (fun _ hi _=>hi))
  go_wp2_with fail
  go_ret2
  exact⟨rfl,⟨⟨_,_,_,H5.out⟩,HAL.out,HKL.out,HVL.out,H.out.len,H.out.rw⟩,G5h.out⟩
end
section
open Go.RowKit Go.Sort
theorem Ty_ {α:Type} {l:List α} {k:Nat} (hk:k<l.length) (i:Nat) :(l.take k++l.drop (k+1))[i]?=if i<k then l[i]? else l[i+1]?:=by
 have hl :(l.take k).length=k:=by simp;omega
 by_cases h1:i<k
 ·rw[if_pos h1,List.getElem?_append_left (by omega),List.getElem?_take_of_lt h1]
 ·rw[if_neg h1,List.getElem?_append_right (by omega),hl,List.getElem?_drop]
  congr 1;omega
theorem Ho_ {α:Type} {l:List α} {k:Nat} {y:α} (h:y∈l.take k++l.drop (k+1)):y∈l:=by
 rcases ma_ h with h|h
 ·exact List.mem_of_mem_take h
 ·exact List.mem_of_mem_drop h
theorem RSh.del {w w':World} {G:RshG} {c:Cfg} {t:List Int} {S:ShM} (h:RSh w G c t S) (k:GrownS (oneF G.g) w w') {K:Nat} (hK:K<S.ts.length) {vw' vt':Value}
  (hb:Blk w' G.g (rshA c G.vq vw' vt')) (ow:Own intF 1 3 0 w' vw' (S.ws.take K++S.ws.drop (K+1))) (ot:Own ptrF 1 181 0 w' vt' ((G.ts.map (·.g)).take K++(G.ts.map (·.g)).drop (K+1)))
  (h1:∀i,ownF vw' i→w.heap.size≤i) (h2:∀i,ownF vt' i→w.heap.size≤i) :
  RSh w' ⟨G.g,G.vq,vw',vt',G.ts.take K++G.ts.drop (K+1)⟩ c t ⟨S.queue,S.ts.take K++S.ts.drop (K+1)⟩∧Mov G.F (RshG.F ⟨G.g,G.vq,vw',vt',G.ts.take K++G.ts.drop (K+1)⟩) w w':=by
 have hlow:=h.low
 have hlw:∀U∈G.ts,∀i,U.F i→i<w.heap.size:=fun U hU i hi=>hlow i (.inr (.inr (.inr (.inr ⟨U,hU,hi⟩))))
 have hgl:=h.blk.lt
 have hgt:∀T∈G.ts,Off T.F (oneF G.g):=fun T hT i hi e=>h.n4 T hT (by rw[←show i=G.g from e];exact hi)
 have hKG:K<G.ts.length:=by have:=h.len;omega
 refine⟨⟨hb,Bk_ h.q k fun i hi e=>h.n1 (by rw[←show i=G.g from e];exact hi),h.qc,h.ql.up k.size,?_,?_,?_,?_,?_,h.n1,fun hi=>Nat.lt_irrefl _ (Nat.lt_of_lt_of_le hgl (h1 _ hi)),fun hi=>Nat.lt_irrefl _ (Nat.lt_of_lt_of_le hgl (h2 _ hi)),fun U hU=>h.n4 U (Ho_ hU),fun U hU=>h.m1 U (Ho_ hU),fun U hU i hi hf=>?_,fun U hU i hi hf=>?_⟩,⟨k.mono fun i e _=>.inl e,fun i hi=>?_⟩⟩
 ·have:ShM.ws ⟨S.queue,S.ts.take K++S.ts.drop (K+1)⟩=S.ws.take K++S.ws.drop (K+1):=by simp[ShM.ws,List.map_take,List.map_drop]
  rw[this];exact ow
 ·have :(G.ts.take K++G.ts.drop (K+1)).map (·.g) =(G.ts.map (·.g)).take K++(G.ts.map (·.g)).drop (K+1):=by simp[List.map_take,List.map_drop]
  show Own ptrF 1 _ 0 w' vt' ((G.ts.take K++G.ts.drop (K+1)).map (·.g))
  rw[this];exact ot
 ·have:=h.len;simp only[List.length_append,List.length_take,List.length_drop];omega
 ·intro i T p e1 e2
  dsimp only at e1 e2;rw[Ty_ hKG] at e1;rw[Ty_ hK] at e2
  by_cases hi:i<K
  ·rw[if_pos hi] at e1 e2
   exact(h.tier i T p e1 e2).keptS k (hgt T (mo_ e1))
  ·rw[if_neg hi] at e1 e2
   exact(h.tier _ T p e1 e2).keptS k (hgt T (mo_ e1))
 ·have h3:=h.ap
  rw[←List.take_append_drop K G.ts] at h3;obtain⟨a,b,c'⟩:=List.pairwise_append.1 h3
  have hd:G.ts.drop (K+1) =(G.ts.drop K).drop 1:=by rw[List.drop_drop]
  refine List.pairwise_append.2 ⟨a,?_,fun y hy z hz=>?_⟩
  ·rw[hd];exact b.sublist (List.drop_sublist _ _)
  ·rw[hd] at hz;exact c' y hy z (List.mem_of_mem_drop hz)
 ·have:=h1 i hi;have:=hlw U (Ho_ hU) i hf;omega
 ·have:=h2 i hi;have:=hlw U (Ho_ hU) i hf;omega
 ·rcases hi with hi|hi|hi|hi |⟨U,hU,hi⟩
  ·exact .inl (.inl hi)
  ·exact .inl (.inr (.inl hi))
  ·exact .inr (h1 i hi)
  ·exact .inr (h2 i hi)
  ·exact .inl (.inr (.inr (.inr (.inr ⟨U,Ho_ hU,hi⟩))))
theorem Vl_ (G:RshG) (c:Cfg) (t:List Int) (S:ShM) (win:Int) (w:World) (h:RSh w G c t S) (hts:S.ts.length≤1000000000) :
  Calls Tryz.prog 59 #[.pointer (some ⟨G.g,0,none⟩),.int .i64 win] w (fun e w'=>e=.returned (.bool (posW S.ws win).isSome)∧∃G',RSh w' G' c t (closeS S win)∧Mov G.F G'.F w w'∧G'.g=G.g):=by
 have H:=hh_ h;have hlen:=h.len
 have hwsl:S.ws.length=S.ts.length:=by simp[ShM.ws]
 have hgsl :(G.ts.map (·.g)).length=S.ts.length:=by simp[hlen]
 obtain⟨wa,wcp,hwv⟩:=h.wn.shape;obtain⟨ta,tcp,htv⟩:=h.tp.shape;have ow0:=h.wn;have ot0:=h.tp;have bw0:=h.blk;rw[hwv,htv] at bw0;rw[hwv] at ow0;rw[htv] at ot0;rw[hwsl] at bw0 ow0;rw[hgsl] at bw0 ot0;have OW:=hh_ ow0;have OT:=hh_ ot0;have BW:=hh_ bw0;have b0:=bw0.cell;have HC:=hh_ (show ∀i,posW S.ws win=some i→closeS S win =⟨S.queue,S.ts.take i++S.ts.drop (i+1)⟩ from fun i e=>by unfold closeS;rw[e]);have HC0:=hh_ (show posW S.ws win=none→closeS S win=S from fun e=>by unfold closeS;rw[e]);have HKT:=hh_ (show ∀k,k<S.ts.length→k<S.ts.length from fun _ h=>h);obtain⟨L,hL⟩:∃L,S.ts.length=L:=⟨_,rfl⟩;rw[hL] at hwsl hgsl OW OT BW b0 hts;have HL:=hh_ hL;obtain⟨W,hW⟩:∃W,S.ws=W:=⟨_,rfl⟩;rw[hW] at hwsl OW HC HC0;have HW:=hh_ hW;obtain⟨gs,hgs⟩:∃gs,G.ts.map (·.g)=gs:=⟨_,rfl⟩;rw[hgs] at hgsl OT;have HGs:=hh_ hgs;rw[hW];clear hL hW hgs ow0 ot0 bw0 h hlen HKT
 go_enter Tryz.func59,Tryz.ntmps59
 go_upto_region 2 with fail
 clear b0
 go_loopw [12] (fun s12 wk=>∃k:Nat,k≤L∧s12=.int .i64 k∧(∀j,j<k→W[j]?≠some win)∧w.grownBy wk none) (fun s12 _=>L-(RowKit.intOf s12).toNat)
 case atStart=>exact⟨0,Nat.zero_le _,rfl,fun j hj=>absurd hj (by omega),Ab_ _ _⟩
 case round=>
  obtain⟨k,hk,rfl,hn,hg⟩:=hrel;have HN:=hh_ hn;have HG:=hh_ hg
  by_cases hlt:k<L
  ·obtain⟨gw,cw,hv,_,_,_,hc,_⟩:=(OW.out.same hg).at_ A6_ (i:=k) (by rw[hwsl];exact hlt)
   rw[hwsl] at hv;cases hv;have ck:=hc 0 _ rfl;rw[Nat.mul_one,Nat.add_zero] at ck;have hp:W[k]?=some (W[k]'(by rw[hwsl];exact hlt)):=gq_ _;have HPk:=hh_ hp
   have hklt :(k:Int)<(L:Int):=by omega
   generalize W[k]'(by rw[hwsl];exact hlt)=x at *;clear hp hc hn
   by_cases hx:x=win
   ·subst hx
    have HPo:=hh_ (Ne_ (fun j hj=>HN.out j hj) HPk.out);have HBw:=hh_ (BW.out.same hg);have OWc:=hh_ (OW.out.same hg);have OTc:=hh_ (OT.out.same hg);have bb:=HBw.out.cell;clear hg BW OW OT
    go_upto_region 5 with fail
    clear bb ck
    have hKl:k≤W.length:=by omega
    have hKl1:k+1≤W.length:=by omega
    have KN:World.grownBy wr wr.drew none:=gw_;have HWD:=hh_ KN;obtain⟨N,hN⟩:∃N,wr.heap.size=N:=⟨_,rfl⟩;have HN2:=hh_ (show N≤wr.drew.heap.size from Nat.le_of_eq hN.symm)
    have hbN:G.g<N:=by have:=HBw.out.lt;omega
    have HB:=hh_ (HBw.out.same KN);have HO:=hh_ (OWc.out.same KN);have HOb:=hh_ (show ∀j,Value.ownBlock (.slice (some (⟨gw,0,none⟩:Addr)) L wcp)=some j→j<N from fun j hj=>by have:=(OWc.out.lt j hj).2;omega);obtain⟨P,hP⟩:∃P:List _→Prop,P=fun U=>U <+: W.take k++W.drop (k+1):=⟨_,rfl⟩;have HP0:=hh_ (show P [] by rw[hP];exact List.nil_prefix);have HP1:=hh_ (show P (W.take k) by rw[hP];exact List.prefix_append _ _);have HPF:=hh_ (show P (W.take k++W.drop (k+1)) by rw[hP];exact List.prefix_refl _);have HP2:=hh_ (show ∀U,P U→U.length≤(W.take k).length∨U <+: W.take k++W.drop (k+1)∨W.take k++W.drop (k+1) <+: U by rw[hP];exact fun U h=>.inr (.inl h));clear hP;have Hb1:=hh_ (show k =(W.take k).length by rw[List.length_take];omega);have Hb7:=hh_ (show L-(k+1) =(W.drop (k+1)).length by rw[List.length_drop];omega)
    have hb2 :(W.take k).length*8≤140737488355328:=by rw[←Hb1.out];omega
    have hb3 :(W.take k).length≤9223372036854775807:=by rw[←Hb1.out];omega
    have hb8 :((W.take k).length+(W.drop (k+1)).length)*8≤140737488355328:=by rw[←Hb1.out,←Hb7.out];omega
    have hb9 :(W.take k).length+(W.drop (k+1)).length≤9223372036854775807:=by rw[←Hb1.out,←Hb7.out];omega
    have hcap:=OWc.out.cap
    have hKc :(k:Int)≤(wcp:Int):=by omega
    have hKc1 :(k:Int)+1≤(wcp:Int):=by omega
    have hLc :(L:Int)≤(wcp:Int):=by omega
    have hLL:W.length=L:=by omega
    have HRD:=HO.out.rd.drop1 A6_ hKl1 (by omega) (wcp-(k+1));rw[hLL,Nat.zero_add] at HRD;replace HRD:=hh_ HRD;have hgN:=HOb.out gw rfl;have HRb:=hh_ (show ∀(a:Addr) (n' c':Nat),Value.slice (if wcp=k+1 then (some ⟨gw,0,none⟩:Option Addr) else some ⟨gw,k+1,none⟩) (L-(k+1)) (wcp-(k+1))=.slice (some a) n' c'→a.block<N from fun a n' c' e=>by split at e <;> (cases e;exact hgN))
    (refine Rg.wp_region_rgZ 19 #[] (Keep intF 1 3 N P) (fun _ _ _ _ _=>False) (by kernel_rfl) (by kernel_rfl) (Keep.refl _ _ _ _ _) (fun _ _ _ h k=>h.trans k) (fun _ _ _ _ _ h=>h) ?_;simp only[List.take,List.drop])
    generalize wr.drew=wd at *
    (refine tq_ 1 ?_;simp only[ts_,Nat.reduceAdd];(repeat(go_big_quiet_step (fail)));refine wpQuiet_nil ?_)
    (refine Rg.tree_op rfl rfl ?_;intro y1 my1 dy1)
    clear dy1;have z1:=lt_ HN2.out my1.grown.size
    go_wp2_with fail
    refine⟨Keep.of (ga_ _ _ _),?_⟩;have N1:=Aw_ (e:=3) intF 1 z1;generalize y1.alloc (.cells #[] 3)=e1 at *;generalize y1.heap.size=g1 at *
    (refine tq_ 3 ?_;simp only[ts_,Nat.reduceAdd];(repeat(go_big_quiet_step (fail)));refine wpQuiet_nil ?_)
    (refine Rg.tree_op rfl rfl ?_;intro y5 my5 dy5)
    clear dy5;have ax:=(my5.blk HB.out hbN).cell
    (try unfold Bm_ at ax)
    go_wp2_with fail
    refine⟨Keep.refl _ _ _ _ _ _,?_⟩;clear ax
    (refine tq_ 2 ?_;simp only[ts_,Nat.reduceAdd];(repeat(go_big_quiet_step (fail)));refine wpQuiet_nil ?_)
    (refine Rg.tree_op rfl rfl ?_;intro y8 my8 dy8)
    have N8:=(dy8.out 1 (by omega) (by kernel_rfl)).own [] _ HP0.out N1;have R8:=my8.rd (HO.out.rd.take A6_ hKl wcp) (fun _ a n c e=>by cases e;exact HOb.out _ rfl);have z8:=lt_ HN2.out my8.grown.size;clear dy8
    go_wp2_with (at_builtin;refine A2_ Bv_ Bt_ N8 R8 Hb1.out hb2 hb3 z8 (by rfl) _ _ (by rfl) (by rfl) (by rfl) ?_;intro v8 e8 o8 g8 l8;have Hg8:=hh_ g8;clear g8 l8)
    refine⟨Keep.of Hg8.out,?_⟩;clear N8 R8 z8 N1 my5 my1 z1
    (refine tq_ 3 ?_;simp only[ts_,Nat.reduceAdd];(repeat(go_big_quiet_step (fail)));refine wpQuiet_nil ?_)
    (refine Rg.tree_op rfl rfl ?_;intro y12 my12 dy12)
    clear dy12;have ax:=(my12.blk HB.out hbN).cell
    (try unfold Bm_ at ax)
    go_wp2_with fail
    refine⟨Keep.refl _ _ _ _ _ _,?_⟩;clear ax
    (refine tq_ 3 ?_;simp only[ts_,Nat.reduceAdd];(repeat(go_big_quiet_step (fail)));refine wpQuiet_nil ?_)
    generalize (if wcp=k+1 then (some ⟨gw,0,none⟩:Option Addr) else some ⟨gw,k+1,none⟩)=od at *
    (refine Rg.tree_op rfl rfl ?_;intro y16 my16 dy16)
    have N16:=(dy16.out 8 (by omega) (by kernel_rfl)).own _ _ HP1.out o8;have R16:=my16.rd HRD.out (fun _ a n c e=>HRb.out a n c e);have z16:=lt_ HN2.out my16.grown.size;clear dy16
    go_wp2_with (at_builtin;refine Bb_ Bv_ Bt_ (fun _=>rfl) N16 R16 Hb7.out hb8 hb9 z16 HP2.out (by rfl) _ _ (by rfl) (by rfl) (by rfl) ?_;intro v16 e16 o16 k16;have Hk16:=hh_ k16;clear k16)
    refine⟨Hk16.out,?_⟩;clear N16 R16 z16 o8 my12 my16
    (refine tq_ 2 ?_;simp only[ts_,Nat.reduceAdd];(repeat(go_big_quiet_step (fail)));refine wpQuiet_nil ?_)
    (refine Rg.tree_nil ?_;intro z mz dz cz)
    have OZ:=(dz.out 16 (by omega)).own _ _ HPF.out o16;have AZ:=mz.blk HB.out hbN;have GZ:=mz.grown;clear dz cz o16 Hg8 Hk16 mz
    have gz:wr.grownBy z none:=((GrownS.none_ (S:=fun i=>N≤i) (show wr.grownBy wd none from HWD.out)).trans GZ (fun _ hi _=>hi)).back fun i hi=>by omega
    have hNz:wr.heap.size≤z.heap.size:=gz.size;have HOZ:=hh_ (OZ.base fun j hj=>(show wr.heap.size≤j by have:=(OZ.lt j hj).1;omega));obtain⟨az19,cz19,hvz⟩:=OZ.shape;subst hvz;have HAZ:=hh_ AZ;have hgz:=hh_ gz;clear OZ AZ GZ gz;clear hN HN2 hbN HB HO HOb HP0 HP1 HPF HP2 Hb1 Hb7 hb2 hb3 hb8 hb9 hcap hKc hKc1 hLc HRD HRb KN hLL hKl hKl1;generalize hLF:W.take k++W.drop (k+1)=LF at *;have HLF:=hh_ hLF;clear hLF;generalize LF.length=nF at *;have az:=HAZ.out.cell;have fz:=HAZ.out.free
    go_upto_region 6 with fail
    have hs8:z.grownBy (z.setCell ⟨G.g,18,none⟩ (.slice az19 nF cz19)) (some G.g):=Ac_ (Ab_ z (some G.g)) 18 _;have hgw:G.g<wr.heap.size:=HBw.out.lt
    have hTg:∀j,(Value.slice ta L tcp).ownBlock=some j→j≠G.g:=fun j hj e=>H.out.n3 (by rw[htv];rw[show(G.ts.map (·.g)).length=L by rw[HGs.out];exact hgsl];show ownF _ G.g;unfold ownF;rw[hj,e])
    have HB8:=hh_ (HAZ.out.set_ 18 (.slice az19 nF cz19) rfl);have HOW8:=hh_ (HOZ.out.kept hs8 (fun j hj e=>by cases e;have:=(HOZ.out.lt _ hj).1;omega));have HOT8:=hh_ ((OTc.out.same hgz.out).kept hs8 (fun j hj e=>by cases e;exact hTg _ hj rfl));have hG8:=hh_ ((GrownS.none_ (S:=oneF G.g) (Aa_ HG.out hgz.out)).trans (GrownS.of (S:=oneF G.g) hs8 fun j e=>by cases e;rfl) (fun _ h _=>h));have hsz8:=hs8.size;clear az fz hs8 HAZ HOZ OTc OWc HBw hgz hTg;have hwcz:wr.heap.size≤(z.setCell ⟨G.g,18,none⟩ (.slice az19 nF cz19)).heap.size:=lt_ hNz hsz8;clear hsz8 hNz;generalize z.setCell ⟨G.g,18,none⟩ (.slice az19 nF cz19)=w8 at *;clear z;have HBw:=HB8;clear HB8
    have hKl:k≤gs.length:=by omega
    have hKl1:k+1≤gs.length:=by omega
    have KN:World.grownBy w8 w8.drew none:=gw_;have HWD:=hh_ KN;obtain⟨N,hN⟩:∃N,w8.heap.size=N:=⟨_,rfl⟩;have HN2:=hh_ (show N≤w8.drew.heap.size from Nat.le_of_eq hN.symm)
    have hbN:G.g<N:=by have:=HBw.out.lt;omega
    have HB:=hh_ (HBw.out.same KN);have HO:=hh_ (HOT8.out.same KN);have HOb:=hh_ (show ∀j,Value.ownBlock (.slice ta L tcp)=some j→j<N from fun j hj=>by have:=(HOT8.out.lt j hj).2;omega);obtain⟨P,hP⟩:∃P:List _→Prop,P=fun U=>U <+: gs.take k++gs.drop (k+1):=⟨_,rfl⟩;have HP0:=hh_ (show P [] by rw[hP];exact List.nil_prefix);have HP1:=hh_ (show P (gs.take k) by rw[hP];exact List.prefix_append _ _);have HPF:=hh_ (show P (gs.take k++gs.drop (k+1)) by rw[hP];exact List.prefix_refl _);have HP2:=hh_ (show ∀U,P U→U.length≤(gs.take k).length∨U <+: gs.take k++gs.drop (k+1)∨gs.take k++gs.drop (k+1) <+: U by rw[hP];exact fun U h=>.inr (.inl h));clear hP;have Hb1:=hh_ (show k =(gs.take k).length by rw[List.length_take];omega);have Hb7:=hh_ (show L-(k+1) =(gs.drop (k+1)).length by rw[List.length_drop];omega)
    have hb2 :(gs.take k).length*8≤140737488355328:=by rw[←Hb1.out];omega
    have hb3 :(gs.take k).length≤9223372036854775807:=by rw[←Hb1.out];omega
    have hb8 :((gs.take k).length+(gs.drop (k+1)).length)*8≤140737488355328:=by rw[←Hb1.out,←Hb7.out];omega
    have hb9 :(gs.take k).length+(gs.drop (k+1)).length≤9223372036854775807:=by rw[←Hb1.out,←Hb7.out];omega
    have hcap:=HOT8.out.cap
    have hKc :(k:Int)≤(tcp:Int):=by omega
    have hKc1 :(k:Int)+1≤(tcp:Int):=by omega
    have hLc :(L:Int)≤(tcp:Int):=by omega
    have hLL:gs.length=L:=by omega
    have HRD:=HO.out.rd.drop B9_ hKl1 (by omega) (tcp-(k+1));rw[hLL] at HRD;simp only[Nat.mul_one] at HRD;rw[Vi_] at HRD;replace HRD:=hh_ HRD;have HRb:=Cb_ (K:=k+1) (s:=1) (m:=L-(k+1)) (q:=tcp-(k+1)) HOb.out;simp only[Nat.mul_one] at HRb;rw[Vi_] at HRb;replace HRb:=hh_ HRb
    (refine Rg.wp_region_rgZ 19 #[] (Keep ptrF 1 181 N P) (fun _ _ _ _ _=>False) (by kernel_rfl) (by kernel_rfl) (Keep.refl _ _ _ _ _) (fun _ _ _ h k=>h.trans k) (fun _ _ _ _ _ h=>h) ?_;simp only[List.take,List.drop])
    generalize w8.drew=wd at *
    (refine tq_ 1 ?_;simp only[ts_,Nat.reduceAdd];(repeat(go_big_quiet_step (fail)));refine wpQuiet_nil ?_)
    (refine Rg.tree_op rfl rfl ?_;intro y1 my1 dy1)
    clear dy1;have z1:=lt_ HN2.out my1.grown.size
    go_wp2_with fail
    refine⟨Keep.of (ga_ _ _ _),?_⟩;have N1:=Aw_ (e:=181) ptrF 1 z1;generalize y1.alloc (.cells #[] 181)=e1 at *;generalize y1.heap.size=g1 at *
    (refine tq_ 3 ?_;simp only[ts_,Nat.reduceAdd];(repeat(go_big_quiet_step (fail)));refine wpQuiet_nil ?_)
    (refine Rg.tree_op rfl rfl ?_;intro y5 my5 dy5)
    clear dy5;have ax:=(my5.blk HB.out hbN).cell
    (try unfold Bm_ at ax)
    go_wp2_with fail
    refine⟨Keep.refl _ _ _ _ _ _,?_⟩;clear ax
    (refine tq_ 2 ?_;simp only[ts_,Nat.reduceAdd];(repeat(go_big_quiet_step (fail)));refine wpQuiet_nil ?_)
    (refine Rg.tree_op rfl rfl ?_;intro y8 my8 dy8)
    have N8:=(dy8.out 1 (by omega) (by kernel_rfl)).own [] _ HP0.out N1;have R8:=my8.rd (HO.out.rd.take B9_ hKl tcp) (fun _ a n c e=>by cases e;exact HOb.out _ rfl);have z8:=lt_ HN2.out my8.grown.size;clear dy8
    go_wp2_with (at_builtin;refine A2_ L2_ E3_ N8 R8 Hb1.out hb2 hb3 z8 (by rfl) _ _ (by rfl) (by rfl) (by rfl) ?_;intro v8 e8 o8 g8 l8;have Hg8:=hh_ g8;clear g8 l8)
    refine⟨Keep.of Hg8.out,?_⟩;clear N8 R8 z8 N1 my5 my1 z1
    (refine tq_ 3 ?_;simp only[ts_,Nat.reduceAdd];(repeat(go_big_quiet_step (fail)));refine wpQuiet_nil ?_)
    (refine Rg.tree_op rfl rfl ?_;intro y12 my12 dy12)
    clear dy12;have ax:=(my12.blk HB.out hbN).cell
    (try unfold Bm_ at ax)
    go_wp2_with fail
    refine⟨Keep.refl _ _ _ _ _ _,?_⟩;clear ax
    (refine tq_ 3 ?_;simp only[ts_,Nat.reduceAdd];(repeat(go_big_quiet_step (fail)));refine wpQuiet_nil ?_)
    generalize (if tcp=k+1 then ta else Option.map (fun x=>(⟨x.block,x.off+(k+1),none⟩:Addr)) ta)=od at *
    (refine Rg.tree_op rfl rfl ?_;intro y16 my16 dy16)
    have N16:=(dy16.out 8 (by omega) (by kernel_rfl)).own _ _ HP1.out o8;have R16:=my16.rd HRD.out (fun _ a n c e=>HRb.out a n c e);have z16:=lt_ HN2.out my16.grown.size;clear dy16
    go_wp2_with (at_builtin;refine Bb_ L2_ E3_ (fun _=>rfl) N16 R16 Hb7.out hb8 hb9 z16 HP2.out (by rfl) _ _ (by rfl) (by rfl) (by rfl) ?_;intro v16 e16 o16 k16;have Hk16:=hh_ k16;clear k16)
    refine⟨Hk16.out,?_⟩;clear N16 R16 z16 o8 my12 my16
    (refine tq_ 2 ?_;simp only[ts_,Nat.reduceAdd];(repeat(go_big_quiet_step (fail)));refine wpQuiet_nil ?_)
    (refine Rg.tree_nil ?_;intro z mz dz cz)
    have OZ:=(dz.out 16 (by omega)).own _ _ HPF.out o16;have AZ:=mz.blk HB.out hbN;have GZ:=mz.grown;clear dz cz o16 Hg8 Hk16 mz
    have gz:w8.grownBy z none:=((GrownS.none_ (S:=fun i=>N≤i) (show w8.grownBy wd none from HWD.out)).trans GZ (fun _ hi _=>hi)).back fun i hi=>by omega
    have HOZ:=hh_ (OZ.base fun j hj=>(show w8.heap.size≤j by have:=(OZ.lt j hj).1;omega));obtain⟨az2,cz2,hvz⟩:=OZ.shape;subst hvz;have HAZ:=hh_ AZ;have hgz:=hh_ gz;clear OZ AZ GZ gz;generalize hLF2:gs.take k++gs.drop (k+1)=LF2 at *;have HLF2:=hh_ hLF2;clear hLF2;generalize LF2.length=nF2 at *;have az:=HAZ.out.cell;have fz:=HAZ.out.free;have hs9:z.grownBy (z.setCell ⟨G.g,19,none⟩ (.slice az2 nF2 cz2)) (some G.g):=Ac_ (Ab_ z (some G.g)) 19 _;have hgw8:G.g<w8.heap.size:=HBw.out.lt;have OW9:=(HOW8.out.same hgz.out).kept hs9 (fun j hj e=>by cases e;have:=(HOW8.out.lt _ hj).1;omega);have OT9:=HOZ.out.kept hs9 (fun j hj e=>by cases e;have:=(HOZ.out.lt _ hj).1;omega);have k9:GrownS (oneF G.g) w (z.setCell ⟨G.g,19,none⟩ (.slice az2 nF2 cz2)):=hG8.out.trans ((GrownS.none_ (S:=oneF G.g) hgz.out).trans (GrownS.of (S:=oneF G.g) hs9 fun j e=>by cases e;rfl) (fun _ h _=>h)) (fun _ h _=>h);have hww:=HG.out.size
    obtain⟨R9,M9⟩:=H.out.del (w':=z.setCell ⟨G.g,19,none⟩ (.slice az2 nF2 cz2)) k9 (K:=k) (by rw[HL.out];exact hlt) (HAZ.out.set_ 19 (.slice az2 nF2 cz2) rfl)
     (by rw[HW.out,HLF.out];exact OW9.zero) (by rw[HGs.out,HLF2.out];exact OT9.zero)
     (fun j hj=>by have:=(HOW8.out.lt j hj).1;omega) (fun j hj=>by have:=(HOZ.out.lt j hj).1;omega)
    have HR9:=hh_ R9;have HM9:=hh_ M9;clear R9 M9 OW9 OT9 k9 hs9
    go_wp2_with fail
    go_ret
    exact⟨by rw[HPo.out];rfl,_,by rw[HC.out _ HPo.out];exact HR9.out,HM9.out,rfl⟩
   ·have hx' :(x==win)=false:=beq_eq_false_iff_ne.2 hx
    have HX:=hh_ hx;clear hx
    go_wp2_with fail
    refine⟨⟨k+1,by omega,by go_num,fun j hj=>?_,HG.out⟩,by simp[RowKit.intOf];omega⟩
    by_cases hj2:j=k
    ·subst hj2;rw[HPk.out];intro e;exact HX.out (Option.some.inj e)
    ·exact HN.out j (by omega)
  ·obtain rfl:k=L:=by omega
   have HPo:=hh_ (show posW W win=none by
    rw[Hg_];intro hm;obtain⟨j,hj,e⟩:=List.getElem_of_mem hm
    exact hn j (by rw[←hwsl];exact hj) (by rw[gq_ hj,e]))
   have hnn:¬(k:Int)<(k:Int):=by omega
   clear hn hlt
   go_wp2_with fail
   go_ret
   exact⟨by rw[HPo.out];rfl,G,by rw[HC0.out HPo.out];exact H.out.same HG.out,Mov.same HG.out,rfl⟩
end
section
open Go.RowKit
structure Ls_ {α:Type} (R:World→α→Prop) (Bl:α→Fp):Prop where
 keep:∀{w w':World} {S:Fp} {x:α},R w x→GrownS S w w'→(∀i,Bl x i→¬S i)→R w' x
 low:∀{w:World} {x:α},R w x→Low w (Bl x)
structure Bo_ {α:Type} (f:α→List Value) (n:Nat) (e:TypeId) (R:World→α→Prop) (Bl:α→Fp) (lo:Nat) (w:World) (v:Value) (l:List α):Prop where
 own:Own f n e lo w v l
 all:∀x∈l,R w x∧(∀i,Bl x i→lo≤i)∧∀k,v.ownBlock=some k→¬Bl x k
section
variable {α:Type} {f:α→List Value} {n:Nat} {e:TypeId} {R:World→α→Prop} {Bl:α→Fp} {lo:Nat} {w w':World} {v v':Value} {l:List α} {x:α}
theorem Bo_.nil (lo:Nat) (w:World):Bo_ f n e R Bl lo w (.slice none 0 0) []:=⟨Own.nil _ _ _ _ _,by simp⟩
theorem Bo_.keptS {S:Fp} (K:Ls_ R Bl) (h:Bo_ f n e R Bl lo w v l) (hg:GrownS S w w') (hS:∀i,S i→i<lo∨w.heap.size≤i):Bo_ f n e R Bl lo w' v l:=by
 refine⟨h.own.keptS hg (fun k hk hs=>by have:=h.own.lt k hk;have:=hS k hs;omega),fun x hx=>?_⟩;obtain⟨h1,h2,h3⟩:=h.all x hx;exact⟨K.keep h1 hg fun i hi hs=>by have:=hS i hs;have:=h2 i hi;have:=K.low h1 i hi;omega,h2,h3⟩
theorem Bo_.kept (K:Ls_ R Bl) {r:Option Nat} (h:Bo_ f n e R Bl lo w v l) (hg:w.grownBy w' r) (hr:∀k,r=some k→k<lo):Bo_ f n e R Bl lo w' v l:=
 h.keptS K (GrownS.of (S:=fun i=>r=some i) hg fun k hk=>hk) fun i hi=>.inl (hr i hi)
theorem Bo_.same (K:Ls_ R Bl) (h:Bo_ f n e R Bl lo w v l) (hg:w.grownBy w' none):Bo_ f n e R Bl lo w' v l:=h.kept K hg (by simp)
theorem Bo_.base {lo':Nat} (h:Bo_ f n e R Bl lo w v l) (hl:lo'≤lo):Bo_ f n e R Bl lo' w v l:=
 ⟨h.own.base fun k hk=>lt_ hl (h.own.lt k hk).1,fun o ho=>⟨(h.all o ho).1,fun i hi=>lt_ hl ((h.all o ho).2.1 i hi),(h.all o ho).2.2⟩⟩
theorem Bo_.rdAll (h:Bo_ f n e R Bl lo w v l):RdL f n w v l∧∀x∈l,R w x:=⟨h.own.rd,fun x hx=>(h.all x hx).1⟩
theorem Bo_.snoc (K:Ls_ R Bl) (h:Bo_ f n e R Bl lo w v l) (h1:R w x) (h2:∀i,Bl x i→lo≤i) (hx:∀k,v.ownBlock=some k→¬Bl x k)
  (ho:Own f n e lo w' v' (l++[x])) (hg:w.grownBy w' v.ownBlock) (hL:Lies v v' w.heap.size):Bo_ f n e R Bl lo w' v' (l++[x]):=by
 have hnew:∀y,Low w (Bl y)→(∀k,v.ownBlock=some k→¬Bl y k)→∀k,v'.ownBlock=some k→¬Bl y k:=fun y hi hs k hk=>by
  rcases hL with e |⟨m,e1,e2⟩
  ·exact hs k (e▸hk)
  ·rw[e1] at hk;cases hk;intro hb;have:=hi _ hb;omega
 have hk:∀y,R w y→(∀k,v.ownBlock=some k→¬Bl y k)→R w' y:=fun y hy hs=>K.keep hy (GrownS.of (S:=fun i=>v.ownBlock=some i) hg fun k hk=>hk) fun i hi hs'=>hs i hs' hi
 refine⟨ho,fun y hy=>?_⟩
 rcases ma_ hy with hy|hy
 ·obtain⟨a1,a2,a3⟩:=h.all y hy
  exact⟨hk y a1 a3,a2,hnew y (K.low a1) a3⟩
 ·obtain rfl:=ms_ hy
  exact⟨hk y h1 hx,h2,hnew y (K.low h1) hx⟩
theorem Bo_.snocN (K:Ls_ R Bl) {N:Nat} (h:Bo_ f n e R Bl lo w v l) (h1:R w x) (hN:lo≤N) (h2:∀i,Bl x i→N≤i) (hv:∀k,v.ownBlock=some k→k<N)
  (ho:Own f n e lo w' v' (l++[x])) (hg:w.grownBy w' v.ownBlock) (hL:Lies v v' w.heap.size):Bo_ f n e R Bl lo w' v' (l++[x]):=
 h.snoc K h1 (fun i hi=>lt_ hN (h2 i hi)) (fun k hk hb=>by have:=hv k hk;have:=h2 k hb;omega) ho hg hL
end
end
section
open Go.RowKit Go.Sort
structure ChR where
 (vb:Value) (m:ChM)
def chF (x:ChR):List Value:=[x.vb,.int .i64 x.m.ver]
theorem Jh_ (x:ChR) :(chF x).length=2:=rfl
theorem Ss_:Elt 108 112 (.agg #[.slice none 0 0,.int .i64 0]) 2 32:=⟨Tryz.underlying108,by kernel_rfl,rfl,by decide⟩
def ChRd (w:World) (x:ChR):Prop:=Own byF 1 5 0 w x.vb x.m.body
theorem chK:Ls_ ChRd (fun x:ChR=>ownF x.vb):=⟨fun h k ho=>h.offS k ho,fun h=>h.low⟩
abbrev ChsG (lo:Nat) (w:World) (v:Value) (l:List ChR):Prop:=Bo_ chF 2 112 ChRd (fun x:ChR=>ownF x.vb) lo w v l
structure StF (w0:World) (q:Nat) (S:StrM) (vb vo:Value) (l:List ChR) (w:World):Prop where
 box:Blk w q #[vb,.int .u64 S.skip,.bool S.broken]
 res:Blk w (q+1) #[.slice none 0 0,.int .u64 0,.bool false]
 buf:Own byF 1 5 (q+2) w vb S.buf
 out:ChsG (q+2) w vo l
 a1:Fa_ vb vo
 a2:∀x∈l,∀k,vb.ownBlock=some k→¬ownF x.vb k
 G:w0.grownBy w none
 hq:w0.heap.size=q
section
variable {w0 w w':World} {q:Nat} {S:StrM} {vb vo v':Value} {l:List ChR}
theorem StF.same (h:StF w0 q S vb vo l w) (hg:w.grownBy w' none):StF w0 q S vb vo l w':=
 ⟨h.box.same hg,h.res.same hg,h.buf.same hg,h.out.same chK hg,h.a1,h.a2,Aa_ h.G hg,h.hq⟩
theorem StF.put (h:StF w0 q S vb vo l w) (hg:w.grownBy w' (some q)) (S':StrM) (hb:Blk w' q #[v',.int .u64 S'.skip,.bool S'.broken]) (hv :(v'=vb∧S'.buf=S.buf)∨(v'=.slice none 0 0∧S'.buf=[])):StF w0 q S' v' vo l w':=by
 have h1:=h.hq;refine⟨hb,h.res.kept hg (by simp),?_,h.out.kept chK hg (fun k e=>by cases e;omega),?_,?_,Af_ h.G hg (by omega),h1⟩
 ·rcases hv with⟨rfl,e⟩ |⟨rfl,e⟩
  ·rw[e];exact h.buf.kept hg (fun k hk e=>by cases e;have:=(h.buf.lt _ hk).1;omega)
  ·rw[e];exact Own.nil _ _ _ _ _
 ·rcases hv with⟨rfl,e⟩ |⟨rfl,e⟩
  ·exact h.a1
  ·exact Dn_ _
 ·rcases hv with⟨rfl,e⟩ |⟨rfl,e⟩
  ·exact h.a2
  ·intro x _ k hk;simp[Value.ownBlock] at hk
theorem StF.app (h:StF w0 q S vb vo l w) {b:List UInt8} (o:Own byF 1 5 (q+2) w' v' b) (hg:w.grownBy w' vb.ownBlock) (hL:Lies vb v' w.heap.size) :
  Blk w' q #[vb,.int .u64 S.skip,.bool S.broken]∧StF w0 q { S with buf:=b } v' vo l (w'.setCell ⟨q,0,none⟩ v'):=by
 have h1:=h.hq
 have hlo:∀k,vb.ownBlock=some k→q+2≤k:=fun k hk=>(h.buf.lt k hk).1
 have hb:=h.box.kept hg (fun e=>by have:=hlo _ e;omega);have hs:w'.grownBy (w'.setCell ⟨q,0,none⟩ v') (some q):=Ac_ (Ab_ w' (some q)) 0 v'
 have hout:ChsG (q+2) w' vo l:=by
  refine⟨h.out.own.kept hg (fun k hk e=>h.a1 _ e hk),fun x hx=>?_⟩;obtain⟨a,b,c⟩:=h.out.all x hx;exact⟨Own.offS a (GrownS.of (S:=fun i=>vb.ownBlock=some i) hg fun k hk=>hk) (fun i hi hs=>h.a2 x hx i hs hi),b,c⟩
 refine⟨hb,hb.set_ 0 v' rfl,(h.res.kept hg (fun e=>by have:=hlo _ e;omega)).kept hs (by simp),o.kept hs (fun k hk e=>by cases e;have:=(o.lt _ hk).1;omega),hout.kept chK hs (fun k e=>by cases e;omega),?_,?_,Af_ (Ao_ h.G h.buf (by omega) hg) hs (by omega),h1⟩
 ·exact Fa_.app h.a1 (fun k hk=>(h.out.own.lt k hk).2) hL
 ·intro x hx k hk
  rcases hL with e |⟨m,e1,e2⟩
  ·exact h.a2 x hx k (e▸hk)
  ·rw[e1] at hk;cases hk;intro hb';have:=Own.low (h.out.all x hx).1 _ hb';omega
theorem StF.chunk (h:StF w0 q S vb vo l w) {x:ChR} (hx:ChRd w x) (hlo:∀k,ownF x.vb k→q+2≤k) (hxo:∀k,vo.ownBlock=some k→¬ownF x.vb k) (hxb:∀k,vb.ownBlock=some k→¬ownF x.vb k)
  (o:Own chF 2 112 (q+2) w' v' (l++[x])) (hg:w.grownBy w' vo.ownBlock) (hL:Lies vo v' w.heap.size):StF w0 q S vb v' (l++[x]) w':=by
 have h1:=h.hq
 have hlo2:∀k,vo.ownBlock=some k→q+2≤k:=fun k hk=>(h.out.own.lt k hk).1
 refine⟨h.box.kept hg (fun e=>by have:=hlo2 _ e;omega),h.res.kept hg (fun e=>by have:=hlo2 _ e;omega),h.buf.kept hg (fun k hk e=>h.a1 _ hk e),h.out.snoc chK hx hlo hxo o hg hL,?_,?_,Ao_ h.G h.out.own (by omega) hg,h1⟩
 ·exact(Fa_.app h.a1.symm (fun k hk=>(h.buf.lt k hk).2) hL).symm
 ·intro y hy k hk
  rcases ma_ hy with hy|hy
  ·exact h.a2 y hy k hk
  ·rw[ms_ hy];exact hxb k hk
end
def chsF (v:Value) (l:List ChR):Fp:=fun i=>ownF v i∨∃x∈l,ownF x.vb i
theorem ChsG.low {lo:Nat} {w:World} {v:Value} {l:List ChR} (h:ChsG lo w v l):Low w (chsF v l):=fun i hi=>hi.elim (h.own.low i) fun⟨x,hx,hi⟩=>Own.low (h.all x hx).1 i hi
theorem ChsG.offS {lo:Nat} {w w':World} {v:Value} {l:List ChR} {S:Fp} (h:ChsG lo w v l) (k:GrownS S w w') (ho:Off (chsF v l) S):ChsG lo w' v l:=
 ⟨h.own.offS k (ho.left fun i hi=>.inl hi),fun x hx=>⟨Own.offS (h.all x hx).1 k (ho.left fun i hi=>.inr ⟨x,hx,hi⟩),(h.all x hx).2⟩⟩
theorem ChsG.ge {lo:Nat} {w:World} {v:Value} {l:List ChR} (h:ChsG lo w v l):∀i,chsF v l i→lo≤i:=fun i hi=>hi.elim (fun e=>(h.own.lt i e).1) fun⟨x,hx,e⟩=>(h.all x hx).2.1 i e
def FeedP (S:StrM) (p:List UInt8) (w:World) (en:Ending) (w':World):Prop:=
 ∃vb vo l,en=.returned (.tuple #[.agg #[vb,.int .u64 (strF S p).1.skip,.bool (strF S p).1.broken],vo])∧Own byF 1 5 w.heap.size w' vb (strF S p).1.buf∧ChsG w.heap.size w' vo l∧l.map (·.m) =(strF S p).2∧Off (chsF vo l) (ownF vb)∧w.grownBy w' none
theorem aq_ (S0:StrM) (v0:Value) (v:Value) (p:List UInt8) (w:World) (h0:RdL byF 1 w v0 S0.buf) (hS:StrOk S0) (h:RdL byF 1 w v p) (hl:p.length≤1000000) :
  Calls Tryz.prog 46 #[.agg #[v0,.int .u64 S0.skip,.bool S0.broken],v] w (FeedP S0 p w):=by
 obtain⟨a0,c0,rfl⟩:=h0.shape;obtain⟨a,c,rfl⟩:=h.shape;have H:=hh_ h;have HS:=hh_ hS
 have hb1:S0.buf.length*1≤140737488355328:=by have:=hS.len;omega
 have hb2:S0.buf.length≤9223372036854775807:=by have:=hS.len;omega
 go_enter Tryz.func46,Tryz.ntmps46
 go_upto_region 1 with fail
 have A1:=Blk.new w #[.slice a0 S0.buf.length c0,.int .u64 S0.skip,.bool S0.broken] 70;have A2:Blk ((w.alloc (.cells #[.slice a0 S0.buf.length c0,.int .u64 S0.skip,.bool S0.broken] 70)).alloc (.cells #[.slice none 0 0,.int .u64 0,.bool false] 70)) (w.heap.size+1) #[.slice none 0 0,.int .u64 0,.bool false]:=Blk.new' _ _ _ (by simp);have g2:=ga_ (w.alloc (.cells #[.slice a0 S0.buf.length c0,.int .u64 S0.skip,.bool S0.broken] 70)) (.cells #[.slice none 0 0,.int .u64 0,.bool false] 70) none;have g1:=ga_ w (.cells #[.slice a0 S0.buf.length c0,.int .u64 S0.skip,.bool S0.broken] 70) none
 have hz2 :((w.alloc (.cells #[.slice a0 S0.buf.length c0,.int .u64 S0.skip,.bool S0.broken] 70)).alloc (.cells #[.slice none 0 0,.int .u64 0,.bool false] 70)).heap.size=w.heap.size+2:=by simp
 have B2:=A1.same g2;have G2:=Aa_ g1 g2;have R2:=h0.same G2;clear A1 g1 g2 h0 h;generalize (w.alloc (.cells #[.slice a0 S0.buf.length c0,.int .u64 S0.skip,.bool S0.broken] 70)).alloc (.cells #[.slice none 0 0,.int .u64 0,.bool false] 70)=w2 at *;generalize hq:w.heap.size=q at *;have HQ:=hh_ hq;clear hq;have N3:=Aw_ (e:=5) byF 1 (Nat.le_refl w2.heap.size);have g3:=ga_ w2 (.cells #[] 5) none;have R3:=RdL.same R2 g3;have B3:=B2.same g3;have A3:=A2.same g3;have G3:=Aa_ G2 g3;have b3:=B3.cell;have hz3:w2.heap.size≤(w2.alloc (.cells #[] 5)).heap.size:=g3.size;have f3:=B3.free;have HG3:=hh_ G3;have Hz2:=hh_ hz2;clear G3 G2 g3 R2 A2 B2 hz2
 go_upto_region 2 with(at_builtin;refine A2_ Do_ Dp_ N3 R3 rfl hb1 hb2 hz3 (by rfl) _ _ (by rfl) (by rfl) (by rfl) ?_;intro v4 w4 o4 g4 l4;obtain⟨a4,c4,rfl⟩:=o4.shape;have b4:=(B3.same g4).cell;have f4:=(B3.same g4).free)
 have hs:w4.grownBy (w4.setCell ⟨q,0,none⟩ (.slice a4 S0.buf.length c4)) (some q):=Ac_ (Ab_ w4 (some q)) 0 _;have hz22:=Hz2.out
 have D0:=hh_ (show StF w q S0 (.slice a4 S0.buf.length c4) (.slice none 0 0) [] (w4.setCell ⟨q,0,none⟩ (.slice a4 S0.buf.length c4)) from
  ⟨(B3.same g4).set_ 0 _ rfl,(A3.same g4).kept hs (by simp),(o4.base fun k hk=>by have:=(o4.lt k hk).1;omega).kept hs (fun k hk e=>by cases e;have:=(o4.lt _ hk).1;omega),Bo_.nil _ _,(Dn_ _).symm,by simp,Af_ (Aa_ HG3.out g4) hs (by have:=HQ.out;omega),HQ.out⟩)
 clear b4 f4 b3 f3 hs A3 B3 N3 R3 o4 g4 l4 hz3 HG3 hz22 Hz2;generalize w4.setCell ⟨q,0,none⟩ (.slice a4 S0.buf.length c4)=w5 at *;clear w4
 go_upto_region 4 with fail
 go_loopw [6,19] (fun s6 s19 wk=>∃(k:Nat) (vb:Value) (l:List ChR),k≤p.length∧s19=.int .i64 k∧StF w q (strF S0 (p.take k)).1 vb s6 l wk∧l.map (·.m) =(strF S0 (p.take k)).2) (fun _ s19 _=>p.length-(RowKit.intOf s19).toNat)
 case atStart=>exact⟨0,_,[],Nat.zero_le _,rfl,D0.out,rfl⟩
 case round=>
  clear D0;obtain⟨k,vb,l,hk,rfl,hD,hm⟩:=hrel
  by_cases hlt:k<p.length
  ·obtain⟨hok,hch,hcl⟩:=Jo_ HS.out p k hk
   have HN:=hh_ (Hx_ S0 hlt);have HM:=hh_ hm;have HD:=hh_ hD
   have hll:l.length≤k:=by have:=congrArg List.length hm;simp at this;omega
   obtain⟨g,off,cap,hv,hgl,hc⟩:=(RdL.same H.out hD.G).at_ Bn_ hlt;cases hv;have c0:=hc 0 _ rfl;rw[Nat.mul_one,Nat.add_zero] at c0;obtain⟨b,hb⟩:∃b,p[k]=b:=⟨_,rfl⟩;rw[hb] at c0 HN;obtain⟨ba,bc,rfl⟩:=hD.buf.shape;obtain⟨oa,oc,rfl⟩:=hD.out.own.shape;obtain⟨SF,hSF⟩:∃SF,strF S0 (p.take k)=SF:=⟨_,rfl⟩;rw[hSF] at hok hch hcl HN HM HD hD;clear hb hgl hc hm hSF;obtain⟨⟨B,K,R⟩,C⟩:=SF;dsimp only at hok hch hcl HN HM HD hD;have b1:=hD.box.cell;have f1:=hD.box.free;have hK:=hok.skip;have hBl:=hok.len;dsimp only at hK hBl;clear hD hok hch;cases R
   ·by_cases hsk:0<K
    ·have HS1:=hh_ (show strS ⟨B,K,false⟩ b =(⟨B,K-1,false⟩,[]) by unfold strS;rw[if_neg (by simp),if_pos hsk])
     have hwr:IntKind.u64.wrap (K-1)=K-1:=IntWalk.u64_in _ (by omega);have hg:=Ac_ (Ab_ wr (some q)) 1 (.int .u64 (K-1));have D2:=hh_ (HD.out.put hg ⟨B,K-1,false⟩ (v':=.slice ba B.length bc) (HD.out.box.set_ 1 _ rfl) (.inl ⟨rfl,rfl⟩))
     go_wp2_with fail
     refine⟨⟨k+1,.slice ba B.length bc,l,by omega,by go_num,?_,?_⟩,by simp[RowKit.intOf];omega⟩
     ·rw[HN.out,HS1.out];exact D2.out
     ·rw[HN.out,HS1.out];simpa using HM.out
    ·obtain rfl:K=0:=by omega
     obtain⟨n,u,e,hX⟩:∃n u e,readF (B++[b]) =(n,u,e):=⟨_,_,_,rfl⟩;have hu1:=E5_ (B++[b]);have hn1:=Ei_ (B++[b])
     have HS1:=hh_ (show strS ⟨B,0,false⟩ b =(if e=3 then (⟨[],0,true⟩,[⟨[],1⟩]) else if e=0∧4096<n then (⟨[],n,false⟩,[⟨[],2⟩]) else if e=0∧n≤(B++[b]).length-u then (⟨[],0,false⟩,[⟨((B++[b]).drop u).take n,0⟩]) else (⟨B++[b],0,false⟩,[])) by
      unfold strS;rw[if_neg (by simp),if_neg (by omega)];dsimp only
      rw[hX])
     rw[hX] at hu1 hn1;dsimp only at hu1 hn1;have CR:=hh_ (show ∀v' w',RdL byF 1 w' v' (B++[b])→Calls Tryz.prog 81 #[v'] w' (fun en w2=>en=.returned (.tuple #[.int .u64 n,.int .i64 u,.int .i64 e])∧w'.grownBy w2 none) from fun v' w' h=>by have:=M2_ v' _ w' h;rw[hX] at this;exact this)
     have hb3 :(B.length+1)*1≤140737488355328:=by omega
     have hb4:B.length+1≤9223372036854775807:=by omega
     have hbs:q+2≤wr.heap.size:=HD.out.res.lt;have Hcs:=hh_ (show(#[Value.int .u8 (b.toNat:Int)]:Array Value).toList=byF b from rfl);clear hX hsk
     go_upto_region 10 with(at_builtin;refine A5_ Do_ Dp_ Bn_ HD.out.buf b hb3 hb4 hbs Hcs.out (by rfl) _ _ (by rfl) (by rfl) (by rfl) ?_;intro v4 w4 o4 g4 l4;obtain⟨a4,c4,rfl⟩:=o4.shape;obtain⟨b4,D4⟩:=HD.out.app o4 g4 l4;have ac4:=b4.cell;have af4:=b4.free)
     simp only[List.length_append,List.length_singleton] at D4;have HD4:=hh_ D4
     have hLB :(B++[b]).length=B.length+1:=by simp
     clear b4 D4 ac4 af4 o4 g4 l4 b1 f1 HD hb3 hb4 hbs Hcs c0;generalize w4.setCell ⟨q,0,none⟩ (.slice a4 (B.length+1) c4)=w5' at *;generalize B++[b]=LB at *;clear w4;have bb1:=HD4.out.box.cell
     go_upto_region 11 with(go_at_call 81;refine(CR.out _ _ HD4.out.buf.rd).mono ?_;rintro en w6 ⟨rfl,g6⟩)
     have D6:=hh_ (HD4.out.same g6);clear bb1 HD4 g6 CR;have hbs6:q+2≤w6.heap.size:=D6.out.res.lt
     have hcb3 :(l.length+1)*32≤140737488355328:=by omega
     have hcb4:l.length+1≤9223372036854775807:=by omega
     have bb1:=D6.out.box.cell;have bf1:=D6.out.box.free;have hnil:∀k,¬ownF (.slice none 0 0) k:=Ax_;have HNIL:=hh_ hnil;clear hnil
     by_cases e3:e=3
     ·subst e3
      have HS2:=hh_ (HS1.out.trans (if_pos rfl));have Hcs:=hh_ (show(#[Value.slice none 0 0,.int .i64 1]:Array Value).toList=chF ⟨.slice none 0 0,⟨[],1⟩⟩ from rfl);clear HS1
      go_upto_region 13 with(at_builtin;refine Bw_ Ss_ Jh_ D6.out.out.own ⟨.slice none 0 0,⟨[],1⟩⟩ (by intro u hu;simp[chF] at hu;rcases hu with rfl|rfl <;> rfl) hcb3 hcb4 hbs6 Hcs.out (by rfl) _ _ (by rfl) (by rfl) (by rfl) ?_;intro v7 w7 o7 g7 l7;obtain⟨a7,c7,rfl⟩:=o7.shape)
      have D7:=hh_ (D6.out.chunk (x:=⟨.slice none 0 0,⟨[],1⟩⟩) (Own.nil _ _ _ _ _) (fun k h=>absurd h (HNIL.out k)) (fun k _ h=>HNIL.out k h) (fun k _ h=>HNIL.out k h) o7 g7 l7);replace D7:=D7.out;simp only[List.length_append,List.length_singleton] at D7;replace D7:=hh_ D7;clear D6 bb1 bf1 o7 g7 l7;have bb1:=D7.out.box.cell;have bf1:=D7.out.box.free;have hg:w7.grownBy (((w7.setCell ⟨q,0,none⟩ (.slice none 0 0)).setCell ⟨q,1,none⟩ (.int .u64 0)).setCell ⟨q,2,none⟩ (.bool true)) (some q):=Ac_ (Ac_ (Ac_ (Ab_ _ _) _ _) _ _) _ _;have D8:=hh_ (D7.out.put hg ⟨[],0,true⟩ (v':=.slice none 0 0) (((D7.out.box.set_ 0 _ rfl).set_ 1 _ rfl).set_ 2 _ rfl) (.inr ⟨rfl,rfl⟩))
      go_wp2_with fail
      refine⟨⟨k+1,.slice none 0 0,l++[⟨.slice none 0 0,⟨[],1⟩⟩],by omega,by go_num,?_,?_⟩,by simp[RowKit.intOf];omega⟩
      ·rw[HN.out,HS2.out];exact D8.out
      ·rw[HN.out,HS2.out,List.map_append,HM.out];rfl
     ·have HS3:=hh_ (HS1.out.trans (if_neg e3))
      have e3' :(e==3)=false:=by simp[e3]
      clear HS1 e3
      by_cases e0:e=0
      ·subst e0
       by_cases hbig:4096<n
       ·have HS2:=hh_ (HS3.out.trans (if_pos ⟨rfl,hbig⟩))
        have Hcs:=hh_ (show(#[Value.slice none 0 0,.int .i64 2]:Array Value).toList=chF ⟨.slice none 0 0,⟨[],2⟩⟩ from rfl)
        have hbig':4096<(n:Int):=by omega
        clear HS3
        go_upto_region 16 with(at_builtin;refine Bw_ Ss_ Jh_ D6.out.out.own ⟨.slice none 0 0,⟨[],2⟩⟩ (by intro u hu;simp[chF] at hu;rcases hu with rfl|rfl <;> rfl) hcb3 hcb4 hbs6 Hcs.out (by rfl) _ _ (by rfl) (by rfl) (by rfl) ?_;intro v7 w7 o7 g7 l7;obtain⟨a7,c7,rfl⟩:=o7.shape)
        have D7:=hh_ (D6.out.chunk (x:=⟨.slice none 0 0,⟨[],2⟩⟩) (Own.nil _ _ _ _ _) (fun k h=>absurd h (HNIL.out k)) (fun k _ h=>HNIL.out k h) (fun k _ h=>HNIL.out k h) o7 g7 l7);replace D7:=D7.out;simp only[List.length_append,List.length_singleton] at D7;replace D7:=hh_ D7;clear D6 bb1 bf1 o7 g7 l7;have bb1:=D7.out.box.cell;have bf1:=D7.out.box.free;have hg:w7.grownBy (((w7.setCell ⟨q,0,none⟩ (.slice none 0 0)).setCell ⟨q,1,none⟩ (.int .u64 n)).setCell ⟨q,2,none⟩ (.bool false)) (some q):=Ac_ (Ac_ (Ac_ (Ab_ _ _) _ _) _ _) _ _;have D8:=hh_ (D7.out.put hg ⟨[],n,false⟩ (v':=.slice none 0 0) (((D7.out.box.set_ 0 _ rfl).set_ 1 _ rfl).set_ 2 _ rfl) (.inr ⟨rfl,rfl⟩))
        go_wp2_with fail
        refine⟨⟨k+1,.slice none 0 0,l++[⟨.slice none 0 0,⟨[],2⟩⟩],by omega,by go_num,?_,?_⟩,by simp[RowKit.intOf];omega⟩
        ·rw[HN.out,HS2.out];exact D8.out
        ·rw[HN.out,HS2.out,List.map_append,HM.out];rfl
       ·have hbig' :(n:Int)≤4096:=by omega
        have HS4:=hh_ (HS3.out.trans (if_neg (by omega)));have hwr:IntKind.u64.wrap ((B.length:Int)+1-u) =(B.length:Int)+1-u:=IntWalk.u64_in _ (by omega);have hwi:IntKind.i64.wrap (n:Int)=n:=IntWalk.i64_in _ (by omega);clear HS3 hbig
        by_cases hfull:n≤LB.length-u
        ·have HS2:=hh_ (HS4.out.trans (if_pos ⟨rfl,hfull⟩))
         have hfull' :(n:Int)≤(B.length:Int)+1-u:=by omega
         clear HS4;have HB6:Own byF 1 5 (q+2) w6 (.slice a4 (B.length+1) c4) LB:=D6.out.buf
         have hcap4:B.length+1≤c4:=by have:=HB6.cap;omega
         have huB:u≤LB.length:=hu1;obtain⟨od,hod⟩:∃od,(if c4=u then a4 else Option.map (fun x=>Addr.add x u) a4)=od:=⟨_,rfl⟩;have R1:=RdL.drop Bn_ HB6.rd huB (by omega) (c4-u);rw[Nat.mul_one,hod] at R1
         have R2:RdL byF 1 w6 (.slice od (u+n-u) (c4-u)) ((LB.drop u).take n):=by rw[show u+n-u=n by omega];exact RdL.take Bn_ R1 (k:=n) (by rw[List.length_drop];omega) (c4-u)
         have g7:=ga_ w6 (.cells #[] 5) none;have N7:=Aw_ (e:=5) byF 1 (Nat.le_refl w6.heap.size);have R7:=RdL.same R2 g7;have hz7:w6.heap.size≤(w6.alloc (.cells #[] 5)).heap.size:=g7.size;have D7:=hh_ (D6.out.same g7)
         have hlen7:n =((LB.drop u).take n).length:=by rw[List.length_take,List.length_drop];omega
         have Hlen7:=hh_ (show u+n-u =((LB.drop u).take n).length by omega)
         have hcb1 :((LB.drop u).take n).length*1≤140737488355328:=by rw[←hlen7];omega
         have hcb2 :((LB.drop u).take n).length≤9223372036854775807:=by rw[←hlen7];omega
         have hob:=hh_ fun q' hq'=>(D6.out.out.own.lt q' hq').2
         have hbb:=hh_ fun q' hq'=>(HB6.lt q' hq').2
         have bb2:=D7.out.box.cell;have hwu:IntKind.i64.wrap ((u:Int)+n)=u+n:=IntWalk.i64_in _ (by omega)
         have hun :(u:Int)+n≤(c4:Int):=by omega
         have hun1 :(u:Int)≤(u:Int)+n:=by omega
         have hu00 :(0:Int)≤(u:Int):=by omega
         have HS9:=hh_ HS2.out;clear R1 R2 g7 hlen7 D6 hfull HS2 HB6 bf1;generalize (LB.drop u).take n=BD at *
         go_upto_region 19 with(first
          |(at_builtin;refine A2_ Do_ Dp_ N7 R7 Hlen7.out hcb1 hcb2 hz7 (by rfl) _ _ (by rfl) (by rfl) (by rfl) ?_;intro v8 w8 o8 g8 l8;obtain⟨a8,c8,rfl⟩:=o8.shape;have D8:=hh_ (D7.out.same g8);have hbs8:q+2≤w8.heap.size:=D8.out.res.lt;have Hcs8:=hh_ (show(#[Value.slice a8 BD.length c8,.int .i64 0]:Array Value).toList=chF ⟨.slice a8 BD.length c8,⟨BD,0⟩⟩ from rfl);have Ho8:=hh_ o8;have hbs9:=g8.size;clear o8 g8 l8)
          |(at_builtin;refine Bw_ Ss_ Jh_ D8.out.out.own ⟨.slice a8 BD.length c8,⟨BD,0⟩⟩ (by intro u hu;simp[chF] at hu;rcases hu with rfl|rfl <;> rfl) hcb3 hcb4 hbs8 Hcs8.out (by rfl) _ _ (by rfl) (by rfl) (by rfl) ?_;intro v9 w9 o9 g9 l9;obtain⟨a9,c9,rfl⟩:=o9.shape))
         have D9:=D8.out.chunk (x:=⟨.slice a8 BD.length c8,⟨BD,0⟩⟩) Ho8.out.zero (fun k hk=>by have:=(Ho8.out.lt k hk).1;omega) (fun k hk h=>by have:=(Ho8.out.lt k h).1;have:=hob.out k hk;omega) (fun k hk h=>by have:=(Ho8.out.lt k h).1;have:=hbb.out k hk;omega) o9 g9 l9;simp only[List.length_append,List.length_singleton] at D9;replace D9:=hh_ D9;clear D8 D7 bb1 bb2 o9 g9 l9 N7 R7 Hlen7 hcb1 hcb2 hz7 hod;have bb1:=D9.out.box.cell;have bf1:=D9.out.box.free;have hg:w9.grownBy (w9.setCell ⟨q,0,none⟩ (.slice none 0 0)) (some q):=Ac_ (Ab_ _ _) _ _;have D10:=hh_ (D9.out.put hg ⟨[],0,false⟩ (v':=.slice none 0 0) (D9.out.box.set_ 0 _ rfl) (.inr ⟨rfl,rfl⟩))
         go_wp2_with fail
         refine⟨⟨k+1,.slice none 0 0,l++[⟨.slice a8 BD.length c8,⟨BD,0⟩⟩],by omega,by go_num,?_,?_⟩,by simp[RowKit.intOf];omega⟩
         ·rw[HN.out,HS9.out];exact D10.out
         ·rw[HN.out,HS9.out,List.map_append,HM.out];rfl
        ·have HS2:=hh_ (HS4.out.trans (if_neg (by omega)))
         have hfull' :(B.length:Int)+1-u<(n:Int):=by omega
         clear HS4 hfull
         go_wp2_with fail
         refine⟨⟨k+1,.slice a4 (B.length+1) c4,l,by omega,by go_num,?_,?_⟩,by simp[RowKit.intOf];omega⟩
         ·rw[HN.out,HS2.out];exact D6.out
         ·rw[HN.out,HS2.out];simpa using HM.out
      ·have HS2:=hh_ (HS3.out.trans ((if_neg (fun h=>e0 h.1)).trans (if_neg (fun h=>e0 h.1))))
       have e0' :(e==0)=false:=by simp[e0]
       clear HS3 e0
       go_wp2_with fail
       refine⟨⟨k+1,.slice a4 (B.length+1) c4,l,by omega,by go_num,?_,?_⟩,by simp[RowKit.intOf];omega⟩
       ·rw[HN.out,HS2.out];exact D6.out
       ·rw[HN.out,HS2.out];simpa using HM.out
   ·have HS1:=hh_ (show strS ⟨B,K,true⟩ b =(⟨B,K,true⟩,[]) by unfold strS;rw[if_pos rfl])
    go_wp2_with fail
    refine⟨⟨k+1,.slice ba B.length bc,l,by omega,by go_num,?_,?_⟩,by simp[RowKit.intOf];omega⟩
    ·rw[HN.out,HS1.out];exact HD.out
    ·rw[HN.out,HS1.out];simpa using HM.out
  ·obtain rfl:k=p.length:=by omega
   rw[List.take_length] at hD hm;obtain⟨bx,cx,rfl⟩:=hD.buf.shape;obtain⟨by',cy,rfl⟩:=hD.out.own.shape;have HD:=hh_ hD;have HM:=hh_ hm;have b1:=hD.box.cell;have r1:=hD.res.cell;have r2:=hD.res.free;have HP:=hh_ (show ∀en w' vb vo,en=.returned (.tuple #[.agg #[vb,.int .u64 (strF S0 p).1.skip,.bool (strF S0 p).1.broken],vo])→Own byF 1 5 w.heap.size w' vb (strF S0 p).1.buf→ChsG w.heap.size w' vo l→Off (chsF vo l) (ownF vb)→w.grownBy w' none→FeedP S0 p w en w' from fun en w' vb vo h1 h2 h3 h5 h4=>⟨vb,vo,l,h1,h2,h3,hm,h5,h4⟩);clear hm hlt hk;generalize strF S0 p=SF at *;obtain⟨⟨SB,SK,SR⟩,SC⟩:=SF;dsimp only at *
   go_wp2_with fail
   have rc:=(((HD.out.res.set_ 0 (.slice bx SB.length cx) rfl).set_ 1 (.int .u64 SK) rfl).set_ 2 (.bool SR) rfl).cell;have g1:wr.grownBy (((wr.setCell ⟨q+1,0,none⟩ (.slice bx SB.length cx)).setCell ⟨q+1,1,none⟩ (.int .u64 SK)).setCell ⟨q+1,2,none⟩ (.bool SR)) (some (q+1)):=Ac_ (Ac_ (Ac_ (Ab_ _ _) _ _) _ _) _ _;refine bodyPost_ret (v:=.tuple #[.agg #[.slice bx SB.length cx,.int .u64 SK,.bool SR],.slice by' l.length cy]) (by simp[results,Tryz.results46,go_sem,rc]) rfl ?_;have hqq:=HQ.out
   have hbl:=fun k hk=>(HD.out.buf.lt k hk).1
   exact HP.out _ _ _ _ rfl ((HD.out.buf.kept g1 (fun k hk e=>by cases e;have:=hbl _ hk;omega)).base fun k hk=>by have:=hbl k hk;omega) ((HD.out.out.kept chK g1 (fun k e=>by cases e;omega)).base (by omega)) (fun i hi hf=>hi.elim (fun e=>HD.out.a1 i hf e) fun⟨x,hx,e⟩=>HD.out.a2 x hx i hf e) (Af_ HD.out.G g1 (by omega))
end
section
open Go.RowKit Go.Sort
theorem Lk_ (S:Nat→Prop) (b:Nat) (L:List (Int×Int)) (acc:Int) (R:List Int) (r:Int) (w:World) (h:RLed S w b L acc R) :
  Calls Tryz.prog 49 #[.pointer (some ⟨b,0,none⟩),.int .i64 r] w (fun e w'=>e=.returned (.int .i64 (rejE r))∧RLed S w' b L acc (rejR R r)∧GrownS S w w'):=by
 have H:=hh_ h
 by_cases hr:r<1∨6<r
 ·have h1:=hh_ (show rejE r=1 from if_pos hr)
  have h2:rejR R r=R:=if_pos hr;rw[h2];clear h
  by_cases hr1:r<1
  ·go_enter Tryz.func49,Tryz.ntmps49
   go_wp2
   go_ret
   exact⟨by rw[h1.out];rfl,H.out,GrownS.refl _ _⟩
  ·have hr2:6<r:=by omega
   go_enter Tryz.func49,Tryz.ntmps49
   go_wp2
   go_ret
   exact⟨by rw[h1.out];rfl,H.out,GrownS.refl _ _⟩
 ·have hr1:1≤r:=by omega
  have hr2:r≤6:=by omega
  obtain⟨k,rfl⟩:∃k:Nat,r=k:=⟨r.toNat,by omega⟩
  have hkl:k<R.length:=by rw[h.len];omega
  have hgd:R.getD k 0=R[k]:=by rw[List.getD_eq_getElem?_getD,gq_ hkl];rfl
  have h1:=hh_ (show rejE (k:Int)=0 from if_neg hr)
  have h2:rejR R (k:Int)=R.set k (satA R[k] 1):=by rw[←hgd];exact if_neg hr
  have HR2:=hh_ h2;have HRW:=hh_ (c2_ h.rw (k:Int));rw[h2];obtain⟨vw,vt,vr,H0⟩:=h.rl;obtain⟨g,cap,hv,_,hgl,hcap,hck,hfr⟩:=H0.or.at_ A9_ hkl;have ck:=hck 0 _ rfl;rw[Nat.mul_one,Nat.add_zero] at ck;have fk:=hfr k;subst hv
  have C:=hh_ fun w=>Er_ R[k] 1 w (h.rw _ (mg_ hkl)) ⟨by omega,by omega⟩
  have H0h:=hh_ H0;have hlr:=h.len
  have HC:=hh_ fun w' (h:World.grownBy w w' none)=>((An_ h).1 g k hgl (by simp)).trans ck
  have HF:=hh_ fun w' (h:World.grownBy w w' none)=>((An_ h).2 g k hgl (by simp)).trans fk
  have HB:=hh_ fun w' (h:World.grownBy w w' none)=>(H0.same h).blk.cell
  have HP:=hh_ fun w' (h:World.grownBy w w' none)=>(H0.same h).putR hkl (satA R[k] 1)
  clear hr hgd h2 ck fk hck hfr h H0;rw[hlr] at *;generalize R[k]=x at *
  have hk0 :(0:Int)≤(k:Int):=by omega
  have hk7 :(k:Int)<7:=by omega
  go_enter Tryz.func49,Tryz.ntmps49
  go_upto_region 3 with fail
  have K6:World.grownBy w w.drew none:=gw_
  (refine rn_ 14 (fun k _ w v w'=>match k with | 12=>v=.int .u64 (satA x 1)∧World.grownBy w w' none | _=>False) ?_;simp only[ts_])
  generalize w.drew=w6 at *
  (refine tq_ 3 ?_;simp only[ts_,Nat.reduceAdd];(repeat(go_big_quiet_step (fail)));refine wpQuiet_nil ?_)
  (refine Rg.tree_op rfl rfl ?_;intro x3 mx3 dx3)
  clear dx3;have ax:=HB.out _ (Aa_ K6 mx3);unfold Bm_ at ax
  go_wp2_with fail
  refine⟨Ab_ _ _,?_⟩;clear ax
  (refine tq_ 4 ?_;simp only[ts_,Nat.reduceAdd];(repeat(go_big_quiet_step (fail)));refine wpQuiet_nil ?_)
  (refine Rg.tree_op rfl rfl ?_;intro x8 mx8 dx8)
  clear dx8;have ax:=HB.out _ (Aa_ K6 mx8);unfold Bm_ at ax
  go_wp2_with fail
  refine⟨Ab_ _ _,?_⟩;clear ax
  (refine tq_ 2 ?_;simp only[ts_,Nat.reduceAdd];(repeat(go_big_quiet_step (fail)));refine wpQuiet_nil ?_)
  (refine Rg.tree_op rfl rfl ?_;intro x11 mx11 dx11)
  clear dx11;have cx:=HC.out _ (Aa_ K6 mx11)
  go_wp2_with fail
  refine⟨Ab_ _ _,?_⟩;clear cx
  (refine Rg.tree_call rfl rfl rfl ?_;intro x12 mx12 dx12;refine⟨?_,?_⟩;· (unfold Rg.callSpec;go_simp;(refine(C.out x12).mono ?_;rintro e w' ⟨rfl,rfl⟩;exact⟨_,rfl,rfl,Ab_ _ _⟩)))
  clear dx12;rintro v12 y12 ⟨rfl,g12⟩;refine⟨g12,?_⟩;clear g12;simp only[pt_]
  (refine tq_ 1 ?_;simp only[ts_,Nat.reduceAdd];(repeat(go_big_quiet_step (fail)));refine wpQuiet_nil ?_)
  (refine Rg.tree_nil ?_;intro z mz dz cz)
  have KZ:=Aa_ K6 mz;have cc:=HC.out _ KZ;have fz:=HF.out _ KZ;clear dz cz
  go_wp2
  go_ret
  obtain⟨H5,G5⟩:=HP.out z KZ;rw[HR2.out] at HRW;exact⟨by rw[h1.out];rfl,⟨⟨_,_,_,H5⟩,H.out.asc,H.out.keys,H.out.vals,by rw[List.length_set];exact H.out.len,HRW.out⟩,(GrownS.none_ (S:=S) KZ).trans G5 (fun _ hi _=>hi)⟩
theorem Jk_ (S:Nat→Prop) (b:Nat) (L:List (Int×Int)) (acc:Int) (R:List Int) (w:World) (h:RLed S w b L acc R) (hl:L.length≤1000000000) :
  Calls Tryz.prog 53 #[.pointer (some ⟨b,0,none⟩)] w (RetOwn intF 1 3 (L.map (·.1)) w):=by
 obtain⟨vw,vt,vr,H0⟩:=h.rl;obtain⟨oa,oc,rfl⟩:=H0.ow.shape
 have hlen :(L.map (·.1)).length=L.length:=by simp
 have hb1 :(L.map (·.1)).length*8≤140737488355328:=by omega
 have hb2 :(L.map (·.1)).length≤9223372036854775807:=by omega
 have ax:=(H0.same (ga_ w (.cells #[] 3) none)).blk.cell;unfold Bm_ at ax;have N:=Aw_ (e:=3) intF 1 (Nat.le_refl w.heap.size);have RW:=(H0.ow.rd).same (ga_ w (.cells #[] 3) none);clear h H0 hlen;generalize L.map (·.1)=W at *
 go_enter Tryz.func53,Tryz.ntmps53
 go_wp2_with (at_builtin;refine A2_ Bv_ Bt_ N RW rfl hb1 hb2 (by simp) (by rfl) _ _ (by rfl) (by rfl) (by rfl) ?_;intro v4 w4 o4 g4 l4)
 go_ret
 exact⟨_,rfl,o4,Aa_ (ga_ w _ none) g4⟩
theorem Jg_ (S:Nat→Prop) (b:Nat) (L:List (Int×Int)) (acc:Int) (R:List Int) (w:World) (h:RLed S w b L acc R) :
  Calls Tryz.prog 58 #[.pointer (some ⟨b,0,none⟩)] w (RetOwn wordF 1 22 R w):=by
 obtain⟨vw,vt,vr,H0⟩:=h.rl;obtain⟨oa,oc,rfl⟩:=H0.or.shape;have hlen:=h.len
 have hb1:R.length*8≤140737488355328:=by omega
 have hb2:R.length≤9223372036854775807:=by omega
 have ax:=(H0.same (ga_ w (.cells #[] 22) none)).blk.cell;unfold Bm_ at ax;have N:=Aw_ (e:=22) wordF 1 (Nat.le_refl w.heap.size);have RW:=(H0.or.rd).same (ga_ w (.cells #[] 22) none);clear h H0 hlen
 go_enter Tryz.func58,Tryz.ntmps58
 go_wp2_with (at_builtin;refine A2_ C2_ Cz_ N RW rfl hb1 hb2 (by simp) (by rfl) _ _ (by rfl) (by rfl) (by rfl) ?_;intro v4 w4 o4 g4 l4)
 go_ret
 exact⟨_,rfl,o4,Aa_ (ga_ w _ none) g4⟩
theorem Hw_ (S:Nat→Prop) (b:Nat) (L:List (Int×Int)) (acc:Int) (R:List Int) (w:World) (h:RLed S w b L acc R) :
  Calls Tryz.prog 88 #[.pointer (some ⟨b,0,none⟩)] w (RetInt acc w):=by
 obtain⟨vw,vt,vr,H0⟩:=h.rl;have ax:=H0.blk.cell;unfold Bm_ at ax;clear h H0
 go_enter Tryz.func88,Tryz.ntmps88
 go_wp2
 go_ret
 exact Ai_ rfl (Ab_ _ _)
end
section
open Go.RowKit Go.Sort
theorem Cd_ {L:List Fp} (h:L.Pairwise Off) {i j:Nat} {P Q:Fp} (hi:L[i]?=some P) (hj:L[j]?=some Q) (hne:i≠j):Off P Q:=by
 obtain⟨hi1,rfl⟩:=gs_ hi;obtain⟨hj1,rfl⟩:=gs_ hj
 rcases Nat.lt_or_gt_of_ne hne with hlt|hlt
 ·exact List.pairwise_iff_getElem.1 h i j hi1 hj1 hlt
 ·exact(List.pairwise_iff_getElem.1 h j i hj1 hi1 hlt).symm
theorem Dw_ {w:World} {L:List Fp} (h:L.Pairwise Off) (hl:∀P∈L,Low w P) {j:Nat} {P P':Fp} (hj:L[j]?=some P) (hn:∀i,P' i→P i∨w.heap.size≤i) :(L.set j P').Pairwise Off:=by
 have hjl:=(gs_ hj).1
 have ho:∀i Q,i≠j→L[i]?=some Q→Off Q P':=fun i Q hne hi k hk hf=>by
  rcases hn k hf with e|e
  ·exact Cd_ h hi hj hne k hk e
  ·have:=hl Q (mo_ hi) k hk;omega
 refine List.pairwise_iff_getElem.2 fun a b ha hb hab=>?_
 rw[List.length_set] at ha hb
 by_cases hja:j=a
 ·subst hja
  rw[List.getElem_set_self,List.getElem_set_ne (by omega)];exact(ho b _ (by omega) (gq_ hb)).symm
 ·by_cases hjb:j=b
  ·subst hjb
   rw[List.getElem_set_self,List.getElem_set_ne hja];exact ho a _ (by omega) (gq_ ha)
  ·rw[List.getElem_set_ne hja,List.getElem_set_ne hjb]
   exact List.pairwise_iff_getElem.1 h a b ha hb hab
theorem RLed.tight {S:Fp} {w:World} {b:Nat} {L:List (Int×Int)} {acc:Int} {R:List Int} (h:RLed S w b L acc R):∃F:Fp,RLed F w b L acc R∧Low w F∧∀i,F i→S i:=by
 obtain⟨vw,vt,vr,r⟩:=h.rl;refine⟨fun i=>i=b∨ownF vw i∨ownF vt i∨ownF vr i,⟨⟨vw,vt,vr,⟨r.blk,r.ow,r.ot,r.or,.inl rfl,fun g hg=>⟨.inr (.inl hg),(r.sw g hg).2⟩,fun g hg=>⟨.inr (.inr (.inl hg)),(r.st g hg).2⟩,fun g hg=>⟨.inr (.inr (.inr hg)),(r.sr g hg).2⟩,r.awt,r.awr,r.atr⟩⟩,h.asc,h.keys,h.vals,h.len,h.rw⟩,fun i hi=>?_,fun i hi=>?_⟩
 ·rcases hi with rfl|hi|hi|hi
  ·exact r.blk.lt
  ·exact r.ow.low i hi
  ·exact r.ot.low i hi
  ·exact r.or.low i hi
 ·rcases hi with rfl|hi|hi|hi
  ·exact r.sb
  ·exact(r.sw i hi).1
  ·exact(r.st i hi).1
  ·exact(r.sr i hi).1
theorem RLed.mono {S T:Fp} {w:World} {b:Nat} {L:List (Int×Int)} {acc:Int} {R:List Int} (h:RLed S w b L acc R) (hT:∀i,S i→T i):RLed T w b L acc R:=by
 obtain⟨vw,vt,vr,r⟩:=h.rl;exact⟨⟨vw,vt,vr,⟨r.blk,r.ow,r.ot,r.or,hT _ r.sb,fun g hg=>⟨hT _ (r.sw g hg).1,(r.sw g hg).2⟩,fun g hg=>⟨hT _ (r.st g hg).1,(r.st g hg).2⟩,fun g hg=>⟨hT _ (r.sr g hg).1,(r.sr g hg).2⟩,r.awt,r.awr,r.atr⟩⟩,h.asc,h.keys,h.vals,h.len,h.rw⟩
def upF (F:Fp) (n:Nat):Fp:=fun i=>F i∨n≤i
theorem RLed.mov {F:Fp} {w w':World} {b:Nat} {L:List (Int×Int)} {acc:Int} {R:List Int} (h:RLed (upF F w.heap.size) w' b L acc R) (g:GrownS (upF F w.heap.size) w w'):∃F',RLed F' w' b L acc R∧Low w' F'∧Mov F F' w w':=by
 obtain⟨F',h1,h2,h3⟩:=h.tight;exact⟨F',h1,h2,⟨g.mono fun i hi hlt=>hi.elim id fun e=>absurd hlt (by omega),h3⟩⟩
abbrev rcluA (c:Cfg) (mark:Int) (vb:Value) (skip:Int) (broken:Bool) (bl:Nat) (vs vi:Value):Array Value:=#[.int .i64 c.Length,.int .i64 c.Lateness,.int .i64 c.Windows,.int .i64 c.Shards,.int .i64 c.Spread,.int .i64 c.Queue,.int .i64 c.Mode,.int .i64 c.Slots,.int .i64 c.Exact,.int .u64 c.Promote,.int .i64 c.Depth,.int .i64 c.Width,.int .i64 c.Top,.int .i64 c.Key,c.Classes,c.Table,.int .u64 c.Seed,.int .i64 mark,vb,.int .u64 skip,.bool broken,.pointer (some ⟨bl,0,none⟩),vs,vi]
structure RcG where
 (g:Nat) (vb:Value) (bl:Nat) (LF:Fp) (vs vi:Value) (sh:List RshG)
def RcG.parts (G:RcG):List Fp:=[oneF G.g,ownF G.vb,G.LF,ownF G.vs,ownF G.vi]++G.sh.map RshG.F
def RcG.F (G:RcG):Fp:=fun i=>∃P∈G.parts,P i
structure RcC (w:World) (G:RcG) (c:Cfg) (t:List Int) (K:CluM):Prop where
 gl:G.g<w.heap.size
 buf:Own byF 1 5 0 w G.vb K.str.buf
 led:RLed G.LF w G.bl K.led K.acc K.rej
 lel:Low w G.LF
 sp:Own ptrF 1 104 0 w G.vs (G.sh.map (·.g))
 it:Own itF 3 41 0 w G.vi K.items
 len:G.sh.length=K.sh.length
 shd:∀(i:Nat) s S,G.sh[i]?=some s→K.sh[i]?=some S→RSh w s c t S
 ap:G.parts.Pairwise Off
structure RClu (w:World) (G:RcG) (c:Cfg) (t:List Int) (K:CluM):Prop where
 blk:Blk w G.g (rcluA c K.mark G.vb K.str.skip K.str.broken G.bl G.vs G.vi)
 core:RcC w G c t K
section
variable {w w':World} {G:RcG} {c:Cfg} {t:List Int} {K:CluM}
theorem RcG.part_sh {i:Nat} {s:RshG} (h:G.sh[i]?=some s):G.parts[5+i]?=some s.F:=by
 unfold RcG.parts;rw[List.getElem?_append_right (by simp),show 5+i-[oneF G.g,ownF G.vb,G.LF,ownF G.vs,ownF G.vi].length=i by simp,List.getElem?_map,h];rfl
theorem RcC.shOf (h:RcC w G c t K) {s:RshG} (hs:s∈G.sh):∃(i:Nat) (S:ShM),G.sh[i]?=some s∧K.sh[i]?=some S∧RSh w s c t S:=by
 obtain⟨i,hi,e⟩:=List.getElem_of_mem hs
 have h1:G.sh[i]?=some s:=by rw[gq_ hi,e]
 have h2:i<K.sh.length:=by rw[←h.len];exact hi
 exact⟨i,K.sh[i],h1,gq_ h2,h.shd i _ _ h1 (gq_ h2)⟩
theorem RcC.lows (h:RcC w G c t K):∀P∈G.parts,Low w P:=by
 intro P hP;unfold RcG.parts at hP
 rcases ma_ hP with hP|hP
 ·simp only[List.mem_cons,List.not_mem_nil,or_false] at hP
  rcases hP with rfl|rfl|rfl|rfl|rfl
  ·intro i hi;rw[show i=G.g from hi];exact h.gl
  ·exact h.buf.low
  ·exact h.lel
  ·exact h.sp.low
  ·exact h.it.low
 ·obtain⟨s,hs,rfl⟩:=List.mem_map.1 hP
  obtain⟨_,_,_,_,hR⟩:=h.shOf hs;exact hR.low
theorem RcC.low (h:RcC w G c t K):Low w G.F:=fun i ⟨P,hP,hi⟩=>h.lows P hP i hi
theorem RcC.keptS {S:Fp} (h:RcC w G c t K) (k:GrownS S w w') (ho:∀P∈G.parts.drop 1,Off P S):RcC w' G c t K:=by
 have m1:ownF G.vb∈G.parts.drop 1:=by simp[RcG.parts]
 have m2:G.LF∈G.parts.drop 1:=by simp[RcG.parts]
 have m3:ownF G.vs∈G.parts.drop 1:=by simp[RcG.parts]
 have m4:ownF G.vi∈G.parts.drop 1:=by simp[RcG.parts]
 refine⟨Nat.lt_of_lt_of_le h.gl k.size,h.buf.offS k (ho _ m1),h.led.keptS k (ho _ m2),h.lel.up k.size,h.sp.offS k (ho _ m3),h.it.offS k (ho _ m4),h.len,fun i s S e1 e2=>(h.shd i s S e1 e2).keptS k (ho _ ?_),h.ap⟩
 have:s.F∈G.sh.map RshG.F:=List.mem_map_of_mem (mo_ e1)
 simp[RcG.parts,this]
theorem RcC.same (h:RcC w G c t K) (k:w.grownBy w' none):RcC w' G c t K:=h.keptS (GrownS.none_ (S:=fun _=>False) k) fun _ _ _ _=>id
theorem RcC.own (h:RcC w G c t K) (k:GrownS (oneF G.g) w w'):RcC w' G c t K:=by
 refine h.keptS k fun P hP=>?_
 obtain⟨i,hi,e⟩:=List.getElem_of_mem hP;rw[List.getElem_drop] at e;rw[List.length_drop] at hi;exact Cd_ h.ap (i:=1+i) (j:=0) (by rw[gq_ (by omega),e]) rfl (by omega)
theorem RcC.off (h:RcC w G c t K) {i j:Nat} {P Q:Fp} (hi:G.parts[i]?=some P) (hj:G.parts[j]?=some Q) (hne:i≠j):Off P Q:=Cd_ h.ap hi hj hne
theorem RcC.setB (h:RcC w G c t K) (k:w.grownBy w' none) {v':Value} {b':List UInt8} (ho:Own byF 1 5 w.heap.size w' v' b'):RcC w' { G with vb:=v' } c t { K with str:={ K.str with buf:=b' } }:=by
 have h1:=h.same k;refine⟨h1.gl,ho.zero,h1.led,h1.lel,h1.sp,h1.it,h1.len,h1.shd,?_⟩
 exact Dw_ (j:=1) (P:=ownF G.vb) (P':=ownF v') h.ap h.lows rfl fun i hi=>.inr (ho.lt i hi).1
theorem RcC.setL (h:RcC w G c t K) {F':Fp} {led':List (Int×Int)} {acc':Int} {rej':List Int} (hr:RLed F' w' G.bl led' acc' rej') (hl:Low w' F') (m:Mov G.LF F' w w'):RcC w' { G with LF:=F' } c t { K with led:=led',acc:=acc',rej:=rej' }:=by
 refine⟨Nat.lt_of_lt_of_le h.gl m.size,h.buf.offS m.grown (h.off (i:=1) (j:=2) rfl rfl (by omega)),hr,hl,h.sp.offS m.grown (h.off (i:=3) (j:=2) rfl rfl (by omega)),h.it.offS m.grown (h.off (i:=4) (j:=2) rfl rfl (by omega)),h.len,fun i s S e1 e2=>(h.shd i s S e1 e2).keptS m.grown (h.off (i:=5+i) (j:=2) (RcG.part_sh e1) rfl (by omega)),?_⟩;exact Dw_ (j:=2) (P:=G.LF) (P':=F') h.ap h.lows rfl m.new
theorem RcC.setI (h:RcC w G c t K) {v':Value} {l':List ItR} (ho:Own itF 3 41 0 w' v' l') (k:w.grownBy w' G.vi.ownBlock) (hL:Lies G.vi v' w.heap.size):RcC w' { G with vi:=v' } c t { K with items:=l' }:=by
 have g:GrownS (ownF G.vi) w w':=GrownS.of k fun j hj=>hj
 refine⟨Nat.lt_of_lt_of_le h.gl k.size,h.buf.offS g (h.off (i:=1) (j:=4) rfl rfl (by omega)),h.led.keptS g (h.off (i:=2) (j:=4) rfl rfl (by omega)),h.lel.up g.size,h.sp.offS g (h.off (i:=3) (j:=4) rfl rfl (by omega)),ho,h.len,fun i s S e1 e2=>(h.shd i s S e1 e2).keptS g (h.off (i:=5+i) (j:=4) (RcG.part_sh e1) rfl (by omega)),?_⟩
 refine Dw_ (j:=4) (P:=ownF G.vi) (P':=ownF v') h.ap h.lows rfl fun i hi=>?_
 rcases hL with e |⟨m,e1,e2⟩
 ·left;unfold ownF at hi ⊢;rw[←e];exact hi
 ·right;unfold ownF at hi;rw[e1] at hi;cases hi;exact e2
theorem Ht_ {i:Nat} {s s':RshG} (hi:G.sh[i]?=some s):RcG.parts { G with sh:=G.sh.set i s' }=G.parts.set (5+i) s'.F:=by
 unfold RcG.parts;dsimp only;rw[List.set_append_right _ _ (by simp),List.map_set]
 simp
theorem RcC.setS (h:RcC w G c t K) {i:Nat} {s s':RshG} {S':ShM} (hi:G.sh[i]?=some s) (hR:RSh w' s' c t S') (m:Mov s.F s'.F w w') (hg:s'.g=s.g):RcC w' { G with sh:=G.sh.set i s' } c t { K with sh:=K.sh.set i S' }:=by
 have hil:=(gs_ hi).1;have hp:=RcG.part_sh hi;refine⟨Nat.lt_of_lt_of_le h.gl m.size,h.buf.offS m.grown (h.off (i:=1) (j:=5+i) rfl hp (by omega)),h.led.keptS m.grown (h.off (i:=2) (j:=5+i) rfl hp (by omega)),h.lel.up m.size,?_,h.it.offS m.grown (h.off (i:=4) (j:=5+i) rfl hp (by omega)),by simp[h.len],?_,?_⟩
 ·have e :(G.sh.set i s').map (·.g)=G.sh.map (·.g):=by
   rw[List.map_set]
   refine List.ext_getElem? fun j=>?_
   by_cases hij:i=j
   ·subst hij
    rw[List.getElem?_set_self (by simpa using hil),List.getElem?_map,hi];simp[hg]
   ·rw[List.getElem?_set_ne hij]
  show Own ptrF 1 _ 0 w' G.vs ((G.sh.set i s').map (·.g))
  rw[e];exact h.sp.offS m.grown (h.off (i:=3) (j:=5+i) rfl hp (by omega))
 ·intro j u U e1 e2
  by_cases hij:i=j
  ·subst hij
   have hl:i<K.sh.length:=by rw[←h.len];exact hil
   have e1':some s'=some u:=(List.getElem?_set_self hil).symm.trans e1;have e2':some S'=some U:=(List.getElem?_set_self hl).symm.trans e2;cases e1';cases e2';exact hR
  ·have e1':G.sh[j]?=some u:=(List.getElem?_set_ne hij).symm.trans e1
   have e2':K.sh[j]?=some U:=(List.getElem?_set_ne hij).symm.trans e2;exact(h.shd j u U e1' e2').keptS m.grown (h.off (i:=5+j) (j:=5+i) (RcG.part_sh e1') hp (by omega))
 ·rw[Ht_ hi]
  exact Dw_ h.ap h.lows hp m.new
theorem RcG.F_part {j:Nat} {P:Fp} (h:G.parts[j]?=some P):∀i,P i→G.F i:=fun i hi=>⟨P,mo_ h,hi⟩
theorem mem_partsF {L:List Fp} {j:Nat} {P':Fp} {i:Nat} (h:∃P∈L.set j P',P i):P' i∨∃P∈L,P i:=by
 obtain⟨P,hP,hi⟩:=h
 rcases List.mem_or_eq_of_mem_set hP with hP|rfl
 ·exact .inr ⟨P,hP,hi⟩
 ·exact .inl hi
theorem RClu.same (h:RClu w G c t K) (k:w.grownBy w' none):RClu w' G c t K:=⟨h.blk.same k,h.core.same k⟩
theorem RClu.low (h:RClu w G c t K):Low w G.F:=h.core.low
theorem RClu.keptS {S:Fp} (h:RClu w G c t K) (k:GrownS S w w') (ho:Off G.F S):RClu w' G c t K:=
 ⟨h.blk.keptS k (ho G.g ⟨oneF G.g,by simp[RcG.parts],rfl⟩),h.core.keptS k fun P hP=>ho.left fun i hi=>⟨P,List.mem_of_mem_drop hP,hi⟩⟩
theorem RClu.setM (h:RClu w G c t K) (k:w.grownBy w' none) (m:Int):RClu (w'.setCell ⟨G.g,17,none⟩ (.int .i64 m)) G c t { K with mark:=m }∧Mov G.F G.F w (w'.setCell ⟨G.g,17,none⟩ (.int .i64 m)):=by
 have hg:GrownS (oneF G.g) w' (w'.setCell ⟨G.g,17,none⟩ (.int .i64 m)):=GrownS.of (Ac_ (Ab_ w' (some G.g)) 17 _) fun k e=>by cases e;rfl
 refine⟨⟨(h.blk.same k).set_ 17 _ rfl,?_⟩,⟨((GrownS.none_ k).trans hg fun i hi _=>RcG.F_part (j:=0) rfl i hi),fun i hi=>.inl hi⟩⟩
 have:=(h.core.same k).own hg
 exact⟨this.gl,this.buf,this.led,this.lel,this.sp,this.it,this.len,this.shd,this.ap⟩
theorem RClu.setL (h:RClu w G c t K) {F':Fp} {led':List (Int×Int)} {acc':Int} {rej':List Int} (hr:RLed F' w' G.bl led' acc' rej') (hl:Low w' F') (m:Mov G.LF F' w w'):RClu w' { G with LF:=F' } c t { K with led:=led',acc:=acc',rej:=rej' }∧Mov G.F (RcG.F { G with LF:=F' }) w w':=by
 have h0:=Cd_ h.core.ap (i:=0) (j:=2) rfl rfl (by omega);refine⟨⟨h.blk.keptS m.grown (h0 G.g rfl),h.core.setL hr hl m⟩,m.wide (RcG.F_part (j:=2) rfl) fun i hi=>?_⟩
 have:RcG.parts { G with LF:=F' }=G.parts.set 2 F':=rfl
 unfold RcG.F at hi;rw[this] at hi;exact(mem_partsF hi).elim .inr .inl
theorem RClu.setS (h:RClu w G c t K) {i:Nat} {s s':RshG} {S':ShM} (hi:G.sh[i]?=some s) (hR:RSh w' s' c t S') (m:Mov s.F s'.F w w') (hg:s'.g=s.g):RClu w' { G with sh:=G.sh.set i s' } c t { K with sh:=K.sh.set i S' }∧Mov G.F (RcG.F { G with sh:=G.sh.set i s' }) w w':=by
 have h0:=Cd_ h.core.ap (i:=0) (j:=5+i) rfl (RcG.part_sh hi) (by omega);refine⟨⟨h.blk.keptS m.grown (h0 G.g rfl),h.core.setS hi hR m hg⟩,m.wide (RcG.F_part (RcG.part_sh hi)) fun j hj=>?_⟩;unfold RcG.F at hj;rw[Ht_ hi] at hj;exact(mem_partsF hj).elim .inr .inl
theorem RClu.setI (h:RClu w G c t K) {v':Value} {l':List ItR} (ho:Own itF 3 41 0 w' v' l') (k:w.grownBy w' G.vi.ownBlock) (hL:Lies G.vi v' w.heap.size) :
  Blk w' G.g (rcluA c K.mark G.vb K.str.skip K.str.broken G.bl G.vs G.vi)∧RClu (w'.setCell ⟨G.g,23,none⟩ v') { G with vi:=v' } c t { K with items:=l' }∧Mov G.F (RcG.F { G with vi:=v' }) w (w'.setCell ⟨G.g,23,none⟩ v'):=by
 have h0:=Cd_ h.core.ap (i:=0) (j:=4) rfl rfl (by omega)
 have g:GrownS (ownF G.vi) w w':=GrownS.of k fun j hj=>hj
 have hb:=h.blk.keptS g (h0 G.g rfl)
 have hg:GrownS (oneF G.g) w' (w'.setCell ⟨G.g,23,none⟩ v'):=GrownS.of (Ac_ (Ab_ w' (some G.g)) 23 _) fun k e=>by cases e;rfl
 refine⟨hb,⟨hb.set_ 23 _ rfl,(h.core.setI ho k hL).own hg⟩,⟨(g.mono fun i hi _=>RcG.F_part (j:=4) rfl i hi).trans hg fun i hi _=>RcG.F_part (j:=0) rfl i hi,fun i hi=>?_⟩⟩
 have:RcG.parts { G with vi:=v' }=G.parts.set 4 (ownF v'):=rfl
 unfold RcG.F at hi;rw[this] at hi
 rcases mem_partsF hi with hi|hi
 ·rcases hL with e |⟨m,e1,e2⟩
  ·left;exact RcG.F_part (j:=4) (P:=ownF G.vi) rfl i (by unfold ownF at hi ⊢;rw[←e];exact hi)
  ·right;unfold ownF at hi;rw[e1] at hi;cases hi;exact e2
 ·exact .inl hi
theorem RClu.setB (h:RClu w G c t K) (k:w.grownBy w' none) {v':Value} {S':StrM} (ho:Own byF 1 5 w.heap.size w' v' S'.buf) :
  RClu (((w'.setCell ⟨G.g,18,none⟩ v').setCell ⟨G.g,19,none⟩ (.int .u64 S'.skip)).setCell ⟨G.g,20,none⟩ (.bool S'.broken)) { G with vb:=v' } c t { K with str:=S' }∧Mov G.F (RcG.F { G with vb:=v' }) w (((w'.setCell ⟨G.g,18,none⟩ v').setCell ⟨G.g,19,none⟩ (.int .u64 S'.skip)).setCell ⟨G.g,20,none⟩ (.bool S'.broken)):=by
 have hg:GrownS (oneF G.g) w' (((w'.setCell ⟨G.g,18,none⟩ v').setCell ⟨G.g,19,none⟩ (.int .u64 S'.skip)).setCell ⟨G.g,20,none⟩ (.bool S'.broken)):=GrownS.of (Ac_ (Ac_ (Ac_ (Ab_ w' (some G.g)) _ _) _ _) _ _) fun k e=>by cases e;rfl
 refine⟨⟨(((h.blk.same k).set_ 18 _ rfl).set_ 19 _ rfl).set_ 20 _ rfl,?_⟩,⟨(GrownS.none_ k).trans hg fun i hi _=>RcG.F_part (j:=0) rfl i hi,fun i hi=>?_⟩⟩
 ·have:=(h.core.setB k ho).own hg
  exact⟨this.gl,this.buf,this.led,this.lel,this.sp,this.it,this.len,this.shd,this.ap⟩
 ·have:RcG.parts { G with vb:=v' }=G.parts.set 1 (ownF v'):=rfl
  unfold RcG.F at hi;rw[this] at hi
  rcases mem_partsF hi with hi|hi
  ·exact .inr (ho.lt i hi).1
  ·exact .inl hi
end
end
section
open Go.RowKit
def Dm_ (o:List Int) (k:Nat) (x:Int):List Int:=o.set k (o[k]?.getD 0+x)
theorem Ge_ (o:List Int) (k:Nat) (x:Int) :(Dm_ o k x).length=o.length:=by simp[Dm_]
def trkN (c:Cfg):Int:=c.Shards*c.Windows*(c.Slots+c.Exact)
def queN (c:Cfg):Int:=c.Shards*c.Queue
def rowN (c:Cfg):Int:=c.Shards*c.Windows*c.Depth
def demB1 (c:Cfg) (l:List (Int×Int)):List Int:=Dm_ (List.replicate l.length 0) (fitI l (8*c.Width)) (rowN c)
def demB2 (c:Cfg) (l:List (Int×Int)):List Int:=Dm_ (demB1 c l) (fitI l 32) (trkN c)
def demB (c:Cfg) (l:List (Int×Int)):List Int:=Dm_ (demB2 c l) (fitI l 24) (queN c)
def keyF (l:List (Int×Int)) (X:Int) (d:List Int):Nat→Int×List Int
 | 0=>(-1,d)
 | n+1=>if ((fitI l ((n+1:Nat):Int):Nat):Int)≠(keyF l X d n).1 then (((fitI l ((n+1:Nat):Int):Nat):Int),Dm_ (keyF l X d n).2 (fitI l ((n+1:Nat):Int)) X) else keyF l X d n
def demF (c:Cfg) (l:List (Int×Int)):List Int:=(keyF l (trkN c+queN c) (demB c l) c.Key.toNat).2
def BdL (o:List Int) (M:Int):Prop:=∀k:Nat,0≤o[k]?.getD 0∧o[k]?.getD 0≤M
theorem BdL.add {o:List Int} {M x X:Int} (h:BdL o M) (hx:0≤x∧x≤X) (k:Nat):BdL (Dm_ o k x) (M+X):=by
 intro j;have h1:=h j;have h2:=h k;unfold Dm_;simp only[List.getElem?_set] at *
 by_cases e:k=j
 ·subst e
  rw[if_pos rfl]
  by_cases hl:k<o.length
  ·rw[if_pos hl];simp only[Option.getD_some];omega
  ·rw[if_neg hl];simp only[Option.getD_none];omega
 ·rw[if_neg e];omega
theorem BdL.zero (n:Nat):BdL (List.replicate n 0) 0:=by
 intro k;rw[List.getElem?_replicate]
 split <;> simp
theorem I3_ (l:List (Int×Int)) (X:Int) (d:List Int):∀n,(keyF l X d n).2.length=d.length
 | 0=>rfl
 | n+1=>by
  unfold keyF;split
  ·simp only;rw[Ge_,I3_ l X d n]
  ·exact I3_ l X d n
theorem BdL.mono {o:List Int} {M M':Int} (h:BdL o M) (hm:M≤M'):BdL o M':=fun k=>⟨(h k).1,Int.le_trans (h k).2 hm⟩
theorem Sg_ {l:List (Int×Int)} {X M:Int} {d:List Int} (h:BdL d M) (hX:0≤X∧X≤7000):∀n:Nat,BdL (keyF l X d n).2 (M+7000*n)
 | 0=>h.mono (by simp)
 | n+1=>by
  have ih:=Sg_ (l:=l) h hX n;unfold keyF;split
  ·exact(ih.add (x:=X) (X:=7000) hX (fitI l ((n+1:Nat):Int))).mono (by omega)
  ·exact ih.mono (by omega)
theorem Sq_ {c:Cfg} (h:CfgNums c):0≤rowN c∧rowN c≤256:=by
 have a1:=h.shards;have a2:=h.windows;have a3:=h.depth
 have m1:c.Shards*c.Windows≤64:=by have:=Int.mul_le_mul a1.2 a2.2 (by omega) (by omega);simpa using this
 have m0:0≤c.Shards*c.Windows:=Int.mul_nonneg (by omega) (by omega)
 have m2:c.Shards*c.Windows*c.Depth≤256:=by have:=Int.mul_le_mul m1 a3.2 (by omega) (by omega);simpa using this
 exact⟨Int.mul_nonneg m0 (by omega),m2⟩
theorem I8_ {c:Cfg} (h:CfgNums c):0≤trkN c∧trkN c≤6144:=by
 have a1:=h.shards;have a2:=h.windows;have a3:=h.slots;have a4:=h.exact
 have m1:c.Shards*c.Windows≤64:=by have:=Int.mul_le_mul a1.2 a2.2 (by omega) (by omega);simpa using this
 have m0:0≤c.Shards*c.Windows:=Int.mul_nonneg (by omega) (by omega)
 have m2:c.Shards*c.Windows*(c.Slots+c.Exact)≤6144:=by have:=Int.mul_le_mul m1 (show c.Slots+c.Exact≤96 by omega) (by omega) (by omega);simpa using this
 exact⟨Int.mul_nonneg m0 (by omega),m2⟩
theorem I0_ {c:Cfg} (h:CfgNums c):0≤queN c∧queN c≤512:=by
 have a1:=h.shards;have a2:=h.queue
 have m1:c.Shards*c.Queue≤512:=by have:=Int.mul_le_mul a1.2 a2.2 (by omega) (by omega);simpa using this
 exact⟨Int.mul_nonneg (by omega) (by omega),m1⟩
theorem Ok_ {c:Cfg} {l:List (Int×Int)} (h:CfgNums c):BdL (demB1 c l) 256:=by
 exact((BdL.zero l.length).add (Sq_ h) (fitI l (8*c.Width))).mono (by omega)
theorem Oc_ {c:Cfg} {l:List (Int×Int)} (h:CfgNums c):BdL (demB2 c l) 6400:=(Ok_ h).add (I8_ h) _
theorem Qv_ {c:Cfg} {l:List (Int×Int)} (h:CfgNums c):BdL (demB c l) 6912:=(Oc_ h).add (I0_ h) _
theorem X4_ (c:Cfg) (l:List (Int×Int)) :(demB c l).length=l.length:=by simp[demB,demB2,demB1,Ge_]
theorem Jp_ (c:Cfg) (l:List (Int×Int)) :(demF c l).length=l.length:=by unfold demF;rw[I3_,X4_]
theorem c6_ {c:Cfg} {l:List (Int×Int)} (h:CfgNums c) {n:Nat} (hn:n≤256):BdL (keyF l (trkN c+queN c) (demB c l) n).2 2000000:=by
 have h1:=I8_ h;have h2:=I0_ h
 have:=Sg_ (l:=l) (X:=trkN c+queN c) (Qv_ (l:=l) h) (by omega) n
 intro k
 have:=this k
 omega
def bz_ (o:List Int) (w:World) (e:Ending) (w':World):Prop:=
 ∃B,e=.returned (.tuple #[.slice (some ⟨B,0,none⟩) o.length o.length,.int .i64 0])∧w.heap.size≤B∧OutAt w' B o∧w.grownBy w' none
structure Cq_ (c:Cfg) (n:Nat) (w:World) (B:Nat) (out:List Int) (wx:World):Prop where
 box:BoxAt wx w.heap.size c
 len:out.length=n
 out:OutAt wx B out
 grown:w.grownBy wx none
 lt:w.heap.size<B
section
variable {c:Cfg} {n:Nat} {w:World} {B:Nat} {out:List Int} {wx wy:World}
theorem Cq_.set (h:Cq_ c n w B out wx) (k:Nat) (x:Int):Cq_ c n w B (out.set k x) (wx.setCell ⟨B,k,none⟩ (.int .i64 x)):=
 ⟨h.box.kept (Ac_ (Ab_ wx _) k _) (by have:=h.lt;simp;omega),by simpa using h.len,h.out.set k x,Aj_ h.grown (Nat.le_of_lt h.lt) _,h.lt⟩
theorem Cq_.add (h:Cq_ c n w B out wx) (k:Nat) (x:Int):Cq_ c n w B (Dm_ out k x) (wx.setCell ⟨B,k,none⟩ (.int .i64 (out[k]?.getD 0+x))):=h.set k _
theorem Cq_.same (h:Cq_ c n w B out wx) (hg:wx.grownBy wy none):Cq_ c n w B out wy:=
 ⟨h.box.same hg,h.len,h.out.kept hg (by simp),Aa_ h.grown hg,h.lt⟩
theorem Cq_.drew (h:Cq_ c n w B out wx):Cq_ c n w B out wx.drew:=h.same (Am_ (Ab_ _ _))
theorem Cq_.cell (h:Cq_ c n w B out wx) {k:Nat} (hk:k<n):wx.cell? ⟨B,k,none⟩=some (.int .i64 (out[k]?.getD 0)):=by
 rw[←List.getD_eq_getElem?_getD];exact h.out.cell (by rw[h.len];exact hk)
theorem Cq_.free (h:Cq_ c n w B out wx) (k:Nat):wx.frozen? ⟨B,k,none⟩=false:=h.out.free k
end
attribute [local go_sem ↓] Ag_
attribute [local go_sem] Ah_
theorem Ll_ (c:Cfg) (l:List (Int×Int)) (t:List Int) (w:World) (hn:CfgNums c) (hm:CfgMem c l t w) (hc:Fp_ c l) :
  Calls Tryz.prog 40 #[c.val] w (bz_ (demF c l) w):=by
 obtain⟨a11,a12⟩:=hn.width;have hp:0<l.length:=hc.ok.pos;have hp8:l.length≤8:=hc.ok.len;obtain⟨g,off,cap,hv,hgl,hcl⟩:=hm.classes.cell C8_ hp;have k1:=Ji_ (8*c.Width) hp;have k2:=Ji_ 32 hp;have k3:=Ji_ 24 hp;have Hn:=hh_ hn;have Hm:=hh_ hm;have Hc:=hh_ hc;have Hv:=hh_ hv
 have HR:Hid (∀w',w.grownBy w' none→RdL clsF 2 w' (.slice (some ⟨g,off,none⟩) l.length cap) l):=hh_ fun w' hg=>by rw[←hv];exact(hm.same hg).classes
 have hmk:=Rn_ l.length (by omega);clear hn hm hc hcl hv
 go_enter Tryz.func40,Tryz.ntmps40
 go_upto_region 6 with(first |(refine As_ rfl _ rfl c rfl ?_;intro w1 B1 G1 z1) |(refine Al_ rfl _ rfl _ rfl c (by assumption) ?_) |(go_at_call 75;refine(Ko_ c l t _ Hn.out (Hm.out.same G1) Hc.out).mono ?_;rintro e w2 ⟨rfl,G2⟩;have B2:=B1.same G2;have K2:=Aa_ G1 G2;have hb2:=B2.cell;simp only[Cfg.arr,Hv.out] at hb2;have z2:=Nat.lt_of_lt_of_le z1 G2.size;clear G1 G2 B1 z1) |(go_at_call 76;refine(Ub_ _ l _ _ (HR.out _ (Aa_ K2 (ga_ w2 _ _)))).mono ?_;rintro e w3 ⟨rfl,G3⟩;have B3:=(B2.same (ga_ w2 _ _)).same G3;have O3:=hh_ ((OutAt.new w2 l.length).kept G3 (by simp));have K3:=Aa_ (Aa_ K2 (ga_ w2 _ _)) G3;have hb3:=B3.cell;simp only[Cfg.arr,Hv.out] at hb3;clear hb2 G3 B2))
 obtain⟨B,hB⟩:∃B,B=w2.heap.size:=⟨_,rfl⟩;have S3:Cq_ c l.length w B (List.replicate l.length 0) w3:=⟨B3,by simp,by rw[hB];exact O3.out,K3,by rw[hB];exact z2⟩;have Hd1:=hh_ (show demB1 c l=Dm_ (List.replicate l.length 0) (fitI l (8*c.Width)) (rowN c) from rfl);have hb0:=BdL.zero l.length (fitI l (8*c.Width));have oc:=(S3.cell k1);have oc':=(O3.out.cell (k:=fitI l (8*c.Width)) (by simpa using k1));have of:=O3.out.free (fitI l (8*c.Width))
 have ok :(0:Int)≤(fitI l (8*c.Width):Nat):=by omega
 have ok' :((fitI l (8*c.Width):Nat):Int)<l.length:=by omega
 clear oc';rw[←hB] at of;rw[←hB];clear hmk B3 O3 K3 hB;generalize List.replicate l.length (0:Int)=o0 at *;have R1:=Sq_ Hn.out;have R2:=I8_ Hn.out;have R3:=I0_ Hn.out;unfold rowN at R1;unfold trkN at R2;unfold queN at R3;have R4:0≤c.Shards*c.Windows∧c.Shards*c.Windows≤64:=⟨Int.mul_nonneg (by have:=Hn.out.shards;omega) (by have:=Hn.out.windows;omega),by have:=Int.mul_le_mul Hn.out.shards.2 Hn.out.windows.2 (by have:=Hn.out.windows;omega) (by omega);simpa using this⟩;obtain⟨R1a,R1b⟩:=R1;obtain⟨R2a,R2b⟩:=R2;obtain⟨R3a,R3b⟩:=R3;obtain⟨R4a,R4b⟩:=R4;obtain⟨hb0a,hb0b⟩:=hb0;obtain⟨hsl1,hsl2⟩:=Hn.out.slots;obtain⟨hex1,hex2⟩:=Hn.out.exact
 go_cut [5] (fun s5 wx=>s5=.slice (some ⟨B,0,none⟩) l.length l.length∧Cq_ c l.length w B (demB1 c l) wx)
 case first=>
  go_still_tail 14,(by kernel_rfl)
  go_wp2_with fail
  go_meet
  exact⟨rfl,by rw[Hd1.out];exact S3.drew.add _ (rowN c)⟩
 case rest=>
  obtain⟨rfl,S4⟩:=hcut;clear hb3;have hb4:=S4.box.cell;simp only[Cfg.arr,Hv.out] at hb4
  go_upto_region 8 with(go_at_call 76;refine(Ub_ _ l _ _ (HR.out _ S4.grown)).mono ?_;rintro e w5 ⟨rfl,G5⟩;have S5:=S4.same G5;clear G5 hb4)
  go_cut [5] (fun s5 wx=>s5=.slice (some ⟨B,0,none⟩) l.length l.length∧Cq_ c l.length w B (demB2 c l) wx)
  case first=>
   have Hd2:=hh_ (show demB2 c l=Dm_ (demB1 c l) (fitI l 32) (trkN c) from rfl);obtain⟨bx0,bx1⟩:=Ok_ (l:=l) Hn.out (fitI l 32);generalize demB1 c l=o1 at *;have hx5:=S5.cell k2
   have hk2 :(0:Int)≤(fitI l 32:Nat):=by omega
   have hk2' :((fitI l 32:Nat):Int)<l.length:=by omega
   obtain⟨r1,r2,r3⟩:=S5.box.re;have r4:=cell_regrown hx5
   have r5:=Bg_ (w:=w5) fun w' hg=>Kx_ c l t w' Hn.out (Hm.out.same (Aa_ S5.grown hg)) Hc.out
   refine Tail.wp_region_tail_grown 8 (by kernel_rfl) (by kernel_rfl) ?_;simp only[List.take,List.drop]
   repeat(go_big_quiet_step (exact r5 _ _))
   refine wpQuiet_nil ?_;rintro _ ⟨⟨d5,os5⟩,rfl⟩;have S5':=S5.same (Az_ w5 d5 os5);have hx5':=S5'.cell k2;have hf5:=S5'.free (fitI l 32);clear r1 r2 r3 r4 r5;generalize Go.Sort.grow (redrawn w5 d5) os5=w6 at *
   go_wp2_with fail
   go_meet
   exact⟨rfl,by rw[Hd2.out];exact S5'.add _ (trkN c)⟩
  case rest=>
   obtain⟨rfl,S6⟩:=hcut;have hb6:=S6.box.cell;simp only[Cfg.arr,Hv.out] at hb6
   go_upto_region 10 with(go_at_call 76;refine(Ub_ _ l _ _ (HR.out _ S6.grown)).mono ?_;rintro e w7 ⟨rfl,G7⟩;have S7:=S6.same G7;clear G7 hb6)
   go_cut [5] (fun s5 wx=>s5=.slice (some ⟨B,0,none⟩) l.length l.length∧Cq_ c l.length w B (demB c l) wx)
   case first=>
    have Hd3:=hh_ (show demB c l=Dm_ (demB2 c l) (fitI l 24) (queN c) from rfl);obtain⟨bx0,bx1⟩:=Oc_ (l:=l) Hn.out (fitI l 24);generalize demB2 c l=o2 at *;have hx7:=S7.cell k3
    have hk3 :(0:Int)≤(fitI l 24:Nat):=by omega
    have hk3' :((fitI l 24:Nat):Int)<l.length:=by omega
    have hf7:=S7.free (fitI l 24);have hb7:=S7.box.cell
    go_still_tail 11,(by kernel_rfl)
    go_wp2_with fail
    go_meet
    exact⟨rfl,by rw[Hd3.out];exact S7.drew.add _ (queN c)⟩
   case rest=>
    obtain⟨rfl,S8⟩:=hcut;obtain⟨y1,y2⟩:=Hn.out.key;have HF0:=hh_ (show keyF l (trkN c+queN c) (demB c l) 0 =(-1,demB c l) from rfl);have HFs:=hh_ (p:=∀n:Nat,keyF l (trkN c+queN c) (demB c l) (n+1)=if ((fitI l ((n+1:Nat):Int):Nat):Int)≠(keyF l (trkN c+queN c) (demB c l) n).1 then (((fitI l ((n+1:Nat):Int):Nat):Int),Dm_ (keyF l (trkN c+queN c) (demB c l) n).2 (fitI l ((n+1:Nat):Int)) (trkN c+queN c)) else keyF l (trkN c+queN c) (demB c l) n) (fun n=>rfl);have HFe:=hh_ (show demF c l =(keyF l (trkN c+queN c) (demB c l) c.Key.toNat).2 from rfl)
    have HFb:=hh_ fun(n:Nat) (hn:n≤256)=>c6_ (l:=l) Hn.out hn
    have HFl:=hh_ (Jp_ c l);generalize keyF l (trkN c+queN c) (demB c l)=F at *
    go_wp2_with fail
    go_loopw [12,13] (fun s12 s13 wr=>∃(k n:Nat) (la:Int) (o:List Int),k=n+1∧s13=.int .i64 k∧s12=.int .i64 la∧F n =(la,o)∧(k:Int)≤c.Key+1∧Cq_ c l.length w B o wr) (fun _ s13 _=>(c.Key+1-RowKit.intOf s13).toNat)
    case atStart=>exact⟨1,0,-1,_,rfl,rfl,rfl,HF0.out,by omega,S8⟩
    case round=>
     obtain⟨k,n,la,o9,hkn,rfl,rfl,hFn,hk,S9⟩:=hrel;have hb9:=S9.box.cell;simp only[Cfg.arr,Hv.out] at hb9;have hbd:=HFb.out n (by omega);have hFs:=HFs.out n;rw[hFn] at hbd hFs;rw[←hkn] at hFs;have HFn:=hh_ hFs;have HKn:=hh_ hkn;have HF2:=hh_ hFn;clear hFs hkn hFn;have kk:=Ji_ (l:=l) (k:Int) hp
     by_cases hlt :(k:Int)≤c.Key
     ·cases hq :((fitI l (k:Int):Int) != la)
      ·have HQ:=hh_ (show F k =(la,o9) from HFn.out.trans (if_neg (by simpa using hq)))
       go_wp2_with (go_at_call 76;refine(Ub_ _ l _ _ (HR.out _ S9.grown)).mono ?_;rintro e w10 ⟨rfl,G10⟩)
       exact⟨⟨k+1,k,la,o9,rfl,by go_num,rfl,HQ.out,by omega,S9.same G10⟩,by simp[RowKit.intOf];omega⟩
      ·have HQ:=hh_ (show F k =(((fitI l (k:Int):Nat):Int),Dm_ o9 (fitI l (k:Int)) (trkN c+queN c)) from HFn.out.trans (if_pos (by simpa using hq)))
       go_wp2_with (go_at_call 76;refine(Ub_ _ l _ _ (HR.out _ S9.grown)).mono ?_;rintro e w10 ⟨rfl,G10⟩;have S10:=S9.same G10;clear G10 hb9)
       have hx10:=S10.cell kk;obtain⟨bx0,bx1⟩:=hbd (fitI l (k:Int))
       have hk4 :(0:Int)≤(fitI l (k:Int):Nat):=by omega
       have hk4' :((fitI l (k:Int):Nat):Int)<l.length:=by omega
       obtain⟨r1,r2,r3⟩:=S10.box.re;have r4:=cell_regrown hx10
       have r5:=Bg_ (w:=w10) fun w' hg=>Kx_ c l t w' Hn.out (Hm.out.same (Aa_ S10.grown hg)) Hc.out
       refine Tail.wp_region_tail_grown 14 (by kernel_rfl) (by kernel_rfl) ?_;simp only[List.take,List.drop]
       repeat(go_big_quiet_step (exact r5 _ _))
       refine wpQuiet_nil ?_;rintro _ ⟨⟨d5,os5⟩,rfl⟩;have S10':=S10.same (Az_ w10 d5 os5);have hx10':=S10'.cell kk;have hf10:=S10'.free (fitI l (k:Int));clear r1 r2 r3 r4 r5 hx10;generalize Go.Sort.grow (redrawn w10 d5) os5=w11 at *
       go_wp2_with fail
       refine⟨⟨k+1,k,_,_,rfl,by go_num,rfl,HQ.out,by omega,S10'.add _ (trkN c+queN c)⟩,?_⟩
       simp[RowKit.intOf];omega
     ·have HQ:=hh_ (show demF c l=o9 by rw[HFe.out,show c.Key.toNat=n by have:=HKn.out;omega,HF2.out])
      go_wp2_with fail
      go_ret2
      have hl9:=HFl.out;rw[HQ.out] at hl9 ⊢;exact⟨B,by rw[hl9];rfl,Nat.le_of_lt S9.lt,S9.out,S9.grown⟩
end
section
open Go.RowKit
def keysAdd (d:List Int) (X:Int):Nat→List Int
 | 0=>d
 | m+1=>Dm_ (keysAdd d X m) m X
theorem Gl_ (d:List Int) (X:Int):∀m,(keysAdd d X m).length=d.length
 | 0=>rfl
 | m+1=>by unfold keysAdd;rw[Ge_,Gl_ d X m]
theorem Tu_ (o:List Int) (k:Nat) (x:Int) (j:Nat) :(Dm_ o k x)[j]?.getD 0=if k=j∧j<o.length then o[j]?.getD 0+x else o[j]?.getD 0:=by
 unfold Dm_;rw[List.getElem?_set]
 by_cases e:k=j
 ·subst e
  rw[if_pos rfl]
  by_cases hl:k<o.length
  ·rw[if_pos hl,if_pos ⟨rfl,hl⟩];rfl
  ·rw[if_neg hl,if_neg (fun h=>hl h.2),List.getElem?_eq_none (by omega)]
 ·rw[if_neg e,if_neg (fun h=>e h.1)]
theorem Ha_ (d:List Int) (X:Int):∀(m j:Nat),(keysAdd d X m)[j]?.getD 0=if j<m∧j<d.length then d[j]?.getD 0+X else d[j]?.getD 0
 | 0,j=>by simp[keysAdd]
 | m+1,j=>by
  unfold keysAdd;rw[Tu_,Gl_,Ha_ d X m j]
  by_cases h1:m=j
  ·subst h1
   by_cases h2:m<d.length
   ·rw[if_pos ⟨rfl,h2⟩,if_neg (by omega),if_pos ⟨by omega,h2⟩]
   ·rw[if_neg (fun h=>h2 h.2),if_neg (by omega),if_neg (fun h=>h2 h.2)]
  ·rw[if_neg (fun h=>h1 h.1)]
   by_cases h2:j<m∧j<d.length
   ·rw[if_pos h2,if_pos ⟨by omega,h2.2⟩]
   ·rw[if_neg h2,if_neg (fun h=>h2 ⟨by omega,h.2⟩)]
theorem Mr_ {l:List (Int×Int)} {size:Int} {k:Nat} {p:Int×Int} (hs:1≤size) (h:∀(j:Nat) (p:Int×Int),j<k→l[j]?=some p→p.1<size) (hk:l[k]?=some p) (hp:size≤p.1):fitI l size=k:=by
 unfold fitI;rw[O8_ hs h hk hp];rfl
theorem dc_ {l:List (Int×Int)} {n:Int} (hn:1≤n) {q:Int×Int} {m:Nat} (hq:l[m]?=some q) (hl:n≤q.1) :
  ∃p,l[fitI l n]?=some p∧n≤p.1∧∀(j:Nat) (p:Int×Int),j<fitI l n→l[j]?=some p→p.1<n:=by
 unfold fitI fit;rw[if_pos hn]
 cases hf:l.findIdx? (fun p=>decide (n≤p.1)) with
 | none=>
  rw[List.findIdx?_eq_none_iff] at hf
  have:=hf q (mo_ hq)
  simp at this;omega
 | some k=>
  rw[List.findIdx?_eq_some_iff_getElem] at hf;obtain⟨h1,h2,h3⟩:=hf;refine⟨l[k],by simp[gq_ h1],by simpa using h2,fun j p hj hp=>?_⟩;simp only[Option.getD_some] at hj;obtain⟨h4,rfl⟩:=gs_ hp
  have:=h3 j hj
  simpa using this
theorem Wb_ {l:List (Int×Int)} (h:Mc_ l) {n:Int} (hn:1≤n) {q:Int×Int} {m:Nat} (hq:l[m]?=some q) (hl:n+1≤q.1):fitI l (n+1)=fitI l n∨fitI l (n+1)=fitI l n+1:=by
 obtain⟨p,hp,h1,h2⟩:=dc_ hn hq (by omega)
 by_cases hb:n+1≤p.1
 ·exact .inl (Mr_ (by omega) (fun j p hj hp=>by have:=h2 j p hj hp;omega) hp hb)
 ·right
  have hmk:fitI l n<m:=by
   rcases Nat.lt_trichotomy (fitI l n) m with h3|h3|h3
   ·exact h3
   ·rw[h3,hq] at hp;cases hp;omega
   ·have:=h2 m q h3 hq;omega
  have hml:=(gs_ hq).1;have hp2:l[fitI l n+1]?=some l[fitI l n+1]:=gq_ (by omega);have h4:=h.asc _ _ _ hp hp2;refine Mr_ (by omega) (fun j p' hj hp'=>?_) hp2 (by omega)
  rcases Nat.lt_or_ge j (fitI l n) with h5|h5
  ·have:=h2 j p' h5 hp';omega
  ·obtain rfl:j=fitI l n:=by omega
   rw[hp'] at hp;cases hp;omega
theorem cj_ {l:List (Int×Int)} (h:Mc_ l):fitI l 1=0:=by
 have hp:l[0]?=some (l[0]'h.pos):=gq_ h.pos;exact Mr_ (by omega) (fun j p hj _=>absurd hj (by omega)) hp (h.size 0 _ hp).1
theorem Rf_ {l:List (Int×Int)} (h:Mc_ l) (X:Int) (d:List Int) {q:Int×Int} {m:Nat} (hq:l[m]?=some q):∀n:Nat,((n+1:Nat):Int)≤q.1→keyF l X d (n+1) =((fitI l ((n+1:Nat):Int):Int),keysAdd d X (fitI l ((n+1:Nat):Int)+1))
 | 0,_=>by
  have h1:fitI l ((0+1:Nat):Int)=0:=cj_ h;unfold keyF;rw[h1]
  simp[keyF,keysAdd]
 | n+1,hn=>by
  have ih:=Rf_ h X d hq n (by omega);unfold keyF;rw[ih];have hs:=Wb_ h (n:=((n+1:Nat):Int)) (by omega) hq (by omega);rw[show((n+1:Nat):Int)+1 =((n+1+1:Nat):Int) by omega] at hs
  rcases hs with e|e
  ·rw[e,if_neg (by simp)]
  ·rw[e,if_pos (by simp only;omega)]
   rfl
theorem ar_ {c:Cfg} {l:List (Int×Int)} (hn:CfgNums c) (hc:Fp_ c l):demF c l=keysAdd (demB c l) (trkN c+queN c) (fitI l c.Key+1):=by
 have hk:=hn.key;have hp:=hc.ok.pos;have hq:l[l.length-1]?=some (l[l.length-1]'(by omega)):=gq_ (by omega);obtain⟨k,hkk⟩:∃k:Nat,c.Key.toNat=k+1:=⟨c.Key.toNat-1,by omega⟩
 have hk2 :((k+1:Nat):Int)=c.Key:=by omega
 unfold demF;rw[hkk,Rf_ hc.ok _ _ hq k (by rw[hk2];exact(hc.last _ hq).2.2),hk2]
theorem U0_ {c:Cfg} {l:List (Int×Int)} (hn:CfgNums c) (hc:Fp_ c l) (i:Nat):0≤(demF c l)[i]?.getD 0∧(demF c l)[i]?.getD 0≤13568:=by
 have h1:=I8_ hn;have h2:=I0_ hn;have h3:=Qv_ (l:=l) hn i;rw[ar_ hn hc,Ha_]
 split <;> omega
theorem D3_ {l l':List (Int×Int)} (h:l.map (·.1)=l'.map (·.1)) (n:Int):fitI l n=fitI l' n:=by
 have key:∀l:List (Int×Int),fit l n=if 1≤n then (l.map (·.1)).findIdx? (fun s=>decide (n≤s)) else none:=by
  intro l;unfold fit
  split
  ·rw[List.findIdx?_map];rfl
  ·rfl
 unfold fitI;rw[key,key,h]
theorem Qf_ {c:Cfg} {l l':List (Int×Int)} (h:l.map (·.1)=l'.map (·.1)):demB c l=demB c l':=by
 have hl:l.length=l'.length:=by have:=congrArg List.length h;simpa using this
 unfold demB demB2 demB1;rw[D3_ h,D3_ h,D3_ h,hl]
theorem H1_ {l l':List (Int×Int)} (h:l.map (·.1)=l'.map (·.1)) (X:Int) (d:List Int):∀n,keyF l X d n=keyF l' X d n
 | 0=>rfl
 | n+1=>by unfold keyF;rw[H1_ h X d n,D3_ h]
theorem Pq_ {c:Cfg} {l l':List (Int×Int)} (h:l.map (·.1)=l'.map (·.1)):demF c l=demF c l':=by
 unfold demF;rw[Qf_ h,H1_ h]
end
section
open Go.RowKit
theorem ClsSt.setN {B b r g:Nat} {w:World} {c:Cfg} {t:List Int} {k:Nat} {l:List (Int×Int)} {wx:World} (S:ClsSt B b r g w c t k l wx) {i:Nat} (hi:i<l.length) (v:Int) :
  ClsSt B b r g w c t k (l.set i ((l.getD i (0,0)).1,v)) (wx.setCell ⟨k,i*2+1,none⟩ (.int .i64 v)):=by
 have h1:=S.st.deck.below;have h2:=S.st.old;have h3:=S.st.lt;have h4:=S.lt;have hg:wx.grownBy (wx.setCell ⟨k,i*2+1,none⟩ (.int .i64 v)) (some k):=Ac_ (Ab_ wx _) _ _;have h5:=S.st.grown.size;have h6:=S.st.low;refine⟨⟨S.st.nums,S.st.deck.kept hg (by intro x hx;cases hx;omega),S.st.box.kept hg (by simp;omega),S.st.res.kept hg (by simp;omega),S.st.table.kept hg ?_,S.st.tlen,S.st.twords,S.st.tblock,S.st.lt,S.st.old,S.st.low,?_⟩,S.spread,S.cls.set hi v,?_,S.lt,?_⟩
 ·intro x hx a n m hv
  cases hx
  have:=S.st.tblock a n m hv
  omega
 ·exact⟨S.st.grown.os,S.st.grown.tape,S.st.grown.output,by have:=S.st.grown.size;simpa [World.setCell] using this,fun i hi hnn=>(hg.block i (Nat.lt_of_lt_of_le hi h5) (by simp;omega)).trans (S.st.grown.block i hi hnn)⟩
 ·rw[S.val];simp
 ·simpa using S.len
def cntTo (l:List (Int×Int)) (o:List Int):Nat→List (Int×Int)
 | 0=>l
 | j+1=>(cntTo l o j).set j (((cntTo l o j).getD j (0,0)).1,o.getD j 0)
theorem Bz_ (l:List (Int×Int)) (o:List Int):∀j,(cntTo l o j).length=l.length
 | 0=>rfl
 | j+1=>by unfold cntTo;rw[List.length_set,Bz_ l o j]
theorem Ep_ (l:List (Int×Int)) (o:List Int):∀(j i:Nat) (p:Int×Int),l[i]?=some p→(cntTo l o j)[i]?=some (p.1,if i<j then o.getD i 0 else p.2)
 | 0,i,p,h=>by simpa [cntTo] using h
 | j+1,i,p,h=>by
  have ih:=Ep_ l o j i p h;have hl:=(gs_ h).1;unfold cntTo;rw[List.getElem?_set]
  by_cases e:j=i
  ·subst e
   rw[if_pos rfl,if_pos (by rw[Bz_];exact hl),if_pos (by omega)];rw[List.getD_eq_getElem?_getD,ih]
   rfl
  ·rw[if_neg e,ih]
   by_cases h2:i<j
   ·rw[if_pos h2,if_pos (by omega)]
   ·rw[if_neg h2,if_neg (by omega)]
theorem D4_ {l:List (Int×Int)} {o:List Int} {j i:Nat} {p:Int×Int} (h :(cntTo l o j)[i]?=some p):∃q,l[i]?=some q∧p =(q.1,if i<j then o.getD i 0 else q.2):=by
 have hl:=(gs_ h).1;rw[Bz_] at hl
 have:=Ep_ l o j i _ (gq_ hl)
 rw[h] at this;exact⟨_,gq_ hl,Option.some.inj this⟩
theorem Nh_ (l:List (Int×Int)) (o:List Int) (j:Nat) :(cntTo l o j).map (·.1)=l.map (·.1):=by
 apply List.ext_getElem?
 intro i;rw[List.getElem?_map,List.getElem?_map]
 cases h:l[i]? with
 | none=>rw[List.getElem?_eq_none (by rw[Bz_];exact List.getElem?_eq_none_iff.1 h)]
 | some p=>rw[Ep_ l o j i p h];rfl
structure ClsFit (c:Cfg) (l:List (Int×Int)):Prop where
 cls:Fp_ c l
 cnt:∀i (hi:i<l.length),l[i].2 =(demF c l)[i]?.getD 0
theorem I5_ {c:Cfg} {l l':List (Int×Int)} (hc:Fp_ c l) (hn:CfgNums c) (h:l'=cntTo l (demF c l) l.length):ClsFit c l':=by
 subst h;have hs:=Nh_ l (demF c l) l.length;have hd:demF c (cntTo l (demF c l) l.length)=demF c l:=Pq_ hs;refine⟨⟨⟨by rw[Bz_];exact hc.ok.pos,by rw[Bz_];exact hc.ok.len,fun i p hp=>?_,fun i p q hp hq=>?_⟩,fun p hp=>?_⟩,fun i hi=>?_⟩
 ·obtain⟨q,hq,rfl⟩:=D4_ hp
  have h1:=hc.ok.size i q hq;have h2:=U0_ hn hc i;have hl:=(gs_ hq).1;rw[if_pos hl,List.getD_eq_getElem?_getD];exact⟨h1.1,h1.2.1,h2.1,by show _≤_;have:=h2.2;simp only;omega⟩
 ·obtain⟨p',hp',rfl⟩:=D4_ hp
  obtain⟨q',hq',rfl⟩:=D4_ hq;exact hc.ok.asc i p' q' hp' hq'
 ·rw[Bz_] at hp
  obtain⟨q,hq,rfl⟩:=D4_ hp;exact hc.last q hq
 ·rw[hd]
  have hi2:i<l.length:=by rw[Bz_] at hi;exact hi
  have:=Ep_ l (demF c l) l.length i _ (gq_ hi2)
  rw[gq_ hi,if_pos hi2,List.getD_eq_getElem?_getD] at this;rw[Option.some.inj this]
def Nn_ (B b:Nat) (w:World) (e:Ending) (w':World):Prop:=
 ∃c l t,e=.returned c.val∧CfgNums c∧CfgMem c l t w'∧Deck B w' b∧w.grownBy w' (some b)∧(∀a n m,c.Table=.slice (some a) n m→w.heap.size≤a.block)∧(∀a n m,c.Classes=.slice (some a) n m→w.heap.size≤a.block)∧Nums0 c∧ClsFit c l
attribute [local go_sem ↓] Ag_
attribute [local go_sem] Ah_
theorem Sr_ {B:Nat} (b:Nat) (w:World) (hd:Deck B w b) (hB:B≤w.heap.size) :
  Calls Tryz.prog 18 #[.pointer (some ⟨b,0,none⟩)] w (Nn_ B b w):=by
 have hbB:=hd.below
 go_enter Tryz.func18,Tryz.ntmps18
 go_upto_region 1 with(refine Cw_ rfl rfl ?_;intro w1 BR GG z1)
 replace hd:=hd.kept GG (by simp);replace GG:=Ak_ GG (some b)
 have hB1:B≤w1.heap.size:=by omega
 simp only[pt_]
 go_cut [3] (fun s3 wx=>∃g c t,s3=.pointer (some ⟨g,0,none⟩)∧MakeSt B b w.heap.size g w c t wx)
 case first=>
  go_wp2_with (first |(refine Cw_ rfl rfl ?_;intro w4 BG G4 z4;replace BR:=BR.same G4;have ht7:=ht6.same G4;have hd4:=Deck.kept (by assumption) G4 (by simp);replace GG:=Aa_ GG (Ak_ G4 (some b));clear G4) |(refine Ct_ rfl _ _ rfl _ rfl ⟨_,_,_,_,_,_,_,_,_,_,_,_,_,_,_,_,_⟩ rfl rfl rfl Cfg.zero (by assumption) ?_;intro w5 BC G5) |(go_at_call 37;refine(A1_ b _ _ (by assumption) (by omega) (by omega)).mono ?_;rintro e w2 ⟨r,rfl,hr0,hr1,hd2,G2⟩;replace BR:=BR.kept G2 (by simp;omega);replace GG:=Aa_ GG G2;replace hB1:=lt_ hB1 G2.size;replace z1:=Nat.lt_of_lt_of_le z1 G2.size;clear G2) |(go_at_call 38;refine(Wu_ b _ (by assumption) hB1).mono ?_;rintro e w2 ⟨tv,tl,rfl,ht1,ht2,ht3,ht4,ht5,hd2,G2⟩;obtain⟨ta,tc,rfl⟩:=ht1.shape;replace BR:=BR.kept G2 (by simp;omega);replace GG:=Aa_ GG G2;have ht5':=hh_ (fun a n c h=>Nat.lt_of_lt_of_le z1 (ht5 a n c h));replace hB1:=lt_ hB1 G2.size;replace z1:=Nat.lt_of_lt_of_le z1 G2.size;clear G2 ht5) |(go_at_call 39;refine(Zs_ b _ (by assumption)).mono ?_;rintro e w3 ⟨r,rfl,hr0,hr1,hd3,G3⟩;replace BR:=BR.kept G3 (by simp;omega);replace GG:=Aa_ GG G3;have ht6:=ht1.kept G3 (by intro b' hb';cases hb';exact ht4);replace hB1:=lt_ hB1 G3.size;replace z1:=Nat.lt_of_lt_of_le z1 G3.size;clear G3))
  go_meet
  have hne:w3.heap.size≠w.heap.size:=by omega
  have hbg:B≤w3.heap.size:=hB1
  have hin:NotIn (.slice ta tl.length tc) w3.heap.size:=fun a n k hv=>Nat.ne_of_lt (ht6.blockLt (by omega) a n k hv)
  have ht8:RdL wordF 1 w5 (.slice ta 16 tc) tl:=by
   have hh:RdL wordF 1 w5 (.slice ta tl.length tc) tl:=ht7.kept G5 (by intro c hc;cases hc;exact hin);rw[ht2] at hh;exact hh
  refine⟨_,_,tl,rfl,⟨⟨?_,?_,?_,?_,?_,?_,?_,?_,?_,?_,?_,?_,?_,?_⟩,hd4.kept G5 (by intro c hc;cases hc;exact hbg),BC,BR.kept G5 (by simpa using hne),ht8,ht2,ht3,?_,z1,hB,rfl,?_⟩⟩
  case refine_15=>intro a n k hv;cases hv;exact⟨ht5'.out _ _ _ rfl,ht6.blockLt (by omega) _ _ _ rfl⟩
  case refine_16=>
   refine⟨G5.os.trans GG.os,G5.tape.trans GG.tape,G5.output.trans GG.output,lt_ GG.size G5.size,fun i hi hn=>(G5.block i (Nat.lt_of_lt_of_le hi GG.size) ?_).trans (GG.block i hi hn)⟩
   simp;omega
  all_goals (simp only;omega)
 case rest=>
  obtain⟨g,c,t,rfl,S1⟩:=hcut;have hn1:=S1.nums.shards;have hlt1:=S1.lt;have hold1:=S1.old;have c1:=S1.box.cell;obtain⟨m1,m2⟩:=hn1;have D1:=S1.deck
  go_upto_region 2 with fail
  go_cut [3] (fun s3 wx=>∃c',s3=.pointer (some ⟨g,0,none⟩)∧MakeSt B b w.heap.size g w c' t wx∧1≤c'.Spread∧c'.Spread≤c'.Shards)
  case first=>
   go_wp2_with ((go_at_call 37;refine(A1_ b _ _ (by assumption) (by omega) (by omega)).mono ?_;rintro e w2 ⟨r,rfl,hr0,hr1,hd2,G2⟩);have S2:=S1.next hd2 G2;have c2:=S2.box.cell;have f2:=S2.box.free;clear c1 G2)
   go_meet
   exact⟨⟨c.Length,c.Lateness,c.Windows,c.Shards,1+r,c.Queue,c.Mode,c.Slots,c.Exact,c.Promote,c.Depth,c.Width,c.Top,c.Key,c.Classes,c.Table,c.Seed⟩,rfl,S2.set 4 _ rfl ⟨S2.nums.1,S2.nums.2,S2.nums.3,S2.nums.4,S2.nums.5,S2.nums.6,S2.nums.7,S2.nums.8,S2.nums.9,S2.nums.10,S2.nums.11,S2.nums.12,S2.nums.13,S2.nums.14⟩ rfl,by simp only;omega,by simp only;omega⟩
  case rest=>
  obtain⟨c3,rfl,S3,h3a,h3b⟩:=hcut;clear c1 D1 S1 m1 m2;have D3:=S3.deck
  go_upto_if 54 with((go_at_call 37;refine(A1_ b _ _ (by assumption) (by omega) (by omega)).mono ?_;rintro e w2 ⟨r,rfl,hr0,hr1,hd2,G2⟩);have S4:=S3.next hd2 G2;have c4:=S4.box.cell;have f4:=S4.box.free;clear D3 G2)
  go_cut [3] (fun s3 wx=>∃c',s3=.pointer (some ⟨g,0,none⟩)∧MakeSt B b w.heap.size g w c' t wx∧1≤c'.Spread∧c'.Spread≤c'.Shards)
  case first=>
   go_wp2_with fail
   ·go_meet
    exact⟨⟨c3.Length,c3.Lateness,c3.Windows,c3.Shards,c3.Spread,64,c3.Mode,c3.Slots,c3.Exact,c3.Promote,c3.Depth,c3.Width,c3.Top,c3.Key,c3.Classes,c3.Table,c3.Seed⟩,rfl,S4.set 5 _ rfl ⟨S4.nums.1,S4.nums.2,S4.nums.3,S4.nums.4,by simp,S4.nums.6,S4.nums.7,S4.nums.8,S4.nums.9,S4.nums.10,S4.nums.11,S4.nums.12,S4.nums.13,S4.nums.14⟩ rfl,h3a,h3b⟩
   ·go_meet
    exact⟨c3,rfl,S4,h3a,h3b⟩
  case rest=>
  obtain⟨c5,rfl,S5,h5a,h5b⟩:=hcut;clear c4 f4 S4 S3 h3a h3b hd2;have D5:=S5.deck
  go_upto_if 58 with((go_at_call 37;refine(A1_ b _ _ (by assumption) (by omega) (by omega)).mono ?_;rintro e w2 ⟨r,rfl,hr0,hr1,hd2,G2⟩);have S6:=S5.next hd2 G2;clear D5 G2)
  go_cut [3] (fun s3 wx=>∃c',s3=.pointer (some ⟨g,0,none⟩)∧MakeSt B b w.heap.size g w c' t wx∧1≤c'.Spread∧c'.Spread≤c'.Shards)
  case first=>
   go_wp2_with ((go_at_call 37;refine(A1_ b _ _ (by assumption) (by omega) (by omega)).mono ?_;rintro e w2 ⟨r,rfl,hr0,hr1,hd2,G2⟩);have S7:=S6.next hd2 G2;have c7:=S7.box.cell;have f7:=S7.box.free;clear G2)
   ·go_meet
    exact⟨⟨c5.Length,c5.Lateness,c5.Windows,c5.Shards,c5.Spread,c5.Queue,c5.Mode,c5.Slots,c5.Exact,c5.Promote,c5.Depth,c5.Width,c5.Top,5+r,c5.Classes,c5.Table,c5.Seed⟩,rfl,S7.set 13 _ rfl ⟨S7.nums.1,S7.nums.2,S7.nums.3,S7.nums.4,S7.nums.5,S7.nums.6,S7.nums.7,S7.nums.8,S7.nums.9,S7.nums.10,S7.nums.11,S7.nums.12,by simp only;omega,S7.nums.14⟩ rfl,h5a,h5b⟩
   ·go_meet
    exact⟨c5,rfl,S6,h5a,h5b⟩
  case rest=>
  obtain⟨c8,rfl,S8,h8a,h8b⟩:=hcut;clear S6 S5 h5a h5b hd2;have c8c:=S8.box.cell;have f8:=S8.box.free;have l8:=S8.box.lt
  go_upto_region 7 with fail
  go_cut [3] (fun s3 wx=>∃c' k l,s3=.pointer (some ⟨g,0,none⟩)∧ClsSt B b w.heap.size g w c' t k l wx∧(l=fiveL∨l=oneL))
  case first=>
   go_wp2_with fail
   go_meet
   exact⟨_,_,fiveL,rfl,Kt_ S8 fiveL (by decide) ⟨h8a,h8b⟩,.inl rfl⟩
  case rest=>
  obtain⟨c9,k9,l9,rfl,S9,hl9⟩:=hcut;clear c8c f8 l8 S8 h8a h8b;have D9:=S9.st.deck
  go_upto_if 72 with((go_at_call 37;refine(A1_ b _ _ (by assumption) (by omega) (by omega)).mono ?_;rintro e w2 ⟨r,rfl,hr0,hr1,hd2,G2⟩);have S10:=S9.next hd2 G2;clear D9 G2)
  go_cut [3] (fun s3 wx=>∃c' k l,s3=.pointer (some ⟨g,0,none⟩)∧ClsSt B b w.heap.size g w c' t k l wx∧(l=fiveL∨l=oneL))
  case first=>
   have c10:=S10.st.box.cell;have f10:=S10.st.box.free;have l10:=S10.st.box.lt
   go_wp2_with fail
   ·go_meet
    exact⟨_,_,oneL,rfl,Kt_ S10.st oneL (by decide) S10.spread,.inr rfl⟩
   ·go_meet
    exact⟨_,_,_,rfl,S10,hl9⟩
  case rest=>
  obtain⟨c,k,l,rfl,S11,hl⟩:=hcut;clear S10 S9 hl9 hd2
  have hcls:Fp_ c l:=by
   have hw:=S11.st.nums.width;have hk:=S11.st.nums.key
   rcases hl with rfl|rfl
   ·exact⟨cy_,fun p hp=>by simp[fiveL] at hp;subst hp;simp only;omega⟩
   ·exact⟨dj_,fun p hp=>by simp[oneL] at hp;subst hp;simp only;omega⟩
  have B11:=S11.st.box;have Hcls:=hh_ hcls;clear hcls hl;have HDl:=hh_ (Jp_ c l)
  go_wp2_with (first |(refine Al_ rfl _ rfl _ rfl c (by assumption) ?_) |(go_at_call 40;refine(Ll_ c l t _ S11.nums S11.mem Hcls.out).mono ?_;rintro e w12 ⟨D,rfl,hD,hO,G12⟩;have S12:=S11.same G12;clear B11 G12))
  have hol:=HDl.out;obtain⟨out,hout⟩:∃out,demF c l=out:=⟨_,rfl⟩;have HOut:=hh_ hout;rw[hout] at hO hol ⊢;rw[hol];clear hout;have hl8:l.length≤8:=S11.len.2;have hkD:k<D:=Nat.lt_of_lt_of_le S11.cls.lt hD
  go_loopw [83] (fun s83 wr=>∃(j:Nat) (l':List (Int×Int)),s83=.int .i64 j∧j≤l.length∧l'.length=l.length∧l'=cntTo l out j∧ClsSt B b w.heap.size g w c t k l' wr∧OutAt wr D out) (fun s83 _=>l.length-(RowKit.intOf s83).toNat)
  case atStart=>exact⟨0,l,rfl,Nat.zero_le _,rfl,rfl,S12,hO⟩
  case round=>
   obtain⟨j,l',rfl,hj,hl',hct,S13,hO13⟩:=hrel;have Hct:=hh_ hct;clear hct
   by_cases hlt:j<l.length
   ·have hv:=S13.val
    obtain⟨r1,r2,r3⟩:=S13.st.box.re;simp only[Cfg.arr,hv,hl'] at r3;have r4:=cell_regrown (hO13.cell (k:=j) (by omega))
    have hjo :(0:Int)≤(j:Nat):=by omega
    have hjo' :((j:Nat):Int)<l.length:=by omega
    have Hl:=hh_ hl';have Hol:=hh_ hol;clear hv hl' hol
    go_wp2_with fail
    refine Tail.wp_region_tail_grown 9 (by kernel_rfl) (by kernel_rfl) ?_;simp only[List.take,List.drop]
    repeat(go_big_quiet_step (fail))
    refine wpQuiet_nil ?_;rintro _ ⟨⟨d5,os5⟩,rfl⟩;have S14:=S13.same (Az_ wr d5 os5);have hO14:=hO13.kept (Az_ wr d5 os5) (by simp);have hx14:=S14.cls.cell (i:=j) (by rw[Hl.out];exact hlt);have hf14:=S14.cls.free (j*2+1);clear r1 r2 r3 r4;generalize Go.Sort.grow (redrawn wr d5) os5=w14 at *;obtain⟨x14,hx14⟩:=hx14
    go_wp2_with fail
    have S15:=S14.setN (i:=j) (by rw[Hl.out];exact hlt) (out.getD j 0);refine⟨⟨j+1,_,by go_num,by omega,by simp[Hl.out],by rw[Hct.out];rfl,S15,hO14.kept (Ac_ (Ab_ _ _) _ _) (by simp;omega)⟩,?_⟩
    simp[RowKit.intOf];omega
   ·have B13:=S13.st.box
    have ho1:c.Classes.oneCell'=true:=by rw[S13.val];rfl
    have ho2:c.Table.oneCell'=true:=by obtain⟨a,cap,hv⟩:=S13.st.table.shape;rw[hv];rfl
    go_wp2_with (first |(refine Al_ rfl _ rfl _ rfl c (by assumption) ?_) |(refine Ct_ rfl _ _ rfl _ rfl c rfl ho1 ho2 Cfg.zero S13.st.res ?_;intro w20 B20 G20))
    obtain⟨tt,ff,hh,hff⟩:=B20.block;refine bodyPost_ret (v:=c.val) (results_cell_row rfl _ _ w.heap.size _ _ _ _ rfl hh Tryz.underlying31 rfl Db_) rfl ?_;have hm:=S13.mem;have hr1:=S13.st.lt;have hr2:=S13.lt;have hold:=S13.st.old
    have hjl:j=l.length:=by omega
    have hcl:=I5_ (l':=l') Hcls.out S13.nums (by rw[HOut.out,←hjl];exact Hct.out);refine⟨c,l',t,rfl,S13.nums,⟨hm.classes.kept G20 ?_,hm.table.kept G20 ?_,hm.tlen,hm.twords⟩,S13.st.deck.kept G20 (by intro x hx;cases hx;exact hold),?_,?_,?_,S13.st.nums,hcl⟩
    ·intro x hx a n m hv;cases hx;rw[S13.val] at hv;cases hv;simp;omega
    ·intro x hx a n m hv;cases hx;have:=S13.st.tblock a n m hv;omega
    ·have G13:=S13.st.grown
     exact⟨G20.os.trans G13.os,G20.tape.trans G13.tape,G20.output.trans G13.output,lt_ G13.size G20.size,fun i hi hn=>(G20.block i (Nat.lt_of_lt_of_le hi G13.size) (by simp;omega)).trans (G13.block i hi hn)⟩
    ·intro a n m hv;have:=S13.st.tblock a n m hv;omega
    ·intro a n m hv;rw[S13.val] at hv;cases hv;simp;omega
end
section
open Go.RowKit
def bP (c:Cfg) (t:List Int) (l:List Summ) (k:ByteArray) (i:Int):Int×Int:=match l[i.toNat]? with
 | some s=>(min (bndE s.es s.untr k).1 (sEstF c t s k),min (bndE s.es s.untr k).2 (sEstF c t s k))
 | none=>(0,0)
def addP (a x:Int×Int):Int×Int:=(satA a.1 x.1,satA a.2 x.2)
def foldB (c:Cfg) (t:List Int) (l:List Summ) (k:ByteArray) (is:List Int):Int×Int:=is.foldl (fun a i=>addP a (bP c t l k i)) (0,0)
def lineF (c:Cfg) (t:List Int) (l:List Summ) (k:ByteArray):Int×Int:=foldB c t l k ((setF c t k).filter (fun i:Int=>decide (i<(l.length:Int))))
structure Fk_ (l:List Summ):Prop where
 wf:∀s∈l,SumW s
 rows:∀s∈l,RowsOk s.rows
 len:∀s∈l,s.rows.length≤1000
theorem de_ {s:Summ} (h:SumW s) (k:ByteArray):W64 (bndE s.es s.untr k).1∧W64 (bndE s.es s.untr k).2:=by
 unfold bndE
 split
 ·rename_i e he
  obtain⟨h1,h2⟩:=h.es e (List.mem_of_find?_eq_some he);exact⟨h1,B5_ h1 h2⟩
 ·exact⟨Dq_,h.untr⟩
theorem bP_w {c:Cfg} {t:List Int} {l:List Summ} (h:Fk_ l) (k:ByteArray) (i:Int):W64 (bP c t l k i).1∧W64 (bP c t l k i).2:=by
 unfold bP
 split
 ·rename_i s hs
  have hm:=mo_ hs;obtain⟨h1,h2⟩:=de_ (h.wf s hm) k;have h3:=N0_ (c:=c) (t:=t) (h.wf s hm).total (h.rows s hm) k;exact⟨Mu_ h1 h3,Mu_ h2 h3⟩
 ·exact⟨Dq_,Dq_⟩
theorem Uo_ {c:Cfg} {t:List Int} {l:List Summ} (h:Fk_ l) (k:ByteArray) (is:List Int):W64 (foldB c t l k is).1∧W64 (foldB c t l k is).2:=by
 unfold foldB
 have:∀(is:List Int) (a:Int×Int),W64 a.1∧W64 a.2→W64 (is.foldl (fun a i=>addP a (bP c t l k i)) a).1∧W64 (is.foldl (fun a i=>addP a (bP c t l k i)) a).2:=by
  intro is
  induction is with
  | nil=>exact fun _ h=>h
  | cons i is ih=>
   intro a ha;simp only[List.foldl_cons];obtain⟨h1,h2⟩:=bP_w (c:=c) (t:=t) h k i;exact ih _ ⟨B5_ ha.1 h1,B5_ ha.2 h2⟩
 exact this is _ ⟨Dq_,Dq_⟩
theorem Qp_ (c:Cfg) (t:List Int) (l:List Summ) (k:ByteArray) (is:List Int) (i:Int):foldB c t l k (is++[i])=addP (foldB c t l k is) (bP c t l k i):=by simp[foldB]
theorem Mx_ {h m:Int} {n:Nat} (h1:1≤m):∀x∈setN h m n,0≤x∧x<m:=by
 intro x hx;obtain⟨i,_,rfl⟩:=List.mem_map.1 hx;exact⟨Int.emod_nonneg _ (by omega),Int.emod_lt_of_pos _ (by omega)⟩
end
end Go.Proofs.YtckmgjmeanloaaaGreat
